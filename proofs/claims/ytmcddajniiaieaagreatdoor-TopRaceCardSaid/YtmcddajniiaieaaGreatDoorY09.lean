/- TopRace: a part of the proof that it holds for every input and every schedule. -/
import Derived.Test.YtmcddajniiaieaaGreatDoorY08
import Derived.Test.YtmcddajniiaieaaGreatDoorY00
import Derived.Test.YtmcddajniiaieaaGreatDoorY06
import Derived.Test.YtmcddajniiaieaaGreatDoorY01
import Derived.Test.YtmcddajniiaieaaGreatDoorY03
set_option linter.unusedVariables false
set_option linter.unusedSimpArgs false
namespace Go.Proofs.YtmcddajniiaieaaGreatDoor
open Go Go.Conc Go.ConcM Go.Proofs.Tryz
variable {Γ:Rc} {V V' V0:View} {i C gs b8 j9 jl n0 cN oC jC:Nat} {P:Program} {main:Bool} {Stop:View->Goroutine->World->Prop} {b:Frame} {k:List Item} {cs:List Frame} {ops:Array Oper} {Fin:Goroutine->World->Prop} {S:Act->List Item->Frame} {src mp:Nat->Nat} {A oA jA:Option Addr} {w' w0:World} {ds:List Deferred} {Shun:Go.Loc->Prop}
def Z6(i C n0:Nat)(L:List Value)(wh:Bool)(V:View)(w:World):Prop:=
 V.wc ⟨C,i*2,none⟩/\V.wc ⟨C,i*2+1,none⟩/\∃vo,w.cell? ⟨C,i*2,none⟩=some vo/\w.cell? ⟨C,i*2+1,none⟩=some (.bool wh)/\Row V w 5 1 vo L.length L/\∀g,vo.ownBlock=some g->n0<=g
theorem Z6.rely{i C n0:Nat}{L:List Value}{wh:Bool}{V:View}{w w':World}(h:Z6 i C n0 L wh V w)(hr:aP V w w'):Z6 i C n0 L wh V w':=by
 obtain⟨h1,h2,vo,h3,h4,h5,h6⟩:=h;exact⟨h1,h2,vo,(hr.cell _ (.inr h1)).trans h3,(hr.cell _ (.inr h2)).trans h4,h5.rely hr,h6⟩
theorem WgC.kind{Wg:Nat}{w w':World}(h:WgC Wg w)(k:eG w w'):WgC Wg w':=by
 obtain⟨c,e,fr,h1,h2⟩:=h;obtain⟨c',h3,h4⟩:=k _ _ _ _ h1;exact⟨c',e,fr,h3,by omega⟩
section
variable {D:cY} {w:World} {j:Jb} {jR lZ ns N s n:Nat}
theorem UG(I:Is Γ D)(mQ:Γ.wgT=85)(sG:∀V w,Z6 i C n0 (D.fA Γ.me (j.hf (D.len Γ.me)) (j.wt (D.len Γ.me))) (j.wt (D.len Γ.me)==j.ht (D.len Γ.me)) V w->Γ.res V w)(hC:WgC Γ.wg w)(hn0:n0<=w.heap.size)
  (hW:Wk Γ D V w)(hN:j5 Γ V)(hJ:al7 Γ i C gs b8 jR lZ ns N V w)(hq:-1<=j.q)(hI:D.leftOf (j.hf (D.len Γ.me)) (j.wt (D.len Γ.me)) s)(rp:∀s',1<=s'->s'<=s->Γ.item s'=(j.wt (D.len Γ.me)-1)/D.u+1-s')(hn:5*s+5<=n)
  (aNu:ba V w jl (.cells #[.int .i64 Γ.me,.int .i64 j.f,.int .i64 j.t,.int .i64 j.q] 34 (0,0)))(aNv:ba V w j9 (.cells #[.int .i64 i] 3 (0,0))):
  bf (At Γ) (Next Γ ⟨n,s+1⟩ .none) V (born prog {target:=.fn (.func 25) #[.pointer (some ⟨Γ.wg,0,none⟩),.pointer (some ⟨b8,0,none⟩),.pointer (some ⟨jl,0,none⟩),.pointer (some ⟨lZ,0,none⟩),.pointer (some ⟨jR,0,none⟩),.pointer (some ⟨j9,0,none⟩)],args:=#[]}) w:=by
 refine Loc.ctl rfl (fun w₁=>aNr _ w₁) ?_;have hk:(baseD 25).kind≠.early:=by decide
 have hS:=bh (P:=prog) (main:=false) hk;obtain⟨a,ha⟩:∃a:Act,a={tmps:=#[.pointer (some ⟨Γ.wg,0,none⟩),.pointer (some ⟨b8,0,none⟩),.pointer (some ⟨jl,0,none⟩),.pointer (some ⟨lZ,0,none⟩),.pointer (some ⟨jR,0,none⟩),.pointer (some ⟨j9,0,none⟩)]++Array.replicate (Tryz.f25.ntmps-#[Value.pointer (some ⟨Γ.wg,0,none⟩),.pointer (some ⟨b8,0,none⟩),.pointer (some ⟨jl,0,none⟩),.pointer (some ⟨lZ,0,none⟩),.pointer (some ⟨jR,0,none⟩),.pointer (some ⟨j9,0,none⟩)].size) undef,defers:=[]}:=⟨_,rfl⟩;rw [←ha];have hs:a.tmps.size=17:=by rw [ha];simp [show Tryz.f25.ntmps=17 from rfl]
 have hd:a.defers=[]:=by rw [ha]
 have h0:a.eval (.tmp 0)=.pointer (some ⟨Γ.wg,0,none⟩):=by rw [ha];simp [Act.eval]
 have h1:a.eval (.tmp 1)=.pointer (some ⟨b8,0,none⟩):=by rw [ha];simp [Act.eval]
 have h2:a.eval (.tmp 2)=.pointer (some ⟨jl,0,none⟩):=by rw [ha];simp [Act.eval]
 have h3:a.eval (.tmp 3)=.pointer (some ⟨lZ,0,none⟩):=by rw [ha];simp [Act.eval]
 have h4:a.eval (.tmp 4)=.pointer (some ⟨jR,0,none⟩):=by rw [ha];simp [Act.eval]
 have h5:a.eval (.tmp 5)=.pointer (some ⟨j9,0,none⟩):=by rw [ha];simp [Act.eval]
 clear ha;refine aj hS aRB (ag hS aRz (rl [0] rfl) (EA zK.a zK.f hk zK.d zK.o fun a' t' d'=>ai hS ?_));have ev:∀x,a'.eval (.tmp x)=a.eval (.tmp x):=fun x=>by simp [Act.eval,t']
 rw [hd]at d';have d'':a'.defers=[dcall 26 #[.pointer (some ⟨Γ.wg,0,none⟩)]]:=by rw [d'];simp [h0]
 refine al8 I hk hW hN hJ hq hI rp hn aNu aNv (by rw [t'];exact hs) ((ev 1).trans h1) ((ev 2).trans h2) ((ev 3).trans h3) ((ev 4).trans h4) ((ev 5).trans h5) fun a2 V2 w2 hE=>rX ?_
 obtain⟨vo,c0,c1,cR,cG⟩:=hE.res;exact al6 mQ hE.deaf (fun w₁ hr=>(hC.kind hE.kind).kind hr.kind) hE.wc0 c0 (fun w₁ hr=>sG _ _ (Z6.rely ⟨hE.wc0,hE.wc1,vo,c0,c1,cR,fun g hg=>Nat.le_trans hn0 (cG g hg)⟩ hr)) (by omega) (hE.df.trans d'')
end
section
variable {w:World} {o:Oper} {a:Act} {x y:Operand} {t yt:TypeId} {k:IntKind} {m n:Int}
theorem aDz{k':IntKind}{n:Nat}(aE:o.op=.binOp .shl t x y yt)(hx:a.eval x=.int k m)(hy:a.eval y=.int k' (n:Int))(hn:n<k.bits):Yl P V w o a (.int k (k.wrap (m*2^n))):=.pure fun w₁=>by
 have:¬((n:Int)<0):=by omega
 simp [execOp,aE,hx,hy,eqGuard,binOp,Op.shift,this,Nat.min_eq_left (Nat.le_of_lt hn)]
theorem yf{src dst:TypeId}{k' k2:IntKind}(aE:o.op=.convert src dst x)(hx:a.eval x=.int k m)(hs:P.underlying src=some (.int k2))(hd:P.underlying dst=some (.int k')):Yl P V w o a (.int k' (k'.wrap m)):=.pure fun w₁=>by
 have e1:(convert src dst (.int k m)).run P w₁=.ok (.int k' (k'.wrap m)) w₁:=by simp [convert,Conv.intToInt,run_underlying hs,run_underlying hd]
 have e2:(convert src dst (.int k m)).events P w₁ #[]=#[]:=by simp [convert,Conv.intToInt,run_underlying hs,run_underlying hd]
 constructor
 ·simp [execOp,aE,hx,e1]
 ·simp [execOp,aE,hx,e2]
end
section
variable {w:World} {a:Act}
variable {f:FuncId} {fn:Func} {d:Nat} {rest:List Nat} {o:Oper} {gY:Array TypeId} {ags:Array Operand}
theorem aWr(v:Value)(ho:ops[i]? =some o)(hw:Region.wanted o (yielded ops a.tmps)=true)(hk:b.kind≠.early)(hd:o.dst=some d)(aU:d<a.tmps.size)
  (aE:o.op=.call {callee:=.value (.func f),args:=ags,argTypes:=gY})(hf:P.funcs[f]? =some fn)(jq:(fn.name== "runtime.NumGoroutine")=false)(hb:fn.body.isNone=true)(hn:Extern.findNext fn=none)
  (he:Extern.find fn=some (fun _=>pure v))
  (K:∀a',a'.tmps.size=a.tmps.size->a'.defers=a.defers->(∀j,d≠j->a'.eval (.tmp j)=a.eval (.tmp j))->a'.eval (.tmp d)=v->Loc P main Stop V (G (b.at a' (.inRegion ops rest::k)) cs) w):
  Loc P main Stop V (G (b.at a (.inRegion ops (i::rest)::k)) cs) w:=by
 refine Loc.step rfl fun w₁ hr=>?_;have u:=bj a o.dst v;exact⟨_,_,_,V,stepG_entry (v:=v) (w':=w₁) (evs:=#[]) ho hw hk aE hf jq hb hn he (by simp) (by simp) (by simp),aY V w₁,(K _ u.size u.defers (fun j hj=>u.ne j (by rw [hd];intro h;exact hj (Option.some.inj h))) (u.eq d hd aU)).rely hr⟩
theorem EM{ds:List Deferred}{todo:List Item}(hd:a.defers=dcall f #[]::ds)(hf:P.funcs[f]? =some fn)(jq:(fn.name== "runtime.NumGoroutine")=false)(hb:fn.body.isNone=true)(hn:Extern.findNext fn=none)
  (he:Extern.find fn=some (fun _=>do mark .enable;pure Extern.Race.none_))
  (K:Loc P main Stop (V.hears (V.deaf-1)) (G {b.at ⟨a.tmps,ds⟩ todo with mode:=.returning} cs) w):
  Loc P main Stop V (G {b.at a todo with mode:=.returning} cs) w:=by
 refine Loc.step rfl fun w₁ hr=>?_;refine⟨_,w₁,#[⟨.mark .enable,false,true⟩],V.hears (V.deaf-1),stepG_unwind_entry (v:=.tuple #[]) hd hf jq hb hn he (by simp [Extern.Race.none_]) (by simp) (by simp),?_,K.rely (hr.hears _)⟩
 refine⟨rfl,rfl,.refl _,Nat.le_refl _,.refl _,fun _ _ _ _=>rfl,fun _ _ _ _=>rfl,?_,?_⟩
 ·rw [sK V rfl];simp [deafBehind]
 ·intro e h;simp at h;subst h;exact .inr (.inr (.inr (.inr rfl)))
end
open Go.ConcR (stA smA WgAt KK rd wr)
theorem awc:(prog.info? 54).map (fun i=>decide (i.size=0))=some false:=by kernel_rfl
def Z7(Wg:Nat)(w:World):Prop:=∃c e fr,w.heap[Wg]? =some (.cells c e fr)/\1<c.size
theorem Z7.kind{Wg:Nat}{w w':World}(h:Z7 Wg w)(k:eG w w'):Z7 Wg w':=by
 obtain⟨c,e,fr,h1,h2⟩:=h;obtain⟨c',h3,h4⟩:=k _ _ _ _ h1;exact⟨c',e,fr,h3,by omega⟩
theorem awd(v:Nat)(h:v<33):ej .and .u64 ((v:Int)*4294967296) 2147483648=0:=by
 revert v;decide+kernel
theorem awe(v:Nat)(h:v<33):ej .and .u64 ((v:Int)*4294967296) 2147483647=0:=by
 revert v;decide+kernel
theorem awf(v:Int):(v*4294967296).fdiv (2^min 32 IntKind.u64.bits)=v:=by
 rw [show(2:Int)^min 32 IntKind.u64.bits=4294967296 from by decide,Int.fdiv_eq_ediv_of_nonneg _ (by decide),Int.mul_ediv_cancel _ (by decide)]
section
variable {w:World} {a:Act} {v:Nat}
theorem a0A(hk:b.kind≠.early)(hs:a.tmps.size=117)(hv:v<32)(hB:Z7 Γ.wg w)(h0:a.eval (.tmp 0)=.pointer (some ⟨Γ.wg,0,none⟩))(h1:a.eval (.tmp 1)=.int .i64 1)(h4:a.eval (.tmp 4)=.bool false)(h6:a.eval (.tmp 6)=.int .u64 (((v:Int)+1)*4294967296))
  (K0:v=0->∀a',a'.tmps.size=117->a'.defers=a.defers->a'.eval (.tmp 0)=.pointer (some ⟨Γ.wg,0,none⟩)->a'.eval (.tmp 1)=.int .i64 1->a'.eval (.tmp 7)=.int .i32 ((v:Int)+1)->a'.eval (.tmp 8)=.int .u32 0->a'.eval (.tmp 71)=.pointer (some ⟨Γ.wg,1,none⟩)->Loc prog true Stop V (G (b.at a' (.inRegion nF [4]::.code pE::k)) cs) w)
  (K1:v≠0->∀a',a'.tmps.size=117->a'.defers=a.defers->a'.eval (.tmp 1)=.int .i64 1->a'.eval (.tmp 7)=.int .i32 ((v:Int)+1)->a'.eval (.tmp 8)=.int .u32 0->Loc prog true Stop V (G (b.at a' (.code pE::k)) cs) w):
  Loc prog true Stop V (G (b.at a (.code tc::k)) cs) w:=by
 have hS:=ly hk;obtain⟨ds,hd⟩:∃ds,a.defers=ds:=⟨_,rfl⟩;rw [hd]at K0 K1;have e1:=awd (v+1) (by omega)
 have e2:=awe (v+1) (by omega)
 rw [show(((v+1:Nat)):Int)=(v:Int)+1 by omega]at e1 e2
 obtain⟨c,e,fr,hb,aU⟩:=hB;refine aj hS aIb (aj hS aHI (ag hS aHE (rl [0,1,2,3,4,5,6] rfl) (ay Rm hS hs (af Rm.o h6) fun a ae mS=>t3 ae hs hd h0 h1 h6 fun hs hd h0 h1 h6=>?_)));refine ay Rn hS hs (gP Rn.o mS rfl) fun a ae xu=>t3 ae hs hd h0 h1 h6 fun hs hd h0 h1 h6=>?_;have xu:a.eval (.tmp 45)=.int .u64 0:=by rw [xu,e1]
 refine ay Ro hS hs (eI Ro.o xu rfl) fun a ae jZ=>t3 ae hs hd h0 h1 h6 fun hs hd h0 h1 h6=>?_;refine ay Rp hS hs (af Rp.o jZ) fun a ae lV=>t3 ae hs hd h0 h1 h6 fun hs hd h0 h1 h6=>?_;have lV:a.eval (.tmp 47)=.bool false:=by rw [lV];rfl
 refine xr Dc.a (ax (x:=false) Dc.g rfl lV) hS Dc.d fun a au an ah=>t4 ⟨au,an,ah⟩ hs hd h0 h1 h6 lV fun hs hd h0 h1 h6 lV=>?_;refine xr De.a (ax (x:=false) De.g rfl lV) hS De.d fun a au an ah=>t4 ⟨au,an,ah⟩ hs hd h0 h1 h6 lV fun hs hd h0 h1 h6 lV=>?_;refine ay Rq hS hs (bn (b:=false) (v:=.bool false) Rq.o lV rfl) fun a ae sf=>t3 ae hs hd h0 h1 h6 fun hs hd h0 h1 h6=>?_;refine ai hS (aX hS aHH sf (q_skip hS aHG (aj hS aIa (ag hS aHJ (rl [0,1,2,3] rfl) (ay Rr hS hs (af Rr.o h6) fun a ae tA=>t3 ae hs hd h0 h1 h6 fun hs hd h0 h1 h6=>?_)))));refine ay Rs hS hs (BZ (n:=32) Rs.o tA rfl) fun a ae xK=>t3 ae hs hd h0 h1 h6 fun hs hd h0 h1 h6=>?_;have xK:a.eval (.tmp 53)=.int .u64 ((v:Int)+1):=by rw [xK,awf]
 refine ay Rt hS hs (yf Rt.o xK underlying81 underlying21) fun a ae NM=>t3 ae hs hd h0 h1 h6 fun hs hd h0 h1 h6=>?_;have NM:a.eval (.tmp 54)=.int .i32 ((v:Int)+1):=by rw [NM,IntWalk.i32_in _ (by omega)]
 refine ay Ru hS hs (ak Ru.o NM) fun a ae h7=>t3 ae hs hd h0 h1 h6 fun hs hd h0 h1 h6=>?_;refine ai hS (aj hS aH9 (ag hS aHK (rl [0,1,2,3] rfl) (ay Rv hS hs (af Rv.o h6) fun a ae Fe=>t3 ae hs hd h0 h1 h7 fun hs hd h0 h1 h7=>?_)));refine ay Rw hS hs (gP Rw.o Fe rfl) fun a ae Ff=>t3 ae hs hd h0 h1 h7 fun hs hd h0 h1 h7=>?_;have Ff:a.eval (.tmp 56)=.int .u64 0:=by rw [Ff,e2]
 refine ay Rx hS hs (yf Rx.o Ff underlying81 underlying54) fun a ae h57=>t3 ae hs hd h0 h1 h7 fun hs hd h0 h1 h7=>?_;refine ay Ry hS hs (ak Ry.o h57) fun a ae h8=>t3 ae hs hd h0 h1 h7 fun hs hd h0 h1 h7=>?_;refine ai hS (aj hS aH8 (aj hS aHO ?_));have h8:a.eval (.tmp 8)=.int .u32 0:=by rw [h8];rfl
 refine ag hS aHL (rl [0,1,2,3,4,5,6,7,8,9] rfl) (ay Rz hS hs (af Rz.o rfl) fun a ae Fg=>t4 ae hs hd h0 h1 h7 h8 fun hs hd h0 h1 h7 h8=>?_);refine mo RA rfl Fg hS hs (af RA.o h1) fun a ae CZ=>t5 ae hs hd h0 h1 h7 h8 Fg fun hs hd h0 h1 h7 h8 Fg=>?_;refine mo RB rfl Fg hS hs (yo RB.o CZ rfl) fun a ae rn=>t5 ae hs hd h0 h1 h7 h8 Fg fun hs hd h0 h1 h7 h8 Fg=>?_;have rn:a.eval (.tmp 60)=.bool true:=by rw [rn];rfl
 refine ay RE hS hs (bn (b:=true) RE.o Fg rn) fun a ae kJ=>t4 ae hs hd h0 h1 h7 h8 fun hs hd h0 h1 h7 h8=>?_;refine ay RF hS hs (af RF.o kJ) fun a ae zy=>t4 ae hs hd h0 h1 h7 h8 fun hs hd h0 h1 h7 h8=>?_;refine mo RG rfl zy hS hs (af RG.o h7) fun a ae CW=>t5 ae hs hd h0 h1 h7 h8 zy fun hs hd h0 h1 h7 h8 zy=>?_;refine mo RH rfl zy hS hs (af RH.o h1) fun a ae Va=>t6 ae hs hd h0 h1 h7 h8 zy CW fun hs hd h0 h1 h7 h8 zy CW=>?_;refine mo RI rfl zy hS hs (yf RI.o Va underlying3 underlying21) fun a ae Xt=>t6 ae hs hd h0 h1 h7 h8 zy CW fun hs hd h0 h1 h7 h8 zy CW=>?_;have Xt:a.eval (.tmp 65)=.int .i32 1:=by rw [Xt];rfl
 refine mo RJ rfl zy hS hs (eH RJ.o CW Xt) fun a ae h66=>t5 ae hs hd h0 h1 h7 h8 zy fun hs hd h0 h1 h7 h8 zy=>?_;refine ay RL hS hs (bn (b:=true) RL.o zy h66) fun a ae Xu=>t4 ae hs hd h0 h1 h7 h8 fun hs hd h0 h1 h7 h8=>?_;refine ai hS ?_;by_cases rM:v=0
 ·have Xu:a.eval (.tmp 67)=.bool true:=by rw [Xu];simp;omega
  refine bY hS apJ Xu (ag hS aHM (rl [0,1,2,3,4] rfl) (ay RN hS hs (af RN.o h0) fun a ae C0=>t4 ae hs hd h0 h1 h7 h8 fun hs hd h0 h1 h7 h8=>?_));refine ay RO hS hs (bE RO.o C0) fun a ae h69=>t4 ae hs hd h0 h1 h7 h8 fun hs hd h0 h1 h7 h8=>?_;refine ay RP hS hs (aB RP.o h69 underlying85 rfl sizeOf54 (by decide) rfl) fun a ae U9=>t4 ae hs hd h0 h1 h7 h8 fun hs hd h0 h1 h7 h8=>?_
  refine ay RQ hS hs (jm RQ.o U9 underlying101 underlying96 awc hb aU rfl) fun a ae h71=>t4 ae hs hd h0 h1 h7 h8 fun hs hd h0 h1 h7 h8=>?_;exact K0 rM _ hs hd h0 h1 h7 h8 h71
 ·have Xu:a.eval (.tmp 67)=.bool false:=by rw [Xu];simp;omega
  exact aX hS apJ Xu (q_skip hS aHN (K1 rM _ hs hd h1 h7 h8))
theorem a0B(hk:b.kind≠.early)(hs:a.tmps.size=117)(hv:v<32)(h1:a.eval (.tmp 1)=.int .i64 1)(h7:a.eval (.tmp 7)=.int .i32 ((v:Int)+1))(h8:a.eval (.tmp 8)=.int .u32 0)
  (K:∀a' todo,a'.defers=a.defers->Loc prog true Stop V (G {b.at a' todo with mode:=.returning} cs) w):
  Loc prog true Stop V (G (b.at a (.code pE::k)) cs) w:=by
 have hS:=ly hk;obtain⟨ds,hd⟩:∃ds,a.defers=ds:=⟨_,rfl⟩;rw [hd]at K;refine aj hS aH7 (aj hS aHT (ag hS aHP (rl [0,1] rfl) (ay RR hS hs (af RR.o h7) fun a ae h73=>t2 ae hs hd h7 h8 fun hs hd h7 h8=>?_)));refine ay RS hS hs (du RS.o h73 rfl) fun a ae h74=>t2 ae hs hd h7 h8 fun hs hd h7 h8=>?_;have h74:a.eval (.tmp 74)=.bool false:=by rw [h74];simp;omega
 refine ai hS (aX hS aHS h74 (q_skip hS aHR (aj hS aH6 (aj hS aHY (ag hS aHU (rl [0,1,2,3,4,5,6,7,8,9,10,11] rfl) (ay RU hS hs (af RU.o h8) fun a ae h76=>t1 ae hs hd h7 fun hs hd h7=>?_))))));refine ay RV hS hs (eI RV.o h76 rfl) fun a ae F9=>t1 ae hs hd h7 fun hs hd h7=>?_;refine ay RX hS hs (af RX.o F9) fun a ae Ga=>t1 ae hs hd h7 fun hs hd h7=>?_;have Ga:a.eval (.tmp 78)=.bool false:=by rw [Ga];rfl
 refine xr Di.a (ax (x:=false) Di.g rfl Ga) hS Di.d fun a au an ah=>t2 ⟨au,an,ah⟩ hs hd h7 Ga fun hs hd h7 Ga=>?_;refine xr Dj.a (ax (x:=false) Dj.g rfl Ga) hS Dj.d fun a au an ah=>t2 ⟨au,an,ah⟩ hs hd h7 Ga fun hs hd h7 Ga=>?_;refine ay RY hS hs (bn (b:=false) (v:=.bool false) RY.o Ga rfl) fun a ae h81=>t1 ae hs hd h7 fun hs hd h7=>?_;refine ay RZ hS hs (af RZ.o h81) fun a ae c9=>t1 ae hs hd h7 fun hs hd h7=>?_;refine xr Dk.a (ax (x:=false) Dk.g rfl c9) hS Dk.d fun a au an ah=>t2 ⟨au,an,ah⟩ hs hd h7 c9 fun hs hd h7 c9=>?_;refine xr Dl.a (ax (x:=false) Dl.g rfl c9) hS Dl.d fun a au an ah=>t2 ⟨au,an,ah⟩ hs hd h7 c9 fun hs hd h7 c9=>?_;refine xr Dm.a (ax (x:=false) Dm.g rfl c9) hS Dm.d fun a au an ah=>t2 ⟨au,an,ah⟩ hs hd h7 c9 fun hs hd h7 c9=>?_;refine xr xM.a (ax (x:=false) xM.g rfl c9) hS xM.d fun a au an ah=>t2 ⟨au,an,ah⟩ hs hd h7 c9 fun hs hd h7 c9=>?_;refine ay Gj hS hs (bn (b:=false) (v:=.bool false) Gj.o c9 rfl) fun a ae h87=>t1 ae hs hd h7 fun hs hd h7=>?_;refine ai hS (aX hS aHX h87 (q_skip hS aHW (aj hS aH5 (aj hS aH3 (ag hS aHZ (rl [0,1,2,3,4,5] rfl) (ay R0 hS hs (af R0.o h7) fun a ae h89=>t0 ae hs hd fun hs hd=>?_))))));refine ay R3 hS hs (yo R3.o h89 rfl) fun a ae h90=>t0 ae hs hd fun hs hd=>?_;refine ay R5 hS hs (af R5.o h90) fun a ae C3=>t0 ae hs hd fun hs hd=>?_;have C3:a.eval (.tmp 91)=.bool true:=by rw [C3];simp
 refine xr Dn.a (ax (x:=true) Dn.g rfl C3) hS Dn.d fun a au an ah=>t1 ⟨au,an,ah⟩ hs hd C3 fun hs hd C3=>?_;refine xr Dp.a (ax (x:=true) Dp.g rfl C3) hS Dp.d fun a au an ah=>t1 ⟨au,an,ah⟩ hs hd C3 fun hs hd C3=>?_;refine ay R9 hS hs (bn (b:=true) (v:=.bool true) R9.o C3 rfl) fun a ae h94=>t0 ae hs hd fun hs hd=>?_;exact ai hS (bY hS aH2 h94 (dg aH0 fun todo=>K _ todo hd))
end
theorem tx{V:View}(h:V.deaf=0):(V.hears 1).hears ((V.hears 1).deaf-1)=V:=by
 obtain⟨o,r,c,d⟩:=V;simp only at h;subst h;rfl
theorem nL{ty:TypeId}{Wg:Nat}{w:World}{st sm:Int}(h:WgAt ty Wg w st sm):w.cell? (stA Wg)=some (.int .u64 st)/\w.frozen? (stA Wg)=false/\w.cell? (smA Wg)=some (.int .u32 sm)/\w.frozen? (smA Wg)=false:=by
 have h':w.heap[Wg]? =some (.cells #[.int .u64 st,.int .u32 sm] ty (0,0)):=h;simp [World.cell?,World.frozen?,stA,smA,h']
section
variable {J:cP} {w:World} {a:Act} {v:Nat}
def aNx(Γ:Rc)(J:cP)(Fin:Goroutine->World->Prop)(i:Nat)(V:View)(w:World)(b:Frame)(cs:List Frame):Prop:=
 ∀w',aP V w w'->∀a' todo,a'.defers=[]->ib (nS Γ J Fin) (.go i) V (G {b.at a' todo with mode:=.returning} cs) w'
theorem aWs(hk:b.kind≠.early)(hV:V.deaf=0)(hv:v<32)(hs:a.tmps.size=117)(hd:a.defers=[dcall 38 #[]])(h1:a.eval (.tmp 1)=.int .i64 1)(h7:a.eval (.tmp 7)=.int .i32 ((v:Int)+1))(h8:a.eval (.tmp 8)=.int .u32 0)
  {w':World}(hr:aP V w w')(K:aNx Γ J Fin i V w b cs):ib (nS Γ J Fin) (.go i) (V.hears 1) (G (b.at a (.code pE::k)) cs) w':=by
 refine a0B hk hs hv h1 h7 h8 fun a' todo d'=>EM (ds:=[]) (d'.trans hd) func38 Fx Fy FA FB ?_;rw [tx hV];exact K w' hr ⟨a'.tmps,[]⟩ todo rfl
theorem a0C(hk:b.kind≠.early)(hV:V.deaf=0)(hv:v<32)(hi:i<J.N)(hB:Z7 Γ.wg w){b3:Frame}{a3:Act}(hn3:b3.kind=.normal)(hf3:b3.fn=43)(hs3:a3.tmps.size=10)(hd3:a3.defers=[])(h9:a3.eval (.tmp 9)=.int .u64 (((v:Int)+1)*4294967296))
  (hs:a.tmps.size=117)(hd:a.defers=[dcall 38 #[]])(h0:a.eval (.tmp 0)=.pointer (some ⟨Γ.wg,0,none⟩))(h1:a.eval (.tmp 1)=.int .i64 1)(h4:a.eval (.tmp 4)=.bool false)
  {w':World}(hr:aP V w w')(K:aNx Γ J Fin i V w b cs):
  ib (nS Γ J Fin) (if v=0 then .mrd i else .go i) (V.hears 1) (G (b3.at a3 (.inRegion wP [5]::.code ahP::[])) (b.at a (.inRegion kM [6,7]::.code tc::k)::cs)) w':=by
 have hk3:b3.kind≠.early:=by rw [hn3];decide
 have hS:=ly hk;have ND:=ly hk3;refine zw A9.a A9.f ND A9.d (by rw [hs3];decide) (ak A9.o h9) fun a4 s4 d4 n4 mS=>ai ND (dg aUr fun todo=>?_)
 refine dM hS hn3 (d4.trans hd3) (by rw [hf3];exact func43) rfl pC.a pC.d (by rw [hs];decide) fun a au an ah zz=>?_
 rw [mS]at zz;refine t3 ⟨au,an,ah⟩ hs hd h0 h1 h4 fun hs hd h0 h1 h4=>?_;refine ay Rl hS hs (ak Rl.o zz) fun a ae h6=>t3 ae hs hd h0 h1 h4 fun hs hd h0 h1 h4=>?_;refine ai hS (a0A hk hs hv (hB.kind hr.kind) h0 h1 h4 h6 (fun rM a' s' d' g0 g1 g7 g8 g71=>?_) fun rM a' s' d' g1 g7 g8=>?_)
 ·rw [if_pos rM];refine Loc.stop fun w₁ gi=>nS.fold ⟨rfl,rfl,hi,fun fy dv r6=>?_⟩;refine⟨_,stepG_markAt .read (by simp) Dh.a Dh.f hk Dh.o func44 aO2 aO3 aO4 aO5 (by simp;exact g71),?_⟩
  have u:=bj a' (nR nF 4).dst (.tuple #[]);generalize a'.put (nR nF 4).dst (.tuple #[])=a5 at u;refine ai hS (aWs hk hV hv (u.size.trans s') (u.defers.trans (d'.trans hd)) ((u.ne 1 (by decide)).trans g1) ((u.ne 7 (by decide)).trans g7) ((u.ne 8 (by decide)).trans g8) (hr.trans ⟨(gi.trans dv).tape,(gi.trans dv).output,(gi.trans dv).os,(gi.trans dv).size,(gi.trans dv).kind,(gi.trans dv).own,(gi.trans dv).cell⟩) K)
 ·rw [if_neg rM];exact aWs hk hV hv s' (d'.trans hd) g1 g7 g8 hr K
theorem awg(hk:b.kind≠.early)(mQ:Γ.wgT=85)(hV:V.deaf=0)(hi:i<J.N)(hB:Z7 Γ.wg w)(hA:Apart V (aS Γ))(hs:a.tmps.size=117)(hd:a.defers=[])(h0:a.eval (.tmp 0)=.pointer (some ⟨Γ.wg,0,none⟩))(h1:a.eval (.tmp 1)=.int .i64 1)
  (K:aNx Γ J Fin i V w b cs):ib (nS Γ J Fin) (.add i) V (G (b.at a (.code Db::k)) cs) w:=by
 have hS:=ly hk;refine aj hS aBQ (bY hS aBN rfl (aj hS aBM (aj hS aBH (ag hS aBD aBE (ay ru hS hs (af ru.o h1) fun a ae h9=>t2 ae hs hd h0 h1 fun hs hd h0 h1=>?_)))));refine ay rv hS hs (du rv.o h9 rfl) fun a ae aM=>t2 ae hs hd h0 h1 fun hs hd h0 h1=>?_;have aM:a.eval (.tmp 10)=.bool false:=by rw [aM];rfl
 refine ai hS (aX hS aBG aM (q_skip hS aRE (aj hS aBL (ag hS aBI aBJ (mY .disable (V.deaf+1) (.inl ⟨rfl,rfl⟩) nE.a nE.f hk nE.d nE.o func37 NQ NR NS NU fun a au an ah=>t2 ⟨au,an,ah⟩ hs hd h0 h1 fun hs hd h0 h1=>?_)))));rw [hV];refine ai hS (ag hS aHv (rl [0] rfl) (EA zN.a zN.f hk zN.d zN.o fun a' t' d'=>ai hS ?_));have ev:∀x,a'.eval (.tmp x)=a.eval (.tmp x):=fun x=>by simp [Act.eval,t']
 replace hs:a'.tmps.size=117:=by rw [t'];exact hs
 replace h0:=(ev 0).trans h0;replace h1:=(ev 1).trans h1;rw [hd]at d';replace hd:a'.defers=[dcall 38 #[]]:=by rw [d'];simp
 clear ev t' d';obtain⟨a,rfl⟩:∃x,x=a':=⟨_,rfl⟩;refine aj hS aIe (ag hS aHx (rl [0] rfl) (ay ade hS hs (ak ade.o rfl) fun a ae h4=>t2 ae hs hd h0 h1 fun hs hd h0 h1=>?_));refine ai hS (aj hS aId (aj hS aHC (ag hS aHy (rl [0] rfl) (aWr (.bool false) zO.a zO.f hk zO.d (by rw [hs];decide) zO.o func39 aPh aPi aPj aPk fun a au an ah eS=>t3 ⟨au,an,ah⟩ hs hd h0 h1 h4 fun hs hd h0 h1 h4=>?_))))
 refine ai hS (aX hS aHB eS (q_skip hS aHA (aj hS aIc (ag hS aHD (rl [0,1,2,3,4,5,6,7] rfl) (ay Rb hS hs (af Rb.o h0) fun a ae iI=>t3 ae hs hd h0 h1 h4 fun hs hd h0 h1 h4=>?_)))));refine ay Re hS hs (bE Re.o iI) fun a ae nz=>t3 ae hs hd h0 h1 h4 fun hs hd h0 h1 h4=>?_;refine ay Rf hS hs (aB Rf.o nz underlying85 rfl sizeOf83 (by decide) rfl) fun a ae im=>t3 ae hs hd h0 h1 h4 fun hs hd h0 h1 h4=>?_
 refine ay Rh hS hs (af Rh.o h1) fun a ae fQ=>t4 ae hs hd h0 h1 h4 im fun hs hd h0 h1 h4 im=>?_;refine ay Ri hS hs (yf Ri.o fQ underlying3 underlying81) fun a ae iT=>t4 ae hs hd h0 h1 h4 im fun hs hd h0 h1 h4 im=>?_;refine ay Rj hS hs (aDz (n:=32) Rj.o iT rfl (by decide)) fun a ae j8=>t4 ae hs hd h0 h1 h4 im fun hs hd h0 h1 h4 im=>?_
 have j8:a.eval (.tmp 42)=.int .u64 4294967296:=by rw [j8];rfl
 refine bI pC.a pC.f hS pC.o func43 (by kernel_rfl) aLB ?_
 have g39:a.eval (.tmp 39)=.pointer (some ⟨Γ.wg,0,none⟩):=im;obtain⟨a3,ha3⟩:∃a3:Act,a3={tmps:=#[Operand.tmp 39,Operand.tmp 42].map a.eval++Array.replicate (Tryz.f43.ntmps-(#[Operand.tmp 39,Operand.tmp 42].map a.eval).size) undef,defers:=[]}:=⟨_,rfl⟩;rw [←ha3];have q0:a3.eval (.tmp 0)=.pointer (some ⟨Γ.wg,0,none⟩):=by rw [ha3];simpa [Act.eval]using g39
 have q1:a3.eval (.tmp 1)=.int .u64 4294967296:=by rw [ha3];simpa [Act.eval]using j8
 have qs:a3.tmps.size=10:=by rw [ha3];simp [show Tryz.f43.ntmps=10 from rfl]
 have qd:a3.defers=[]:=by rw [ha3]
 clear ha3;have hk3:(base 43).kind≠.early:=by decide
 have ND:=ly hk3;refine aj ND aUt (ag ND aUp (rl [0] rfl) (zw AZ.a AZ.f ND AZ.d (by rw [qs];decide) (ak AZ.o rfl) fun a4 s4 d4 n4 _=>ai ND (aj ND aUs (ag ND aUq (rl [0,1,2,3,4,5] rfl) (zw A0.a A0.f ND A0.d (by rw [s4,qs];decide) (af A0.o ((n4 0 (by decide)).trans q0)) fun a5 s5 d5 n5 q5=>?_)))))
 refine zw A4.a A4.f ND A4.d (by rw [s5,s4,qs];decide) (bE A4.o q5) fun a6 s6 d6 n6 q6=>?_
 refine zw A6.a A6.f ND A6.d (by rw [s6,s5,s4,qs];decide) (aB A6.o q6 underlying83 rfl sizeOf81 (by decide) rfl) fun a7 s7 d7 n7 q7=>?_
 refine zw A7.a A7.f ND A7.d (by rw [s7,s6,s5,s4,qs];decide) (af A7.o ((n7 1 (by decide)).trans ((n6 1 (by decide)).trans ((n5 1 (by decide)).trans ((n4 1 (by decide)).trans q1))))) fun a8 s8 d8 n8 q8=>?_
 have p7:a8.eval (.tmp 7)=.pointer (some (stA Γ.wg)):=(n8 7 (by decide)).trans q7
 refine Loc.stop fun w₁ gi=>nS.fold ⟨rfl,rfl,hi,fun fy v dv hv jf=>?_⟩;have hKK:KK=4294967296:=rfl;rw [mQ]at jf;obtain⟨c1,c2,_,_⟩:=nL jf;have hw:IntKind.u64.wrap ((v:Int)*KK+4294967296)=((v:Int)+1)*KK:=by rw [hKK,IntWalk.u64_in _ (by omega)];omega
 have bF:=stepG_add_atomic (P:=prog) (main:=true) (kk:=.code ahP::[]) (cs:=b.at a (.inRegion kM [6,7]::.code tc::k)::cs) (rest:=[5]) Mx.a Mx.f hk3 Mx.o func70 aPd aPe aPf .u64 aPg p7 q8 c1 c2;rw [hw]at bF;refine⟨_,bF,?_⟩;have u:=bj a8 (nR wP 4).dst (.int .u64 (((v:Int)+1)*KK));have hrV:aP V w fy:=⟨(gi.trans dv).tape,(gi.trans dv).output,(gi.trans dv).os,(gi.trans dv).size,(gi.trans dv).kind,(gi.trans dv).own,(gi.trans dv).cell⟩;refine a0C hk hV hv hi hB rfl rfl (u.size.trans (by rw [s8,s7,s6,s5,s4,qs])) (u.defers.trans (d8.trans (d7.trans (d6.trans (d5.trans (d4.trans qd)))))) (u.eq 9 rfl (by rw [s8,s7,s6,s5,s4,qs];decide)) hs hd h0 h1 h4 (hrV.trans (yX hA)) K
end
section
variable {w:World} {a:Act} {Wg d:Nat} {rest:List Nat} {o:Oper}
theorem akw{x:Value}(hx:x=.pointer (some (stA Wg)))
  (K:∀a3,a3.tmps.size=7->a3.defers=[]->a3.eval (.tmp 5)=.pointer (some (stA Wg))->Loc prog true Stop V (G ((base 45).at a3 (.inRegion lE [3,4]::.code yy::[])) cs) w):
  Loc prog true Stop V (G ((base 45).at {tmps:=#[x]++Array.replicate (Tryz.f45.ntmps-(#[x]).size) undef,defers:=[]} [.code TM]) cs) w:=by
 subst hx;have hk:(base 45).kind≠.early:=by decide
 have hS:=ly hk;obtain⟨a,ha⟩:∃a:Act,a={tmps:=#[.pointer (some (stA Wg))]++Array.replicate (Tryz.f45.ntmps-(#[Value.pointer (some (stA Wg))]).size) undef,defers:=[]}:=⟨_,rfl⟩;rw [←ha];have h0:a.eval (.tmp 0)=.pointer (some (stA Wg)):=by rw [ha];simp [Act.eval]
 have hs:a.tmps.size=7:=by rw [ha];simp [show Tryz.f45.ntmps=7 from rfl]
 have hd:a.defers=[]:=by rw [ha]
 clear ha;refine aj hS aUy (ag hS aUu (rl [0] rfl) (ay ahQ hS hs (ak ahQ.o rfl) fun a ae h2=>t1 ae hs hd h0 fun hs hd h0=>?_));refine ai hS (aj hS aUx (ag hS aUv (rl [0,1,2,3,4] rfl) (ay ahS hS hs (af ahS.o h0) fun a ae h3=>t0 ae hs hd fun hs hd=>?_)));refine ay ahT hS hs (bE ahT.o h3) fun a ae h4=>t0 ae hs hd fun hs hd=>?_;refine ay ahU hS hs (aB ahU.o h4 underlying83 rfl sizeOf81 (by decide) rfl) fun a ae h5=>t0 ae hs hd fun hs hd=>?_
 exact K _ hs hd h5
theorem GR{a3:Act}{v:Value}{ops:Array Oper}(hS:fg prog true S)(hs3:a3.tmps.size=7)(hd3:a3.defers=[])(h6:a3.eval (.tmp 6)=v)(ho:ops[i]? =some o)(hdd:o.dst=some d)(aU:d<a.tmps.size)
  (K:∀a',a'.tmps.size=a.tmps.size->a'.defers=a.defers->(∀j,d≠j->a'.eval (.tmp j)=a.eval (.tmp j))->a'.eval (.tmp d)=v->Loc prog true Stop V (G (S a' (.inRegion ops rest::k)) cs) w):
  Loc prog true Stop V (G ((base 45).at a3 (.inRegion lE [4]::.code yy::[])) (S a (.inRegion ops (i::rest)::k)::cs)) w:=by
 have hk:(base 45).kind≠.early:=by decide
 have ND:=ly hk;refine zw Ba.a Ba.f ND Ba.d (by rw [hs3];decide) (ak Ba.o h6) fun a4 s4 d4 n4 h2=>ai ND (dg aUw fun todo=>?_)
 exact dM hS rfl (d4.trans hd3) func45 rfl ho hdd aU fun a' e1 e2 e3 e4=>K a' e1 e2 e3 (e4.trans h2)
theorem aNz{x y z:Value}(hx:x=.pointer (some (stA Wg)))
  (K:∀a3,a3.tmps.size=13->a3.defers=[]->a3.eval (.tmp 9)=.pointer (some (stA Wg))->a3.eval (.tmp 10)=y->a3.eval (.tmp 11)=z->Loc prog true Stop V (G ((base 54).at a3 (.inRegion lF [5,6]::.code Gy::[])) cs) w):
  Loc prog true Stop V (G ((base 54).at {tmps:=#[x,y,z]++Array.replicate (Tryz.f54.ntmps-(#[x,y,z]).size) undef,defers:=[]} [.code TN]) cs) w:=by
 subst hx;have hk:(base 54).kind≠.early:=by decide
 have hS:=ly hk;obtain⟨a,ha⟩:∃a:Act,a={tmps:=#[.pointer (some (stA Wg)),y,z]++Array.replicate (Tryz.f54.ntmps-(#[Value.pointer (some (stA Wg)),y,z]).size) undef,defers:=[]}:=⟨_,rfl⟩;rw [←ha];have h0:a.eval (.tmp 0)=.pointer (some (stA Wg)):=by rw [ha];simp [Act.eval]
 have h1:a.eval (.tmp 1)=y:=by rw [ha];simp [Act.eval]
 have h2:a.eval (.tmp 2)=z:=by rw [ha];simp [Act.eval]
 have hs:a.tmps.size=13:=by rw [ha];simp [show Tryz.f54.ntmps=13 from rfl]
 have hd:a.defers=[]:=by rw [ha]
 clear ha;refine aj hS aUD (ag hS aUz (rl [0] rfl) (ay ahV hS hs (ak ahV.o rfl) fun a ae h6=>t3 ae hs hd h0 h1 h2 fun hs hd h0 h1 h2=>?_));refine ai hS (aj hS aUC (ag hS aUA (rl [0,1,2,3,4,5,6] rfl) (ay ahX hS hs (af ahX.o h0) fun a ae h7=>t2 ae hs hd h1 h2 fun hs hd h1 h2=>?_)));refine ay ahY hS hs (bE ahY.o h7) fun a ae h8=>t2 ae hs hd h1 h2 fun hs hd h1 h2=>?_;refine ay ahZ hS hs (aB ahZ.o h8 underlying83 rfl sizeOf81 (by decide) rfl) fun a ae h9=>t2 ae hs hd h1 h2 fun hs hd h1 h2=>?_
 refine ay ah0 hS hs (af ah0.o h1) fun a ae aM=>t2 ae hs hd h2 h9 fun hs hd h2 h9=>?_;refine ay ah1 hS hs (af ah1.o h2) fun a ae aH=>t2 ae hs hd h9 aM fun hs hd h9 aM=>?_;exact K _ hs hd h9 aM aH
theorem UH{a3:Act}{v:Value}{ops:Array Oper}(hS:fg prog true S)(hs3:a3.tmps.size=13)(hd3:a3.defers=[])(aJ:a3.eval (.tmp 12)=v)(ho:ops[i]? =some o)(hdd:o.dst=some d)(aU:d<a.tmps.size)
  (K:∀a',a'.tmps.size=a.tmps.size->a'.defers=a.defers->(∀j,d≠j->a'.eval (.tmp j)=a.eval (.tmp j))->a'.eval (.tmp d)=v->Loc prog true Stop V (G (S a' (.inRegion ops rest::k)) cs) w):
  Loc prog true Stop V (G ((base 54).at a3 (.inRegion lF [6]::.code Gy::[])) (S a (.inRegion ops (i::rest)::k)::cs)) w:=by
 have hk:(base 54).kind≠.early:=by decide
 have ND:=ly hk;refine zw Bc.a Bc.f ND Bc.d (by rw [hs3];decide) (ak Bc.o aJ) fun a4 s4 d4 n4 h6=>ai ND (dg aUB fun todo=>?_)
 exact dM hS rfl (d4.trans hd3) func54 rfl ho hdd aU fun a' e1 e2 e3 e4=>K a' e1 e2 e3 (e4.trans h6)
theorem aNA(hk:b.kind≠.early)(hs:a.tmps.size=84)(h2:a.eval (.tmp 2)=.int .u64 0)(h4:a.eval (.tmp 4)=.int .u32 0)
  (K:∀a' todo,a'.defers=a.defers->Loc prog true Stop V (G {b.at a' todo with mode:=.returning} cs) w):
  Loc prog true Stop V (G (b.at a (.code th::k)) cs) w:=by
 have hS:=ly hk;obtain⟨ds,hd⟩:∃ds,a.defers=ds:=⟨_,rfl⟩;rw [hd]at K;refine aj hS aJS (aj hS aJQ (ag hS aJM (rl [0,1,2,3,4,5,6,7,8,9,10] rfl) (ay aeX hS hs (af aeX.o h4) fun a ae oi=>t1 ae hs hd h2 fun hs hd h2=>?_)));refine ay aeY hS hs (eH aeY.o oi rfl) fun a ae o9=>t1 ae hs hd h2 fun hs hd h2=>?_;refine ay aeZ hS hs (af aeZ.o o9) fun a ae fe=>t1 ae hs hd h2 fun hs hd h2=>?_;have fe:a.eval (.tmp 26)=.bool true:=by rw [fe];rfl
 refine mo ae0 rfl fe hS hs (af ae0.o h2) fun a ae dT=>t1 ae hs hd fe fun hs hd fe=>?_;refine mo ae1 rfl fe hS hs (gP ae1.o dT rfl) fun a ae cI=>t1 ae hs hd fe fun hs hd fe=>?_;refine mo ae2 rfl fe hS hs (eI ae2.o cI rfl) fun a ae fc=>t1 ae hs hd fe fun hs hd fe=>?_;have fc:a.eval (.tmp 29)=.bool false:=by rw [fc,show ej .and .u64 0 2147483648=0 from by decide+kernel];rfl
 refine ay ae3 hS hs (bn (b:=true) ae3.o fe fc) fun a ae eK=>t0 ae hs hd fun hs hd=>?_;refine ay ae4 hS hs (af ae4.o eK) fun a ae lg=>t0 ae hs hd fun hs hd=>?_;refine xr Lo.a (ax (x:=false) Lo.g rfl lg) hS Lo.d fun a au an ah=>t1 ⟨au,an,ah⟩ hs hd lg fun hs hd lg=>?_;refine xr Lp.a (ax (x:=false) Lp.g rfl lg) hS Lp.d fun a au an ah=>t1 ⟨au,an,ah⟩ hs hd lg fun hs hd lg=>?_;refine ay SQ hS hs (bn (b:=false) (v:=.bool false) SQ.o lg rfl) fun a ae cQ=>t0 ae hs hd fun hs hd=>?_;exact ai hS (aX hS aJP cQ (q_skip hS aJO (dg aJR fun todo=>K _ todo hd)))
theorem aNB(hk:b.kind≠.early)(hs:a.tmps.size=84)(h6:a.eval (.tmp 6)=.bool false)
  (K:∀a' todo,a'.defers=a.defers->Loc prog true Stop V (G {b.at a' todo with mode:=.returning} cs) w):
  Loc prog true Stop V (G (b.at a (.code tr::k)) cs) w:=by
 have hS:=ly hk;obtain⟨ds,hd⟩:∃ds,a.defers=ds:=⟨_,rfl⟩;rw [hd]at K;refine aj hS aKl (aj hS aKj (ag hS aKf (rl [0] rfl) (ay Tu hS hs (af Tu.o h6) fun a ae c9=>t0 ae hs hd fun hs hd=>?_)));exact ai hS (aX hS aKi c9 (q_skip hS aKh (dg aKk fun todo=>K _ todo hd)))
end
section
variable {w:World} {a:Act} {v:Nat}
theorem aDA(hk:b.kind≠.early)(hs:a.tmps.size=84)(h0:a.eval (.tmp 0)=.pointer (some ⟨Γ.wg,0,none⟩))
  (K:∀a',a'.tmps.size=84->a'.defers=a.defers->a'.eval (.tmp 0)=.pointer (some ⟨Γ.wg,0,none⟩)->∀a3,a3.tmps.size=7->a3.defers=[]->a3.eval (.tmp 5)=.pointer (some (stA Γ.wg))->
   Loc prog true Stop V (G ((base 45).at a3 (.inRegion lE [3,4]::.code yy::[])) (b.at a' (.inRegion we [3,4]::.code DZ::.inBlock 1::k)::cs)) w):
  Loc prog true Stop V (G (b.at a (.code Gs::k)) cs) w:=by
 have hS:=ly hk;obtain⟨ds,hd⟩:∃ds,a.defers=ds:=⟨_,rfl⟩;rw [hd]at K;refine bV hS aSf (aj hS aSe (ag hS aSc (rl [0,1,2,3,4] rfl) (ay aeH hS hs (af aeH.o h0) fun a ae h8=>t1 ae hs hd h0 fun hs hd h0=>?_)));refine ay aeI hS hs (bE aeI.o h8) fun a ae h9=>t1 ae hs hd h0 fun hs hd h0=>?_;refine ay aeJ hS hs (aB aeJ.o h9 underlying85 rfl sizeOf83 (by decide) rfl) fun a ae aM=>t1 ae hs hd h0 fun hs hd h0=>?_
 refine bI wi.a wi.f hS wi.o func45 (by kernel_rfl) aud ?_
 simp only [List.map_toArray,List.map_cons,List.map_nil,aM];exact akw (Wg:=Γ.wg) rfl fun a3 q1 q2 q3=>K _ hs hd h0 a3 q1 q2 q3
theorem aWu(hk:b.kind≠.early)(hs:a.tmps.size=84)(hv:v<32)(hB:Z7 Γ.wg w)(h0:a.eval (.tmp 0)=.pointer (some ⟨Γ.wg,0,none⟩))(aH:a.eval (.tmp 11)=.int .u64 ((v:Int)*KK))
  (K0:v=0->∀a',a'.tmps.size=84->a'.defers=a.defers->a'.eval (.tmp 2)=.int .u64 0->a'.eval (.tmp 4)=.int .u32 0->a'.eval (.tmp 22)=.pointer (some (stA Γ.wg))->Loc prog true Stop (V.hears (V.deaf-1)) (G (b.at a' (.inRegion D1 [2]::.code th::.code D3::k)) cs) w)
  (K1:v≠0->∀a',a'.tmps.size=84->a'.defers=a.defers->a'.eval (.tmp 0)=.pointer (some ⟨Γ.wg,0,none⟩)->a'.eval (.tmp 2)=.int .u64 ((v:Int)*KK)->a'.eval (.tmp 4)=.int .u32 0->∀a3,a3.tmps.size=13->a3.defers=[]->a3.eval (.tmp 9)=.pointer (some (stA Γ.wg))->a3.eval (.tmp 10)=.int .u64 ((v:Int)*KK)->a3.eval (.tmp 11)=.int .u64 ((v:Int)*KK+1)->
   Loc prog true Stop V (G ((base 54).at a3 (.inRegion lF [5,6]::.code Gy::[])) (b.at a' (.inRegion kP [6]::.code tj::k)::cs)) w):
  Loc prog true Stop V (G (b.at a (.inRegion we [4]::.code DZ::k)) cs) w:=by
 have hS:=ly hk;obtain⟨ds,hd⟩:∃ds,a.defers=ds:=⟨_,rfl⟩;rw [hd]at K0 K1;have hKK:KK=4294967296:=rfl;rw [hKK]at aH K1;have e2:=awe v (by omega)
 obtain⟨c,e,fr,hb,aU⟩:=hB;refine ay aeK hS hs (ak aeK.o aH) fun a ae h2=>t1 ae hs hd h0 fun hs hd h0=>?_;refine ai hS (aj hS aSd (ag hS aJE (rl [0,1,2,3] rfl) (ay aeL hS hs (af aeL.o h2) fun a ae aJ=>t2 ae hs hd h0 h2 fun hs hd h0 h2=>?_)));refine ay aeM hS hs (BZ (n:=32) aeM.o aJ rfl) fun a ae aK=>t2 ae hs hd h0 h2 fun hs hd h0 h2=>?_;have aK:a.eval (.tmp 13)=.int .u64 (v:Int):=by rw [aK,awf]
 refine ay aeN hS hs (yf aeN.o aK underlying81 underlying21) fun a ae aW=>t2 ae hs hd h0 h2 fun hs hd h0 h2=>?_;have aW:a.eval (.tmp 14)=.int .i32 (v:Int):=by rw [aW,IntWalk.i32_in _ (by omega)]
 refine ay aeO hS hs (ak aeO.o aW) fun a ae h3=>t2 ae hs hd h0 h2 fun hs hd h0 h2=>?_;refine ai hS (aj hS aKv (ag hS aJF (rl [0,1,2,3] rfl) (ay aeP hS hs (af aeP.o h2) fun a ae eS=>t3 ae hs hd h0 h2 h3 fun hs hd h0 h2 h3=>?_)));refine ay aeQ hS hs (gP aeQ.o eS rfl) fun a ae fP=>t3 ae hs hd h0 h2 h3 fun hs hd h0 h2 h3=>?_;have fP:a.eval (.tmp 16)=.int .u64 0:=by rw [fP,e2]
 refine ay aeR hS hs (yf aeR.o fP underlying81 underlying54) fun a ae bT=>t3 ae hs hd h0 h2 h3 fun hs hd h0 h2 h3=>?_;refine ay aeS hS hs (ak aeS.o bT) fun a ae h4=>t3 ae hs hd h0 h2 h3 fun hs hd h0 h2 h3=>?_;have h4:a.eval (.tmp 4)=.int .u32 0:=by rw [h4];rfl
 refine ai hS (aj hS aKu (aj hS aJV (ag hS aJG (rl [0,1] rfl) (ay aeT hS hs (af aeT.o h3) fun a ae jL=>t3 ae hs hd h0 h2 h4 fun hs hd h0 h2 h4=>?_))));refine ay aeU hS hs (eH aeU.o jL rfl) fun a ae dz=>t3 ae hs hd h0 h2 h4 fun hs hd h0 h2 h4=>?_;refine ai hS ?_;by_cases rM:v=0
 ·have dz:a.eval (.tmp 19)=.bool true:=by rw [dz];simp;omega
  have h2:a.eval (.tmp 2)=.int .u64 0:=by rw [h2,rM];rfl
  refine bY hS aqO dz (aj hS aJT (bY hS aJL rfl (aj hS aJJ (ag hS aJH (rl [0] rfl) (mY .enable (V.deaf-1) (.inr ⟨rfl,rfl⟩) Ax.a Ax.f hk Ax.d Ax.o func38 Fx Fy FA FB fun a au an ah=>t3 ⟨au,an,ah⟩ hs hd h0 h2 h4 fun hs hd h0 h2 h4=>?_)))));refine ai hS (ag hS aJI (rl [0,1,2] rfl) (ay aeV hS hs (af aeV.o h0) fun a ae cD=>t3 ae hs hd h0 h2 h4 fun hs hd h0 h2 h4=>?_));refine ay aeW hS hs (jm aeW.o cD underlying94 underlying96 NC hb (by show 0<c.size;omega) rfl) fun a ae kE=>t3 ae hs hd h0 h2 h4 fun hs hd h0 h2 h4=>?_
  exact K0 rM _ hs hd h2 h4 kE
 ·have dz:a.eval (.tmp 19)=.bool false:=by rw [dz];simp;omega
  refine aX hS aqO dz (q_skip hS aJU (aj hS aKt (ag hS aJW (rl [0,1,2,3,4,5,6] rfl) (ay SR hS hs (af SR.o h0) fun a ae j8=>t3 ae hs hd h0 h2 h4 fun hs hd h0 h2 h4=>?_))));refine ay SS hS hs (bE SS.o j8) fun a ae zz=>t3 ae hs hd h0 h2 h4 fun hs hd h0 h2 h4=>?_;refine ay SU hS hs (aB SU.o zz underlying85 rfl sizeOf83 (by decide) rfl) fun a ae mS=>t3 ae hs hd h0 h2 h4 fun hs hd h0 h2 h4=>?_
  refine ay SV hS hs (af SV.o h2) fun a ae xu=>t4 ae hs hd h0 h2 h4 mS fun hs hd h0 h2 h4 mS=>?_;refine ay SX hS hs (af SX.o h2) fun a ae jZ=>t5 ae hs hd h0 h2 h4 mS xu fun hs hd h0 h2 h4 mS xu=>?_;refine ay SY hS hs (gQ SY.o jZ rfl) fun a ae lV=>t5 ae hs hd h0 h2 h4 mS xu fun hs hd h0 h2 h4 mS xu=>?_;have lV:a.eval (.tmp 47)=.int .u64 ((v:Int)*4294967296+1):=by rw [lV,IntWalk.u64_in _ (by omega)]
  refine bI kR.a kR.f hS kR.o func54 (by kernel_rfl) aLC ?_
  simp only [List.map_toArray,List.map_cons,List.map_nil,mS,xu,lV];exact aNz (Wg:=Γ.wg) rfl fun a3 q1 q2 q3 q4 q5=>K1 rM _ hs hd h0 h2 h4 a3 q1 q2 q3 q4 q5
theorem aWv(hk:b.kind≠.early)(hs:a.tmps.size=84)(hB:Z7 Γ.wg w)(h0:a.eval (.tmp 0)=.pointer (some ⟨Γ.wg,0,none⟩)){x2:Value}(h2:a.eval (.tmp 2)=x2)(h4:a.eval (.tmp 4)=.int .u32 0)(E0:a.eval (.tmp 48)=.bool true)
  (K:∀a',a'.tmps.size=84->a'.defers=a.defers->a'.eval (.tmp 0)=.pointer (some ⟨Γ.wg,0,none⟩)->a'.eval (.tmp 2)=x2->a'.eval (.tmp 56)=.pointer (some (smA Γ.wg))->Loc prog true Stop V (G (b.at a' (.inRegion lW [4]::.code tk::k)) cs) w):
  Loc prog true Stop V (G (b.at a (.inRegion kP []::.code tj::k)) cs) w:=by
 have hS:=ly hk;obtain⟨ds,hd⟩:∃ds,a.defers=ds:=⟨_,rfl⟩;rw [hd]at K;obtain⟨c,e,fr,hb,aU⟩:=hB;refine ai hS (bY hS aqW E0 (aj hS aKr (aj hS aJ1 (ag hS aJX (rl [0,1,2,3] rfl) (ay SZ hS hs (af SZ.o rfl) fun a ae yQ=>t3 ae hs hd h0 h2 h4 fun hs hd h0 h2 h4=>?_)))));refine mo S0 rfl yQ hS hs (af S0.o h4) fun a ae sf=>t3 ae hs hd h0 h2 yQ fun hs hd h0 h2 yQ=>?_;refine mo S3 rfl yQ hS hs (eH S3.o sf rfl) fun a ae rP=>t3 ae hs hd h0 h2 yQ fun hs hd h0 h2 yQ=>?_;have rP:a.eval (.tmp 51)=.bool true:=by rw [rP];rfl
 refine ay S5 hS hs (bn (b:=true) S5.o yQ rP) fun a ae tA=>t2 ae hs hd h0 h2 fun hs hd h0 h2=>?_;refine ai hS (bY hS aJ0 tA (ag hS aJY (rl [0,1,2,3,4] rfl) (ay S6 hS hs (af S6.o h0) fun a ae xK=>t2 ae hs hd h0 h2 fun hs hd h0 h2=>?_)));refine ay S7 hS hs (bE S7.o xK) fun a ae NM=>t2 ae hs hd h0 h2 fun hs hd h0 h2=>?_;refine ay S8 hS hs (aB S8.o NM underlying85 rfl sizeOf54 (by decide) rfl) fun a ae Fe=>t2 ae hs hd h0 h2 fun hs hd h0 h2=>?_
 refine ay S9 hS hs (jm S9.o Fe underlying101 underlying96 awc hb aU rfl) fun a ae Ff=>t2 ae hs hd h0 h2 fun hs hd h0 h2=>?_;exact K _ hs hd h0 h2 Ff
theorem aWw(hk:b.kind≠.early)(hs:a.tmps.size=84)(hv:v<32)(h0:a.eval (.tmp 0)=.pointer (some ⟨Γ.wg,0,none⟩))(h2:a.eval (.tmp 2)=.int .u64 ((v:Int)*KK))
  (K:∀a',a'.tmps.size=84->a'.defers=a.defers->a'.eval (.tmp 0)=.pointer (some ⟨Γ.wg,0,none⟩)->a'.eval (.tmp 70)=.pointer (some (smA Γ.wg))->Loc prog true Stop V (G (b.at a' (.inRegion lX [4]::.code pV::k)) cs) w):
  Loc prog true Stop V (G (b.at a (.inRegion lW []::.code tk::k)) cs) w:=by
 have hS:=ly hk;obtain⟨ds,hd⟩:∃ds,a.defers=ds:=⟨_,rfl⟩;rw [hd]at K;have hKK:KK=4294967296:=rfl;rw [hKK]at h2;have e1:=awd v (by omega)
 refine ai hS (aj hS aKq (ag hS aJ2 (rl [0] rfl) (ay Ta hS hs (ak Ta.o rfl) fun a ae h5=>t2 ae hs hd h0 h2 fun hs hd h0 h2=>?_)));refine ai hS (aj hS aKp (aj hS aJ7 (ag hS aJ3 (rl [0,1,2,3,4,5] rfl) (ay Tb hS hs (af Tb.o h2) fun a ae Fg=>t2 ae hs hd h0 h5 fun hs hd h0 h5=>?_))));refine ay Tc hS hs (gP Tc.o Fg rfl) fun a ae CZ=>t2 ae hs hd h0 h5 fun hs hd h0 h5=>?_;have CZ:a.eval (.tmp 59)=.int .u64 0:=by rw [CZ,e1]
 refine ay Td hS hs (eI Td.o CZ rfl) fun a ae rn=>t2 ae hs hd h0 h5 fun hs hd h0 h5=>?_;refine ay Te hS hs (af Te.o rn) fun a ae kJ=>t2 ae hs hd h0 h5 fun hs hd h0 h5=>?_;have kJ:a.eval (.tmp 61)=.bool false:=by rw [kJ];rfl
 refine xr D6.a (ax (x:=false) D6.g rfl kJ) hS D6.d fun a au an ah=>t3 ⟨au,an,ah⟩ hs hd h0 h5 kJ fun hs hd h0 h5 kJ=>?_;refine ay Tf hS hs (bn (b:=false) (v:=.bool false) Tf.o kJ rfl) fun a ae CW=>t2 ae hs hd h0 h5 fun hs hd h0 h5=>?_;refine ai hS (aX hS aJ6 CW (q_skip hS aJ5 (aj hS aKo (ag hS aJ8 (rl [0,1,2,3,4] rfl) (ay Tg hS hs (af Tg.o h0) fun a ae C0=>t2 ae hs hd h0 h5 fun hs hd h0 h5=>?_)))));refine ay Ti hS hs (bE Ti.o C0) fun a ae h69=>t2 ae hs hd h0 h5 fun hs hd h0 h5=>?_;refine ay Tj hS hs (aB Tj.o h69 underlying85 rfl sizeOf54 (by decide) rfl) fun a ae U9=>t2 ae hs hd h0 h5 fun hs hd h0 h5=>?_
 refine ay Tk hS hs (af Tk.o h5) fun a ae h71=>t2 ae hs hd h0 U9 fun hs hd h0 U9=>?_;exact K _ hs hd h0 U9
theorem aWx(hk:b.kind≠.early)(hs:a.tmps.size=84)(h0:a.eval (.tmp 0)=.pointer (some ⟨Γ.wg,0,none⟩))
  (K:∀a',a'.tmps.size=84->a'.defers=a.defers->a'.eval (.tmp 0)=.pointer (some ⟨Γ.wg,0,none⟩)->∀a3,a3.tmps.size=7->a3.defers=[]->a3.eval (.tmp 5)=.pointer (some (stA Γ.wg))->
   Loc prog true Stop V (G ((base 45).at a3 (.inRegion lE [3,4]::.code yy::[])) (b.at a' (.inRegion lY [3,4,5]::.code tn::k)::cs)) w):
  Loc prog true Stop V (G (b.at a (.inRegion lX []::.code pV::k)) cs) w:=by
 have hS:=ly hk;obtain⟨ds,hd⟩:∃ds,a.defers=ds:=⟨_,rfl⟩;rw [hd]at K;refine ai hS (aj hS aKn (ag hS aJ9 (rl [0,1,2,3,4,5] rfl) (ay Tl hS hs (af Tl.o h0) fun a ae h73=>t1 ae hs hd h0 fun hs hd h0=>?_)));refine ay Tn hS hs (bE Tn.o h73) fun a ae h74=>t1 ae hs hd h0 fun hs hd h0=>?_;refine ay Tp hS hs (aB Tp.o h74 underlying85 rfl sizeOf83 (by decide) rfl) fun a ae h75=>t1 ae hs hd h0 fun hs hd h0=>?_
 refine bI pW.a pW.f hS pW.o func45 (by kernel_rfl) aud ?_
 simp only [List.map_toArray,List.map_cons,List.map_nil,h75];exact akw (Wg:=Γ.wg) rfl fun a3 q1 q2 q3=>K _ hs hd h0 a3 q1 q2 q3
theorem aWy(hk:b.kind≠.early)(hs:a.tmps.size=84)(hB:Z7 Γ.wg w)(h0:a.eval (.tmp 0)=.pointer (some ⟨Γ.wg,0,none⟩))(h76:a.eval (.tmp 76)=.int .u64 0)
  (K:∀a',a'.tmps.size=84->a'.defers=a.defers->a'.eval (.tmp 6)=.bool false->a'.eval (.tmp 80)=.pointer (some (stA Γ.wg))->Loc prog true Stop (V.hears (V.deaf-1)) (G (b.at a' (.inRegion tq [2]::.code tr::k)) cs) w):
  Loc prog true Stop V (G (b.at a (.inRegion lY [4,5]::.code tn::k)) cs) w:=by
 have hS:=ly hk;obtain⟨ds,hd⟩:∃ds,a.defers=ds:=⟨_,rfl⟩;rw [hd]at K;obtain⟨c,e,fr,hb,aU⟩:=hB;refine ay Tq hS hs (eI Tq.o h76 rfl) fun a ae F9=>t1 ae hs hd h0 fun hs hd h0=>?_;have F9:a.eval (.tmp 77)=.bool false:=by rw [F9];rfl
 refine ay Tr hS hs (ak Tr.o F9) fun a ae h6=>t1 ae hs hd h0 fun hs hd h0=>?_;refine ai hS (aj hS aKm (bY hS aKe rfl (aj hS aKc (ag hS aKa (rl [0] rfl) (mY .enable (V.deaf-1) (.inr ⟨rfl,rfl⟩) wj.a wj.f hk wj.d wj.o func38 Fx Fy FA FB fun a au an ah=>t2 ⟨au,an,ah⟩ hs hd h0 h6 fun hs hd h0 h6=>?_)))));refine ai hS (ag hS aKb (rl [0,1,2] rfl) (ay Ts hS hs (af Ts.o h0) fun a ae h79=>t1 ae hs hd h6 fun hs hd h6=>?_));refine ay Tt hS hs (jm Tt.o h79 underlying94 underlying96 NC hb (by show 0<c.size;omega) rfl) fun a ae NN=>t1 ae hs hd h6 fun hs hd h6=>?_
 exact K _ hs hd h6 NN
end
theorem aP.gH{V:View}{w w₁:World}{d:Nat}(h:aP (V.hears d) w w₁):aP V w w₁:=⟨h.tape,h.output,h.os,h.size,h.kind,h.own,h.cell⟩
section
variable {J:cP} {w:World} {v:Nat}
def EN(Γ:Rc)(J:cP)(Fin:Goroutine->World->Prop)(V:View)(w:World)(b:Frame)(cs:List Frame):Prop:=
 ∀g' w₁,anz Γ J w₁->aP V w w₁->(∀(Stop:View->Goroutine->World->Prop) (V':View),(∀a' todo,a'.defers=[]->Loc prog true Stop V' (G {b.at a' todo with mode:=.returning} cs) w₁)->Loc prog true Stop V' g' w₁)->Fin g' w₁
theorem aWz{fU:World}{a:Act}(hk:b.kind≠.early)(hV:V.deaf=0)(gb:aP V w fU)(hs:a.tmps.size=84)(hd:a.defers=[])(h2:a.eval (.tmp 2)=.int .u64 0)(h4:a.eval (.tmp 4)=.int .u32 0)(kE:a.eval (.tmp 22)=.pointer (some (stA Γ.wg)))(K:EN Γ J Fin V w b cs):
  nS Γ J Fin .rL V (G (b.at a (.inRegion D1 [2]::.code th::k)) cs) fU:=by
 refine nS.fold ⟨rfl,hV,fun w₁ hr _ Cv=>⟨_,stepG_markAt .acquire (by simp) Lm.a Lm.f hk Lm.o func52 amD amE amF amG (by simp;exact kE),K _ w₁ Cv (gb.trans hr) fun Stop V' hK=>?_⟩⟩
 have u:=bj a (nR D1 2).dst (.tuple #[]);exact ai (bh hk) (aNA hk (u.size.trans hs) ((u.ne 2 (by decide)).trans h2) ((u.ne 4 (by decide)).trans h4) fun a' todo d'=>hK a' todo (d'.trans (u.defers.trans hd)))
theorem aWA{fU:World}{a:Act}(hk:b.kind≠.early)(hV:V.deaf=0)(gb:aP V w fU)(hs:a.tmps.size=84)(hd:a.defers=[])(h6:a.eval (.tmp 6)=.bool false)(NN:a.eval (.tmp 80)=.pointer (some (stA Γ.wg)))(K:EN Γ J Fin V w b cs):
  nS Γ J Fin .rL V (G (b.at a (.inRegion tq [2]::.code tr::k)) cs) fU:=by
 refine nS.fold ⟨rfl,hV,fun w₁ hr _ Cv=>⟨_,stepG_markAt .acquire (by simp) D7.a D7.f hk D7.o func52 amD amE amF amG (by simp;exact NN),K _ w₁ Cv (gb.trans hr) fun Stop V' hK=>?_⟩⟩
 have u:=bj a (nR tq 2).dst (.tuple #[]);exact ai (bh hk) (aNB hk (u.size.trans hs) ((u.ne 6 (by decide)).trans h6) fun a' todo d'=>hK a' todo (d'.trans (u.defers.trans hd)))
theorem azY{fU:World}{a a3:Act}(hk:b.kind≠.early)(mQ:Γ.wgT=85)(hV:V.deaf=0)(hA:Apart V (aS Γ))(hB:Z7 Γ.wg w)(gb:aP V w fU)(hs:a.tmps.size=84)(hd:a.defers=[])(h0:a.eval (.tmp 0)=.pointer (some ⟨Γ.wg,0,none⟩))(q1:a3.tmps.size=7)(q2:a3.defers=[])(q3:a3.eval (.tmp 5)=.pointer (some (stA Γ.wg)))(K:EN Γ J Fin V w b cs):
  nS Γ J Fin .Ce (V.hears 1) (G ((base 45).at a3 (.inRegion lE [3,4]::.code yy::[])) (b.at a (.inRegion lY [3,4,5]::.code tn::k)::cs)) fU:=by
 refine nS.fold ⟨rfl,rfl,fun w₁ hr jf=>?_⟩;rw [mQ]at jf;obtain⟨c1,c2,_,_⟩:=nL jf;refine⟨_,stepG_load_atomic rA.a rA.f (by decide) rA.o func71 aAK aAL aAM .u64 aAN q3 c1,?_⟩
 have u:=bj a3 (nR lE 3).dst (.int .u64 0);have yL:=gb.trans hr.gH;refine GR (bh hk) (u.size.trans q1) (u.defers.trans q2) (u.eq 6 rfl (by rw [q1];decide)) pW.a pW.d (by rw [hs];decide) fun a' e1 e2 e3 e4=>?_
 refine aWy hk (e1.trans hs) (hB.kind yL.kind) ((e3 0 (by decide)).trans h0) e4 fun a5 s5 d5 g6 g80=>?_
 rw [tx hV];exact Loc.stop fun fy dv=>aWA hk hV (yL.trans dv) s5 (d5.trans (e2.trans hd)) g6 g80 K
theorem azZ{fU:World}{a:Act}(hk:b.kind≠.early)(mQ:Γ.wgT=85)(hV:V.deaf=0)(hA:Apart V (aS Γ))(hB:Z7 Γ.wg w)(gb:aP V w fU)(hs:a.tmps.size=84)(hd:a.defers=[])(h0:a.eval (.tmp 0)=.pointer (some ⟨Γ.wg,0,none⟩))(U9:a.eval (.tmp 70)=.pointer (some (smA Γ.wg)))(K:EN Γ J Fin V w b cs):
  nS Γ J Fin .sM (V.hears 1) (G (b.at a (.inRegion lX [4]::.code pV::k)) cs) fU:=by
 refine nS.fold ⟨rfl,rfl,fun w₁ hr=>⟨fun⟨st,jf⟩=>?_,fun jf=>?_⟩⟩
 ·obtain⟨_,_,c3,c4⟩:=nL jf;exact⟨rfl,stepG_semacquire_wait mC.a mC.f mC.o func56 aAG aAH aAI aAJ (by simp;exact U9) c3⟩
 ·obtain⟨_,_,c3,c4⟩:=nL jf;have bF:=stepG_semacquire (P:=prog) (main:=true) (kk:=.code pV::k) (cs:=cs) (rest:=[]) mC.a mC.f hk mC.o func56 aAG aAH aAI aAJ (by simp;exact U9) c3 (by decide) c4
  refine⟨_,bF,?_⟩;have u:=bj a (nR lX 4).dst (.tuple #[]);have yL:=(gb.trans hr.gH).trans (yX (off:=1) (v:=.int .u32 0) hA);refine aWx hk (u.size.trans hs) ((u.ne 0 (by decide)).trans h0) fun a' s' d' g0 a3 q1 q2 q3=>Loc.stop fun fy dv=>?_
  exact azY hk mQ hV hA hB (yL.trans dv.gH) s' (d'.trans (u.defers.trans hd)) g0 q1 q2 q3 K
theorem aNC{fU:World}{a:Act}(hk:b.kind≠.early)(mQ:Γ.wgT=85)(hV:V.deaf=0)(hA:Apart V (aS Γ))(hB:Z7 Γ.wg w)(hv:v<32)(gb:aP V w fU)(hs:a.tmps.size=84)(hd:a.defers=[])(h0:a.eval (.tmp 0)=.pointer (some ⟨Γ.wg,0,none⟩))(h2:a.eval (.tmp 2)=.int .u64 ((v:Int)*KK))(Ff:a.eval (.tmp 56)=.pointer (some (smA Γ.wg)))(K:EN Γ J Fin V w b cs):
  nS Γ J Fin .mwr (V.hears 1) (G (b.at a (.inRegion lW [4]::.code tk::k)) cs) fU:=by
 refine nS.fold ⟨rfl,rfl,fun w₁ hr r6=>⟨_,stepG_markAt .write (by simp) D5.a D5.f hk D5.o func55 aO6 aO7 aO8 aO9 (by simp;exact Ff),?_⟩⟩
 have u:=bj a (nR lW 4).dst (.tuple #[]);refine aWw hk (u.size.trans hs) hv ((u.ne 0 (by decide)).trans h0) ((u.ne 2 (by decide)).trans h2) fun a' s' d' g0 g70=>Loc.stop fun fy dv=>?_
 exact azZ hk mQ hV hA hB ((gb.trans hr.gH).trans dv.gH) s' (d'.trans (u.defers.trans hd)) g0 g70 K
inductive UI(Γ:Rc)(V:View)(w:World)(b:Frame)(k:List Item)(cs:List Frame):MK->View->Goroutine->World->Prop
 |ld {a a3:Act} {fU:World} (hr:aP V w fU) (hs:a.tmps.size=84) (hd:a.defers=[]) (h0:a.eval (.tmp 0)=.pointer (some ⟨Γ.wg,0,none⟩)) (q1:a3.tmps.size=7) (q2:a3.defers=[]) (q3:a3.eval (.tmp 5)=.pointer (some (stA Γ.wg))):
  UI Γ V w b k cs .FP (V.hears 1) (G ((base 45).at a3 (.inRegion lE [3,4]::.code yy::[])) (b.at a (.inRegion we [3,4]::.code DZ::.inBlock 1::.inLoop Gs::k)::cs)) fU
 |cas {a a3:Act} {fU:World} {v:Nat} (hr:aP V w fU) (rM:v≠0) (hv:v<32) (hs:a.tmps.size=84) (hd:a.defers=[]) (h0:a.eval (.tmp 0)=.pointer (some ⟨Γ.wg,0,none⟩)) (h2:a.eval (.tmp 2)=.int .u64 ((v:Int)*KK)) (h4:a.eval (.tmp 4)=.int .u32 0)
  (q1:a3.tmps.size=13) (q2:a3.defers=[]) (q3:a3.eval (.tmp 9)=.pointer (some (stA Γ.wg))) (q4:a3.eval (.tmp 10)=.int .u64 ((v:Int)*KK)) (q5:a3.eval (.tmp 11)=.int .u64 ((v:Int)*KK+1)):
  UI Γ V w b k cs (.Hj v) (V.hears 1) (G ((base 54).at a3 (.inRegion lF [5,6]::.code Gy::[])) (b.at a (.inRegion kP [6]::.code tj::.inBlock 1::.inLoop Gs::k)::cs)) fU
theorem awh(hk:b.kind≠.early)(mQ:Γ.wgT=85)(hV:V.deaf=0)(hA:Apart V (aS Γ))(hB:Z7 Γ.wg w)(K:EN Γ J Fin V w b cs)(x:MK)(V':View)(g:Goroutine)(fU:World)(h:UI Γ V w b k cs x V' g fU):
  Ot Γ J Fin (fun x V' g fU=>UI Γ V w b k cs x V' g fU\/nS Γ J Fin x V' g fU) x V' g fU:=by
 have hS:=ly hk;cases h with
 |@ld a a3 fU hr hs hd h0 q1 q2 q3=>
  refine⟨rfl,rfl,fun w₁ v gi hv jf=>?_⟩;rw [mQ]at jf;obtain⟨c1,c2,_,_⟩:=nL jf;refine⟨_,stepG_load_atomic rA.a rA.f (by decide) rA.o func71 aAK aAL aAM .u64 aAN q3 c1,?_⟩
  have u:=bj a3 (nR lE 3).dst (.int .u64 ((v:Int)*KK));have yL:=hr.trans gi.gH;refine GR hS (u.size.trans q1) (u.defers.trans q2) (u.eq 6 rfl (by rw [q1];decide)) wi.a wi.d (by rw [hs];decide) fun a' e1 e2 e3 e4=>?_
  refine aWu hk (e1.trans hs) hv (hB.kind yL.kind) ((e3 0 (by decide)).trans h0) e4 (fun rM a5 s5 d5 g2 g4 g22=>?_) fun rM a5 s5 d5 g0 g2 g4 a6 p1 p2 p3 p4 p5=>?_
  ·rw [if_pos rM,tx hV];exact Loc.stop fun fy dv=>.inr (aWz hk hV (yL.trans dv) s5 (d5.trans (e2.trans hd)) g2 g4 g22 K)
  ·rw [if_neg rM];exact Loc.stop fun fy dv=>.inl (.cas (yL.trans dv.gH) rM hv s5 (d5.trans (e2.trans hd)) g0 g2 g4 p1 p2 p3 p4 p5)
 |@cas a a3 fU v hr rM hv hs hd h0 h2 h4 q1 q2 q3 q4 q5=>
  refine⟨rfl,rfl,rM,fun w₁ v' gi yM jf=>⟨fun e=>?_,fun ne=>?_⟩⟩
  ·subst e;rw [mQ]at jf;obtain⟨c1,c2,_,_⟩:=nL jf;refine⟨_,stepG_cas_hit rB.a rB.f (by decide) rB.o func77 aAO aAP aAQ .u64 aAR q3 q4 q5 c1 c2,?_⟩
   have u:=bj a3 (nR lF 5).dst (.bool true);have yL:=(hr.trans gi.gH).trans (yX (off:=0) (v:=.int .u64 ((v':Int)*KK+1)) hA);refine UH hS (u.size.trans q1) (u.defers.trans q2) (u.eq 12 rfl (by rw [q1];decide)) kR.a kR.d (by rw [hs];decide) fun a' e1 e2 e3 e4=>?_
   exact aWv hk (e1.trans hs) (hB.kind yL.kind) ((e3 0 (by decide)).trans h0) ((e3 2 (by decide)).trans h2) ((e3 4 (by decide)).trans h4) e4 fun a5 s5 d5 g0 g2 g56=>Loc.stop fun fy dv=>.inr (aNC hk mQ hV hA hB hv (yL.trans dv.gH) s5 (d5.trans (e2.trans hd)) g0 g2 g56 K)
  ·rw [mQ]at jf;obtain⟨c1,c2,_,_⟩:=nL jf;have hKK:KK=4294967296:=rfl;refine⟨_,stepG_cas_miss rB.a rB.f (by decide) rB.o func77 aAO aAP aAQ .u64 aAR q3 q4 q5 c1 c2 (fun q=>ne (by rw [hKK]at q;omega)),?_⟩
   have u:=bj a3 (nR lF 5).dst (.bool false);have yL:=hr.trans gi.gH;refine UH hS (u.size.trans q1) (u.defers.trans q2) (u.eq 12 rfl (by rw [q1];decide)) kR.a kR.d (by rw [hs];decide) fun a' e1 e2 e3 e4=>?_
   exact ai hS (aX hS aqW e4 (q_skip hS aKs (c7 hS (dW hS (aDA hk (e1.trans hs) ((e3 0 (by decide)).trans h0) fun a5 s5 d5 g0 a6 p1 p2 p3=>Loc.stop fun fy dv=>.inl (.ld (yL.trans dv.gH) s5 (d5.trans (e2.trans hd)) g0 p1 p2 p3))))))
theorem al9{a:Act}(hk:b.kind≠.early)(mQ:Γ.wgT=85)(hV:V.deaf=0)(hA:Apart V (aS Γ))(hB:Z7 Γ.wg w)(hs:a.tmps.size=84)(hd:a.defers=[])(h0:a.eval (.tmp 0)=.pointer (some ⟨Γ.wg,0,none⟩))(K:EN Γ J Fin V w b cs):
  ib (nS Γ J Fin) .FP V (G (b.at a (.code SN::k)) cs) w:=by
 have hS:=ly hk;refine aj hS aSi (bY hS aSb rfl (ag hS aR9 (rl [0] rfl) (mY .disable (V.deaf+1) (.inl ⟨rfl,rfl⟩) Aw.a Aw.f hk Aw.d Aw.o func37 NQ NR NS NU fun a1 s1 d1 n1=>?_)));rw [hV];refine ai hS (bV hS aSh (iU hS aSg (aDA hk (s1.trans hs) ((n1 0 (by decide)).trans h0) fun a' s' d' g0 a3 q1 q2 q3=>Loc.stop fun w₁ gi=>?_)))
 exact nS.aax (UI Γ V w b (.inBlock 0::k) cs) (awh hk mQ hV hA hB K) (.ld gi.gH s' (d'.trans (d1.trans hd)) g0 q1 q2 q3)
end
structure RD where
 ns:Nat
 iH:Nat->List Int
 bs:Nat->Option Addr
 cp:Nat->Nat
 u:Int
 js:List (Nat×Jb)
variable {R:RD}
def RD.yU(R:RD)(mp:Nat->Nat)(n0:Nat):cY:=⟨R.u,R.iH,R.bs,R.cp,mp,n0⟩
structure RD.Ok(R:RD):Prop where
 u:R.u=1\/R.u=2\/R.u=4\/R.u=8\/R.u=16
 len:∀k,(R.iH k).length<=60
 cap:∀k,(R.iH k).length<=R.cp k
 bs:∀k,R.iH k≠[]->∃b o,R.bs k=some ⟨b,o,none⟩
 N:R.js.length<31
 me:∀p∈R.js,p.1<R.ns
 q:∀p∈R.js,-1<=p.2.q
theorem aDB{α:Type}{l:List α}{j:Nat}{x:α}(h:l[j]? =some x):l≠[]:=fun e=>by rw [e]at h;simp at h
def RD.k7(R:RD)(j:Nat):Nat×Jb:=R.js.getD j (0,⟨0,0,0⟩)
def RD.len(R:RD)(k:Nat):Int:=((R.iH k).length:Int)
def RD.cnt(R:RD)(p t:Int):Nat:=if p<t then((t-1)/R.u+1-p/R.u).toNat else 0
def RD.hf(R:RD)(j:Nat):Int:=(R.k7 j).2.hf (R.len (R.k7 j).1)
def RD.wt(R:RD)(j:Nat):Int:=(R.k7 j).2.wt (R.len (R.k7 j).1)
def RD.ht(R:RD)(j:Nat):Int:=(R.k7 j).2.ht (R.len (R.k7 j).1)
def RD.qL(R:RD)(j:Nat):Nat:=R.cnt (R.hf j) (R.wt j)
def RD.item(R:RD)(j s:Nat):Int:=(R.wt j-1)/R.u+1-s
def RD.bytes(R:RD)(j:Nat):List Value:=(((R.iH (R.k7 j).1).drop (R.hf j).toNat).take (R.wt j-R.hf j).toNat).map dG
def RD.whole(R:RD)(j:Nat):Bool:=R.wt j==R.ht j
def RD.nM(R:RD)(C n0:Nat):cP:={N:=R.js.length,me:=fun j=>(R.k7 j).1,len:=R.qL,item:=R.item,en:=400,res:=fun j=>Z6 j C n0 (R.bytes j) (R.whole j)}
def yg(ns:Nat)(src:Nat->Nat)(wg off:Nat):Rc:={src,ns,me:=0,item:=fun _=>0,res:=fun _ _=>False,wgT:=85,wg,off,chT:=78,cont:=fun _ _ _ _=>False,full:=fun _ _ _=>False}
def RD.gam(R:RD)(src mp:Nat->Nat)(wg off n0:Nat):Rc:={yg R.ns src wg off with cont:=jI (yg R.ns src wg off) (R.yU mp n0),full:=kY (yg R.ns src wg off) (R.yU mp n0)}
section
variable {wg off j:Nat}
theorem RD.Ok.yU(h:R.Ok)(Γ:Rc):lH Γ (R.yU mp n0):=⟨h.u,h.len,h.cap,h.bs⟩
theorem UJ{Γ Γ':Rc}{D:cY}(hs:Γ.src=Γ'.src){k:Nat}{γ:Gh}{V:View}{w:World}:jI Γ D k γ V w->jI Γ' D k γ V w:=fun h=>by
 refine⟨h.tidy,h.map,?_,?_,?_,?_,h.yr,h.inn,⟨?_,?_⟩,h.deaf,h.ks,h.new⟩
 ·rw [←hs];exact h.wc5
 ·rw [←hs];exact h.wc6
 ·rw [←hs];exact h.two
 ·rw [←hs];exact h.set
 ·rw [←hs];exact h.gB.own
 ·rw [←hs];exact h.gB.cell
theorem UK{Γ Γ':Rc}{D:cY}(hs:Γ.src=Γ'.src){c:xp}{V:View}{w:World}:kY Γ D c V w->kY Γ' D c V w:=fun h=>⟨h.ex,h.low,by rw [←hs];exact h.gB⟩
theorem nN(hj:j<R.js.length):R.k7 j∈R.js:=by
 have:R.k7 j=R.js[j]:=by simp [RD.k7,List.getD_eq_getElem?_getD,List.getElem?_eq_getElem hj]
 rw [this];exact List.getElem_mem hj
theorem RD.is(h:R.Ok)(hj:j<R.js.length)(inj:∀k k',k<R.ns->k'<R.ns->src k=src k'->k=k'):Is ((R.gam src mp wg off n0).at (R.nM C n0) j) (R.yU mp n0):=
 ⟨fun k γ V w=>⟨fun h=>UJ (Γ:=yg R.ns src wg off) (Γ':=(R.gam src mp wg off n0).at (R.nM C n0) j) rfl h,fun h=>(UJ (Γ:=(R.gam src mp wg off n0).at (R.nM C n0) j) (Γ':=yg R.ns src wg off) rfl h:jI (yg R.ns src wg off) (R.yU mp n0) k γ V w)⟩,fun c V w=>⟨fun h=>UK (Γ:=yg R.ns src wg off) (Γ':=(R.gam src mp wg off n0).at (R.nM C n0) j) rfl h,fun h=>(UK (Γ:=(R.gam src mp wg off n0).at (R.nM C n0) j) (Γ':=yg R.ns src wg off) rfl h:kY (yg R.ns src wg off) (R.yU mp n0) c V w)⟩,h.yU _,h.me _ (nN hj),inj⟩
theorem RD.a0D(h:R.Ok)(inj:∀k k',k<R.ns->k'<R.ns->src k=src k'->k=k')(mQ:∀k,k<R.ns->src k≠wg):dK (R.gam src mp wg off n0) (R.nM C n0):=
 ⟨fun k γ V w w' hc hr=>jI.rely hc hr,fun c V w w' hc hr=>kY.rely hc hr,fun j V w w' hc hr=>Z6.rely hc hr,inj,mQ,h.N,fun j hj=>h.me _ (nN hj)⟩
theorem awi(D:cY){p t:Int}(hu:D.u=R.u)(h1:1<=R.u)(hpt:p<=t):D.leftOf p t (R.cnt p t):=by
 unfold cY.leftOf RD.cnt;by_cases h:p<t
 ·have:p/R.u<=(t-1)/R.u:=Int.ediv_le_ediv (by omega) (by omega)
  rw [if_pos h,hu];exact .inr ⟨h,by omega,by omega⟩
 ·rw [if_neg h];exact .inl ⟨by omega,rfl⟩
theorem awj{p t:Int}(h1:1<=R.u)(hp:0<=p)(ht:t<=60):R.cnt p t<=60:=by
 unfold RD.cnt;split
 ·have h2:0<=p/R.u:=Int.ediv_nonneg hp (by omega)
  have h3:(t-1)/R.u<=t-1:=Int.ediv_le_self _ (by omega)
  omega
 ·omega
theorem RD.Ok.u1(h:R.Ok):1<=R.u:=by rcases h.u with x|x|x|x|x<;>rw [x]<;>decide
theorem UL(h:R.Ok)(hj:j<R.js.length):0<=R.hf j/\R.hf j<=R.wt j/\R.wt j<=R.len (R.k7 j).1/\R.len (R.k7 j).1<=60:=by
 have rn:=h.len (R.k7 j).1;have hl:R.len (R.k7 j).1=((R.iH (R.k7 j).1).length:Int):=rfl;have hq:=h.q _ (nN hj);unfold RD.hf RD.wt;cases hs:(R.k7 j).2.some (R.len (R.k7 j).1)with
 |true=>
  obtain⟨z1,z2,z3,z4,z5⟩:=Jb.NA hs hq;omega
 |false=>
  obtain⟨z1,z2,z3⟩:=Jb.aku hs hq;omega
theorem ama(h:R.Ok)(hj:j<R.js.length):R.qL j<=60:=by
 obtain⟨a,b,c,d⟩:=UL h hj;exact awj h.u1 a (by omega)
end
structure Pl where
 src:Nat->Nat
 mp:Nat->Nat
 wg:Nat
 off:Nat
 C:Nat
 gs:Nat
 b8:Nat
 jR:Nat
 lZ:Nat
 b13:Nat
 n0:Nat
variable {p:Pl}
def RD.G(R:RD)(p:Pl):Rc:=R.gam p.src p.mp p.wg p.off p.n0
def RD.D(R:RD)(p:Pl):cY:=R.yU p.mp p.n0
def RD.J(R:RD)(p:Pl):cP:=R.nM p.C p.n0
def RD.qM(R:RD)(A:Option Addr)(V:View)(w:World):Prop:=
 ∀j,j<R.js.length->∃jb jo,A=some ⟨jb,jo,none⟩/\iJ V w ⟨jb,jo+j*4,none⟩ (.int .i64 (R.k7 j).1)/\iJ V w ⟨jb,jo+j*4+1,none⟩ (.int .i64 (R.k7 j).2.f)/\iJ V w ⟨jb,jo+j*4+2,none⟩ (.int .i64 (R.k7 j).2.t)/\iJ V w ⟨jb,jo+j*4+3,none⟩ (.int .i64 (R.k7 j).2.q)
theorem RD.qM.rely{R:RD}{A:Option Addr}{V:View}{w w':World}(h:R.qM A V w)(hr:aP V w w'):R.qM A V w':=fun j hj=>by
 obtain⟨jb,jo,h0,h1,h2,h3,h4⟩:=h j hj;exact⟨jb,jo,h0,h1.rely hr,h2.rely hr,h3.rely hr,h4.rely hr⟩
theorem RD.qM.go{R:RD}{A:Option Addr}{V V':View}{w w':World}(h:R.qM A V w)(k:aG aI aD V w V' w'):R.qM A V' w':=fun j hj=>by
 obtain⟨jb,jo,h0,h1,h2,h3,h4⟩:=h j hj;exact⟨jb,jo,h0,h1.go k,h2.go k,h3.go k,h4.go k⟩
structure MV(R:RD)(p:Pl)(A:Option Addr)(i:Nat)(V:View)(w:World):Prop where
 tidy:Tidy V w
 deaf:V.deaf=0
 apS:Apart V (aS (R.G p))
 wr:∀a,V.wc a->¬V.ro a
 wcO:∀a,V.wc a->a.block=p.C
 n56:∀k,k<R.ns->∀a,V.ro a\/V.wc a->a.block=p.src k->a.off≠5/\a.off≠6
 wcC:∀x,2*i<=x->x<2*R.js.length->V.wc ⟨p.C,x,none⟩/\(w.cell? ⟨p.C,x,none⟩).isSome=true
 aNE:∃c e,w.heap[p.C]? =some (.cells c e (0,0))
 gC:Cl V w ⟨p.b8,0,none⟩ (.slice (some ⟨p.gs,0,none⟩) R.ns R.ns)
 elem:∀k,k<R.ns->Cl V w ⟨p.gs,k,none⟩ (.pointer (some ⟨p.src k,0,none⟩))
 aNF:Cl V w ⟨p.lZ,0,none⟩ (.chan (some p.off))
 Z5:Cl V w ⟨p.jR,0,none⟩ (.slice (some ⟨p.C,0,none⟩) R.js.length R.js.length)
 src:∀k,k<R.ns->kX (R.G p) (R.D p) k V w
 az1:∀k,k<R.ns->∃c ty,w.heap[p.src k]? =some (.cells c ty (0,0))/\c.size=7
 wgb:Z7 p.wg w
 nM:R.qM A V w
 n0:p.n0<=w.heap.size
section
variable {w:World}
theorem MV.low(h:MV R p A i V w):mP (aS (R.G p)) w.heap.size:=by
 refine⟨fun b hb=>hb.elim,fun a ha=>?_,fun a ha=>ha.elim⟩;rcases ha with ⟨k,hk,hb,_⟩|hb
 ·obtain⟨c,ty,h1,_⟩:=h.az1 k hk;have:=(Array.getElem?_eq_some_iff.1 h1).1;rw [hb];exact this
 ·obtain⟨c,e,fr,h1,_⟩:=h.wgb;have:=(Array.getElem?_eq_some_iff.1 h1).1;rw [hb];exact this
theorem MV.go(h:MV R p A i V w)(k:aG aI aD V w V' w'):MV R p A i V' w':=by
 have hl:=h.low;refine⟨h.tidy.aC k,k.deaf.trans h.deaf,⟨fun b hb=>id,fun a ha=>?_,fun a ha=>?_,fun a ha=>id,fun a ha=>ha.elim⟩,?_,?_,?_,?_,?_,h.gC.go k,fun x hx=>(h.elem x hx).go k,h.aNF.go k,h.Z5.go k,fun x hx=>(h.src x hx).go k,?_,h.wgb.kind k.kind,h.nM.go k,Nat.le_trans h.n0 k.size⟩
 ·rw [k.wc]at ha;exact⟨(h.apS.wc a ha).1,id,id⟩
 ·have:=h.apS.mX a ha;rw [k.wc,k.ro];refine⟨this.1,this.2.1,fun x=>?_⟩;rcases k.new _ x with y|y
  ·exact this.2.2 y
  ·have:=hl.wc a ha;omega
 ·rw [k.wc,k.ro];exact h.wr
 ·rw [k.wc];exact h.wcO
 ·rw [k.wc,k.ro];exact h.n56
 ·intro x h1 h2;obtain⟨h3,h4⟩:=h.wcC x h1 h2;rw [k.wc,k.cell _ (.inr h3) id];exact⟨h3,h4⟩
 ·obtain⟨c,e,hb⟩:=h.aNE;obtain⟨c',h3,_⟩:=k.kind _ _ _ _ hb;exact⟨c',e,h3⟩
 ·intro x hx;obtain⟨c,ty,h1,h2⟩:=h.az1 x hx;obtain⟨c',h3,h4⟩:=k.kind _ _ _ _ h1;exact⟨c',ty,h3,h4.trans h2⟩
theorem MV.rely(h:MV R p A i V w)(hr:aP V w w'):MV R p A i V w':=h.go (.bk hr)
def su(V:View)(C i j9 jl:Nat):View:=⟨fun b=>b=j9\/b=jl,V.ro,fun a=>a=⟨C,i*2,none⟩\/a=⟨C,i*2+1,none⟩,0⟩
def xh(V:View)(C i j9 jl:Nat):View:=⟨fun b=>V.own b/\¬(b=j9\/b=jl),V.ro,fun a=>V.wc a/\¬(a=⟨C,i*2,none⟩\/a=⟨C,i*2+1,none⟩),0⟩
theorem akx(h:MV R p A i V w)(hi:i<R.js.length)(aW:V.own j9)(eS:V.own jl):(xh V p.C i j9 jl).Le V/\(su V p.C i j9 jl).Le V/\Apart (xh V p.C i j9 jl) (su V p.C i j9 jl):=by
 have c0:=(h.wcC (i*2) (by omega) (by omega)).1
 have c1:=(h.wcC (i*2+1) (by omega) (by omega)).1
 have hw:∀a,(su V p.C i j9 jl).wc a->V.wc a:=fun a x=>x.elim (fun e=>e▸c0) fun e=>e▸c1;have ho:∀b,(su V p.C i j9 jl).own b->V.own b:=fun b x=>x.elim (fun e=>e▸aW) fun e=>e▸eS;refine⟨⟨fun b x=>x.1,fun a x=>.inl x.1,fun a x=>.inl x,h.deaf.symm⟩,⟨ho,fun a x=>.inl (hw a x),fun a x=>.inl x,h.deaf.symm⟩,⟨fun b x y=>x.2 y,fun a x=>⟨fun y=>x.2 y,fun y=>h.wr a x.1 y,fun y=>h.tidy.fV a (.inr x.1) (ho _ y)⟩,fun a x=>⟨fun y=>y.2 x,fun y=>h.wr a (hw a x) y,fun y=>h.tidy.fV a (.inr (hw a x)) y.1⟩,fun a x y=>h.tidy.fV a (.inl x) (ho _ y),fun a x y=>h.tidy.fV a (.inl x) y.1⟩⟩
theorem Cl.ro{V V':View}{w:World}{ad:Addr}{v:Value}(h:Cl V w ad v)(hv:∀a,V.ro a\/V.wc a->a=ad->V'.ro a\/V'.wc a):Cl V' w ad v:=⟨hv ad h.1 rfl,h.2⟩
theorem MV.xh(h:MV R p A i V w)(hi:i<R.js.length)(aW:V.own j9)(eS:V.own jl)(hj:∀jb jo,A=some ⟨jb,jo,none⟩->jb≠j9/\jb≠jl/\jb≠p.C)(hC:p.b8≠p.C/\p.gs≠p.C/\p.lZ≠p.C/\p.jR≠p.C)(hsC:∀k,k<R.ns->p.src k≠p.C/\(R.iH k≠[]->∀bb o,(R.bs k)=some ⟨bb,o,none⟩->bb≠p.C)):MV R p A (i+1) (xh V p.C i j9 jl) w:=by
 have keep:∀ad v,ad.block≠p.C->Cl V w ad v->Cl (Go.Proofs.YtmcddajniiaieaaGreatDoor.xh V p.C i j9 jl) w ad v:=fun ad v hb x=>⟨x.1.imp id fun y=>⟨y,fun z=>z.elim (fun e=>hb (by rw [e])) fun e=>hb (by rw [e])⟩,x.2⟩
 obtain⟨e1,e2,e3,e4⟩:=hC;refine⟨⟨h.tidy.gl,⟨fun b x=>h.tidy.low.own b x.1,fun a x=>h.tidy.low.wc a x.1,h.tidy.low.ro⟩,fun a x y=>h.tidy.fV a (x.imp id fun z=>z.1) y.1⟩,rfl,h.apS.le (akx h hi aW eS).1,fun a x=>h.wr a x.1,fun a x=>h.wcO a x.1,fun k hk a x=>h.n56 k hk a (x.imp id fun z=>z.1),?_,h.aNE,keep _ _ e1 h.gC,fun k hk=>keep _ _ e2 (h.elem k hk),keep _ _ e3 h.aNF,keep _ _ e4 h.Z5,?_,h.az1,h.wgb,?_,h.n0⟩
 ·intro x h1 h2;obtain⟨h3,h4⟩:=h.wcC x (by omega) h2
  exact⟨⟨h3,fun z=>z.elim (fun e=>absurd (congrArg Addr.off e) (by show x≠i*2;omega)) fun e=>absurd (congrArg Addr.off e) (by show x≠i*2+1;omega)⟩,h4⟩
 ·intro k hk;obtain⟨s1,s2⟩:=hsC k hk;have s:=h.src k hk;exact⟨keep _ _ s1 s.obj,keep _ _ s1 s.unit,keep _ _ s1 s.map,fun b o e j x hj=>keep _ _ (s2 (aDB hj) b o e) (s.bytes b o e j x hj)⟩
 ·intro j lO;obtain⟨jb,jo,h0,h1,h2,h3,h4⟩:=h.nM j lO;obtain⟨n1,n2,n3⟩:=hj jb jo h0;have ks:∀off v,iJ V w ⟨jb,off,none⟩ v->iJ (Go.Proofs.YtmcddajniiaieaaGreatDoor.xh V p.C i j9 jl) w ⟨jb,off,none⟩ v:=fun off v x=>⟨by
   rcases x.1 with y|y|y
   ·exact .inl ⟨y,fun z=>z.elim n1 n2⟩
   ·exact .inr (.inl y)
   ·exact .inr (.inr ⟨y,fun z=>z.elim (fun e=>n3 (by simpa using congrArg Addr.block e)) fun e=>n3 (by simpa using congrArg Addr.block e)⟩),x.2⟩
  exact⟨jb,jo,h0,ks _ _ h1,ks _ _ h2,ks _ _ h3,ks _ _ h4⟩
end
structure aNG(R:RD)(p:Pl)(A:Option Addr):Prop where
 c8:p.b8≠p.C
 cg:p.gs≠p.C
 c12:p.lZ≠p.C
 c11:p.jR≠p.C
 cs:∀k,k<R.ns->p.src k≠p.C
 cb:∀k,k<R.ns->R.iH k≠[]->∀bb o,R.bs k=some ⟨bb,o,none⟩->bb≠p.C
 cj:0<R.js.length->∀jb jo,A=some ⟨jb,jo,none⟩->jb≠p.C
 inj:∀k k',k<R.ns->k'<R.ns->p.src k=p.src k'->k=k'
 wg:∀k,k<R.ns->p.src k≠p.wg
section
variable {w:World} {a:Act}
structure Lp2(R:RD)(p:Pl)(A:Option Addr)(cN:Nat)(ds:List Deferred)(a:Act):Prop where
 hs:a.tmps.size=53
 hd:a.defers=ds
 h8:a.eval (.tmp 8)=.pointer (some ⟨p.b8,0,none⟩)
 aH:a.eval (.tmp 11)=.pointer (some ⟨p.jR,0,none⟩)
 aJ:a.eval (.tmp 12)=.pointer (some ⟨p.lZ,0,none⟩)
 aK:a.eval (.tmp 13)=.pointer (some ⟨p.wg,0,none⟩)
 fQ:a.eval (.tmp 40)=.slice A R.js.length cN
 iT:a.eval (.tmp 41)=.int .i64 R.js.length
theorem aNH(hk:b.kind≠.early)(hR:R.Ok)(hm:MV R p A i V w)(hi:i<R.js.length)(hl:Lp2 R p A cN ds a)(j8:a.eval (.tmp 42)=.int .i64 i)
  (K:∀j9 jl a' V' w',Lp2 R p A cN ds a'->a'.eval (.tmp 42)=.int .i64 i->a'.eval (.tmp 14)=.pointer (some ⟨j9,0,none⟩)->a'.eval (.tmp 15)=.pointer (some ⟨jl,0,none⟩)->aG aI aD V w V' w'->w.heap.size<=j9->w.heap.size<=jl->
   ba V' w' j9 (.cells #[.int .i64 i] 3 (0,0))->ba V' w' jl (.cells #[.int .i64 (R.k7 i).1,.int .i64 (R.k7 i).2.f,.int .i64 (R.k7 i).2.t,.int .i64 (R.k7 i).2.q] 34 (0,0))->Loc prog true Stop V' (G (b.at a' (.code DT::.inBlock 3::.code DU::k)) cs) w'):
  Loc prog true Stop V (G (b.at a (.code pO::k)) cs) w:=by
 have hS:=ly hk;obtain⟨hs,hd,h8,aH,aJ,aK,fQ,iT⟩:=hl;obtain⟨jb,jo,hA,j0,j1,j2,j3⟩:=hm.nM i hi;refine aj hS aqC (ag hS aqv aqw (ay vU hS hs (du vU.o j8 iT) fun a ae zz=>t7 ae hs hd h8 aH aJ aK fQ iT j8 fun hs hd h8 aH aJ aK fQ iT j8=>?_));have zz:a.eval (.tmp 43)=.bool true:=by rw [zz];simp;omega
 refine ai hS (aj hS aqB (bY hS aqz zz (q_skip hS aJh (aj hS aJq (bV hS aJo (aj hS aJn (ag hS aJj (rl [0,1,2,3,4,5,6] rfl) (ay SJ hS hs (af SJ.o j8) fun a ae mS=>t7 ae hs hd h8 aH aJ aK fQ iT j8 fun hs hd h8 aH aJ aK fQ iT j8=>?_))))))));rw [hA]at fQ;refine ay SL hS hs (cT (s:=4) SL.o fQ j8 underlying23 sizeOf34 hi) fun a ae xu=>t8 ae hs hd h8 aH aJ aK fQ iT j8 mS fun hs hd h8 aH aJ aK fQ iT j8 mS=>?_;rw [←hA]at fQ;refine ay SM hS hs (vi SM.o xu isAgg34 sizeOf34 j0 j1 j2 j3) fun a ae jZ=>t8 ae hs hd h8 aH aJ aK fQ iT j8 mS fun hs hd h8 aH aJ aK fQ iT j8 mS=>?_;refine dN vV.a vV.f hS vV.d (by rw [hs];decide) hm.tidy vV.o Tryz.zeroValue3 fun j9 a V1 w1 au an ah aW W1 g1 B1 T1=>t9 ⟨au,an,ah⟩ hs hd h8 aH aJ aK fQ iT j8 mS jZ fun hs hd h8 aH aJ aK fQ iT j8 mS jZ=>?_
 refine dN vW.a vW.f hS vW.d (by rw [hs];decide) T1 vW.o Tryz.zeroValue34 fun jl a V2 w2 au an ah eS W2 g2 B2 T2=>t10 ⟨au,an,ah⟩ hs hd h8 aH aJ aK fQ iT j8 mS jZ aW fun hs hd h8 aH aJ aK fQ iT j8 mS jZ aW=>?_
 have B2:ba V2 w2 jl (.cells #[.int .i64 0,.int .i64 0,.int .i64 0,.int .i64 0] 34 (0,0)):=B2;have B1:ba V2 w2 j9 (.cells #[.int .i64 0] 3 (0,0)):=B1.go W2;have W12:=W1.trans W2;have g2':w.heap.size<=jl:=Nat.le_trans W1.size g2;refine gg vX.a vX.f hS vX.d vX.o aW mS (vs:=[.int .i64 i]) rfl sizeOf3 (fun u hu=>by simp at hu;subst hu;rfl) B1 (by simp) T2 fun w3 W3 B3 T3 z3=>?_
 have cM:jl≠j9:=B2.ne B1 (by simp)
 have B4:=B2.off W3 cM;exact gg vY.a vY.f hS vY.d vY.o eS jZ (vs:=[.int .i64 (R.k7 i).1,.int .i64 (R.k7 i).2.f,.int .i64 (R.k7 i).2.t,.int .i64 (R.k7 i).2.q]) rfl sizeOf34 (fun u hu=>by simp at hu;rcases hu with rfl|rfl|rfl|rfl<;>rfl) B4 (by simp) T3 fun w4 W4 B5 T5 z5=>ai hS (K j9 jl _ _ _ ⟨hs,hd,h8,aH,aJ,aK,fQ,iT⟩ j8 aW eS ((W12.fresh W3 g1 hm.tidy).fresh W4 g2' hm.tidy) g1 g2' (B3.off W4 cM.symm) B5)
end
structure Kp0(V0:View)(w0:World)(V:View)(w:World):Prop where
 same:jy w0 w
 size:w0.heap.size<=w.heap.size
 own:∀b,V0.own b->V.own b/\w.heap[b]? =w0.heap[b]?
 ro:∀a,V0.ro a->V.ro a/\w.cell? a=w0.cell? a
 kind:eG w0 w
theorem Kp0.go{V0 V V':View}{w0 w w':World}(h:Kp0 V0 w0 V w)(k:aG aI aD V w V' w'):Kp0 V0 w0 V' w':=⟨h.same.trans ⟨k.tape,k.output,k.os⟩,Nat.le_trans h.size k.size,fun b hb=>⟨k.mine b (h.own b hb).1,(k.own b (h.own b hb).1 id).trans (h.own b hb).2⟩,fun a ha=>⟨by rw [k.ro];exact(h.ro a ha).1,(k.cell a (.inl (h.ro a ha).1) id).trans (h.ro a ha).2⟩,h.kind.trans k.kind⟩
section
variable {w:World} {a:Act}
theorem MV.worker(hR:R.Ok)(hP:aNG R p A)(h:MV R p A i V w)(hi:i<R.js.length)(aW:V.own j9)(eS:V.own jl):Wk ((R.G p).at (R.J p) i) (R.D p) (su V p.C i j9 jl) w/\j5 ((R.G p).at (R.J p) i) (su V p.C i j9 jl)/\al7 ((R.G p).at (R.J p) i) i p.C p.gs p.b8 p.jR p.lZ R.ns R.js.length (su V p.C i j9 jl) w:=by
 have FT:(R.k7 i).1<R.ns:=hR.me _ (nN hi);have c0:=h.wcC (i*2) (by omega) (by omega)
 have c1:=h.wcC (i*2+1) (by omega) (by omega)
 have hw:∀a,(su V p.C i j9 jl).wc a->V.wc a:=fun a x=>x.elim (fun e=>e▸c0.1) fun e=>e▸c1.1;have ho:∀b,(su V p.C i j9 jl).own b->V.own b:=fun b x=>x.elim (fun e=>e▸aW) fun e=>e▸eS;have ro:∀ad v,ad.block≠p.C->Cl V w ad v->Cl (su V p.C i j9 jl) w ad v:=fun ad v hb x=>⟨.inl (x.1.resolve_right fun y=>hb (h.wcO ad y)),x.2⟩;obtain⟨n1,n2⟩:=aAZ h.apS (k:=(R.k7 i).1) FT;have s:=h.src _ FT;exact⟨⟨rfl,h.tidy.part ho (fun _ x=>x) hw,⟨fun x=>n1 (ho _ x),fun a x=>n2 a (x.imp id (hw a))⟩,h.az1 _ FT,ro _ _ (hP.cs _ FT) s.obj,ro _ _ (hP.cs _ FT) s.unit,ro _ _ (hP.cs _ FT) s.map,fun b o e j x hj=>ro _ _ (hP.cb _ FT (aDB hj) b o e) (s.bytes b o e j x hj)⟩,
  fun a x=>h.n56 _ FT a (x.imp id (hw a)),ro _ _ hP.c8 h.gC,ro _ _ hP.cg (h.elem _ FT),ro _ _ hP.c12 h.aNF,ro _ _ hP.c11 h.Z5,⟨.inl rfl,c0.2⟩,⟨.inr rfl,c1.2⟩,h.aNE,FT,hi⟩
def awk(R:RD)(p:Pl)(A:Option Addr)(cN:Nat)(ds:List Deferred)(V0:View)(w0:World)(b:Frame)(k:List Item)(cs:List Frame)(g':Goroutine)(w':World):Prop:=
 ∃V,MV R p A R.js.length V w'/\Kp0 V0 w0 V w'/\anz (R.G p) (R.J p) w'/\∀(Stop:View->Goroutine->World->Prop) (V':View),(∀a',Lp2 R p A cN ds a'->Loc prog true Stop V' (G (b.at a' (.code xV::k)) cs) w')->Loc prog true Stop V' g' w'
theorem aWC(hk:b.kind≠.early)(hR:R.Ok)(hP:aNG R p A)(hT0:Tidy V0 w0)(aNI:∀g' w',awk R p A cN ds V0 w0 b k cs g' w'->Fin g' w'):
  ∀(n i:Nat) (V:View) (w:World) (a:Act),n=R.js.length-i->i<=R.js.length->MV R p A i V w->Kp0 V0 w0 V w->Lp2 R p A cN ds a->a.eval (.tmp 42)=.int .i64 i->
   ib (nS (R.G p) (R.J p) Fin) (if i<R.js.length then .add i else .FP) V (G (b.at a (.code pO::.inLoop pO::.inBlock 2::.code xU::k)) cs) w:=by
 have hS:=ly hk;have a5y:=hR.N;intro n;induction n with
 |zero=>
  intro i V w a hn hi hm hkp hl j8;obtain rfl:i=R.js.length:=by omega
  rw [if_neg (by omega)]
  obtain⟨hs,hd,h8,aH,aJ,aK,fQ,iT⟩:=hl;refine aj hS aqC (ag hS aqv aqw (ay vU hS hs (du vU.o j8 iT) fun a ae zz=>t7 ae hs hd h8 aH aJ aK fQ iT j8 fun hs hd h8 aH aJ aK fQ iT j8=>?_));have zz:a.eval (.tmp 43)=.bool false:=by rw [zz];simp
  refine ai hS (aj hS aqB (aX hS aqz zz (q_exit hS aJi rfl (aj hS aJy (ag hS aJu (rl [0] rfl) (bI pT.a pT.f hS pT.o func28 (by kernel_rfl) aKw (al9 (b:=base 28) (by decide) rfl hm.deaf hm.apS hm.wgb (by simp [show Tryz.f28.ntmps=84 from rfl]) rfl (show _=Value.pointer (some ⟨p.wg,0,none⟩) by simpa [Act.eval]using aK) ?_)))))))
  intro g' w₁ Cv hr hK;refine aNI g' w₁ ⟨V,hm.rely hr,hkp.go (.bk hr),Cv,fun Stop V' E7=>hK Stop V' fun a' todo d'=>?_⟩;refine jg rfl d' func28 rfl pT.a pT.d fun a au an ah=>ai hS (E7 a ⟨au.trans hs,an.trans hd,(ah 8 (by decide)).trans h8,(ah 11 (by decide)).trans aH,(ah 12 (by decide)).trans aJ,(ah 13 (by decide)).trans aK,(ah 40 (by decide)).trans fQ,(ah 41 (by decide)).trans iT⟩)
 |succ n ih=>
  intro i V w a hn hi hm hkp hl j8;have ou:i<R.js.length:=by omega
  rw [if_pos ou];refine aNH hk hR hm ou hl j8 fun j9 jl a1 V1 w1 l1 g42 g14 g15 W1 n14 n15 B14 B15=>?_;have hm1:=hm.go W1;have a0F:=hkp.go W1;refine aj hS aJm (ag hS aJk (rl [0] rfl) (bI pQ.a pQ.f hS pQ.o func24 (by kernel_rfl) XW (awg (b:=base 24) (by decide) rfl hm1.deaf ou hm1.wgb hm1.apS (by simp [show Tryz.f24.ntmps=117 from rfl]) rfl (show _=Value.pointer (some ⟨p.wg,0,none⟩) by simpa [Act.eval]using l1.aK) (by simp [Act.eval]) ?_)))
  intro w2 hr2 a' todo d';refine jg rfl d' func24 rfl pQ.a pQ.d fun a2 s2 d2 n2=>ai hS (ag hS aJl (rl [0,1] rfl) ?_);have hm2:=hm1.rely hr2;have a0G:=a0F.go (.bk hr2);have a0H:=B14.rely hr2;have a0I:=B15.rely hr2;have v8:=(n2 8 (by decide)).trans l1.h8
  have v11:=(n2 11 (by decide)).trans l1.aH
  have v12:=(n2 12 (by decide)).trans l1.aJ
  have v13:=(n2 13 (by decide)).trans l1.aK
  have v14:=(n2 14 (by decide)).trans g14
  have v15:=(n2 15 (by decide)).trans g15
  refine zw vZ.a vZ.f hS vZ.d (by rw [s2,l1.hs];decide) (show Yl prog V1 w2 _ _ (.func (.func 25) #[] #[.pointer (some ⟨p.wg,0,none⟩),.pointer (some ⟨p.b8,0,none⟩),.pointer (some ⟨jl,0,none⟩),.pointer (some ⟨p.lZ,0,none⟩),.pointer (some ⟨p.jR,0,none⟩),.pointer (some ⟨j9,0,none⟩)])from by have:=CS (P:=prog) (V:=V1) (w:=w2) (a:=a2) vZ.o;simpa [v8,v11,v12,v13,v14,v15]using this) fun a3 s3 d3 n3 E0=>?_
  refine Loc.stop fun w3 hr3=>nS.fold ⟨rfl,hm1.deaf,ou,fun w4 Ux=>?_⟩;have hm4:=(hm2.rely hr3).rely Ux;have amb:=(a0G.go (.bk hr3)).go (.bk Ux);have C14:=(a0H.rely hr3).rely Ux;have C15:=(a0I.rely hr3).rely Ux;obtain⟨le1,le2,ap⟩:=akx hm4 ou C14.1 C15.1;obtain⟨u1,u2,u3⟩:=hm4.worker hR hP ou C14.1 C15.1;have cr:(execOp a3.eval (nR pR 1)).run prog w4=.ok (.spawn {target:=.fn (.func 25) #[.pointer (some ⟨p.wg,0,none⟩),.pointer (some ⟨p.b8,0,none⟩),.pointer (some ⟨jl,0,none⟩),.pointer (some ⟨p.lZ,0,none⟩),.pointer (some ⟨p.jR,0,none⟩),.pointer (some ⟨j9,0,none⟩)],args:=#[]}) w4:=by
   simp [execOp,pS.o,resolve,E0,Deferred.ofValue]
  have gN:(execOp a3.eval (nR pR 1)).events prog w4 #[]=#[]:=by
   simp [execOp,pS.o,resolve,E0,Deferred.ofValue]
  have hsp:=stepG_spawn (P:=prog) (main:=true) (k:=.inBlock 3::.code DU::.inLoop pO::.inBlock 2::.code xU::k) (cs:=cs) (rest:=[]) pS.a pS.f hk cr rfl;rw [show listed prog b.fn a3 (nR pR 1) w4=#[] by unfold listed;rw [gN,seen_none]]at hsp
  refine⟨_,_,_,_,le1,le2,ap,hsp,?_,?_⟩
  ·have hq:=hR.q _ (nN ou);obtain⟨z1,z2,z3,z4⟩:=UL hR ou;have hsl:=ama hR ou;exact UG (Γ:=(R.G p).at (R.J p) i) (D:=R.D p) (j:=(R.k7 i).2) (s:=R.qL i) (n:=400) (RD.is hR ou hP.inj) rfl (fun V w h=>h) (by obtain⟨c,e,fr,x,y⟩:=hm4.wgb;exact⟨c,e,fr,x,by omega⟩) hm4.n0 u1 u2 u3 hq (awi (R:=R) (R.D p) rfl hR.u1 z2) (fun s' _ _=>rfl) (by omega) ⟨.inr rfl,C15.2⟩ ⟨.inl rfl,C14.2⟩
  ·have GJ:Cf (R.J p) i=if i+1<R.js.length then .add (i+1)else .FP:=rfl
   rw [GJ];have u:=bj a3 (nR pR 1).dst undef;generalize a3.put (nR pR 1).dst undef=a4 at u;have s4:a4.tmps.size=53:=u.size.trans (s3.trans (s2.trans l1.hs));have d4:a4.defers=ds:=u.defers.trans (d3.trans (d2.trans l1.hd));have n4:∀j,48≠j->47≠j->a4.eval (.tmp j)=a1.eval (.tmp j):=fun j x y=>(u.ne j (by rw [pS.d];simp)).trans ((n3 j x).trans (n2 j y))
   have j8:=(n4 42 (by decide) (by decide)).trans g42
   refine ai hS (c7 hS (ag hS aJp (rl [0,1] rfl) (zw wa.a wa.f hS wa.d (by rw [s4];decide) (gQ wa.o j8 rfl) fun a5 s5 d5 n5 yQ=>?_)))
   have yQ:a5.eval (.tmp 49)=.int .i64 ((i+1:Nat):Int):=by rw [yQ,IntWalk.i64_in _ (by omega)];simp
   refine zw wb.a wb.f hS wb.d (by rw [s5,s4];decide) (af wb.o yQ) fun a6 s6 d6 n6 a0J=>ai hS (dW hS ?_)
   have ev:∀j,42≠j->49≠j->48≠j->47≠j->a6.eval (.tmp j)=a1.eval (.tmp j):=fun j x y z t=>(n6 j x).trans ((n5 j y).trans (n4 j z t));have hm5:MV R p A (i+1) (xh V1 p.C i j9 jl) w4:=hm4.xh ou C14.1 C15.1 (fun jb jo e=>by
    obtain⟨jb',jo',e',x0,_⟩:=hm.nM i ou;rw [e]at e';cases e';have aU:jb<w.heap.size:=by
     rcases x0.1 with y|y|y
     ·exact hm.tidy.low.own _ y
     ·exact hm.tidy.low.ro _ y
     ·exact hm.tidy.low.wc _ y
    exact⟨by omega,by omega,hP.cj (by omega) jb jo e⟩) ⟨hP.c8,hP.cg,hP.c12,hP.c11⟩ fun k hk=>⟨hP.cs k hk,hP.cb k hk⟩
   have a0K:Kp0 V0 w0 (xh V1 p.C i j9 jl) w4:=⟨amb.same,amb.size,fun b hb=>⟨⟨(amb.own b hb).1,fun x=>by
    have:=hT0.low.own b hb;have:=hkp.size;rcases x with x|x<;>omega⟩,(amb.own b hb).2⟩,amb.ro,amb.kind⟩
   exact ih (i+1) _ w4 a6 (by omega) (by omega) hm5 a0K ⟨s6.trans (s5.trans s4),d6.trans (d5.trans d4),(ev 8 (by decide) (by decide) (by decide) (by decide)).trans l1.h8,(ev 11 (by decide) (by decide) (by decide) (by decide)).trans l1.aH,(ev 12 (by decide) (by decide) (by decide) (by decide)).trans l1.aJ,(ev 13 (by decide) (by decide) (by decide) (by decide)).trans l1.aK,(ev 40 (by decide) (by decide) (by decide) (by decide)).trans l1.fQ,(ev 41 (by decide) (by decide) (by decide) (by decide)).trans l1.iT⟩ a0J
end
def cx(Shun:Go.Loc->Prop)(w:World):Prop:=∀l,Shun l->∃(ad:Addr) (c:Array Value) (e:TypeId) (fr:Nat×Nat),l=.cell ad/\w.heap[ad.block]? =some (.cells c e fr)/\(e=61\/e=85)
theorem cx.kind{Shun:Go.Loc->Prop}{w w':World}(h:cx Shun w)(k:eG w w'):cx Shun w':=fun l hl=>by
 obtain⟨ad,c,e,fr,h1,h2,h3⟩:=h l hl;obtain⟨c',h4,_⟩:=k _ _ _ _ h2;exact⟨ad,c',e,fr,h1,h4,h3⟩
theorem cx.lt{Shun:Go.Loc->Prop}{w:World}(h:cx Shun w){ad:Addr}(hs:Shun (.cell ad)):ad.block<w.heap.size:=by
 obtain⟨ad',c,e,fr,h1,h2,_⟩:=h _ hs;cases h1;exact(Array.getElem?_eq_some_iff.1 h2).1
theorem cx.ne{Shun:Go.Loc->Prop}{w:World}(h:cx Shun w){b:Nat}{o:Obj}(ho:w.heap[b]? =some o)(hn:∀c fr,o≠.cells c 61 fr/\o≠.cells c 85 fr):∀ad,Shun (.cell ad)->ad.block≠b:=fun ad hs e=>by
 obtain⟨ad',c,t,fr,h1,h2,h3⟩:=h _ hs;cases h1;rw [e,ho]at h2;rcases h3 with rfl|rfl
 ·exact(hn c fr).1 (Option.some.inj h2)
 ·exact(hn c fr).2 (Option.some.inj h2)
def nO(Shun:Go.Loc->Prop)(w:World)(b:Nat):Prop:=b<w.heap.size/\∀ad:Addr,Shun (.cell ad)->ad.block≠b
def bP(Shun:Go.Loc->Prop)(w:World):View:=⟨nO Shun w,fun _=>False,fun a=>¬Shun (.cell a)/\(∃ad:Addr,Shun (.cell ad)/\ad.block=a.block)/\a.block<w.heap.size,0⟩
section
variable {bc:Go.Loc->Prop} {w cO:World} {Q:(Go.Loc->Prop)->Goroutine->World->Prop} {a:Goroutine}
theorem k8(hg:prog.globals.size<=w.heap.size):Tidy (bP Shun w) w:=
 ⟨hg,⟨fun b h=>h.1,fun a h=>h.2.2,fun a h=>h.elim⟩,fun a h hb=>by
  rcases h with h|h
  ·exact h.elim
  ·obtain⟨ad,h1,h2⟩:=h.2.1;exact hb.2 ad h1 h2⟩
theorem Z8:Apart (bP Shun w) (cW Shun):=
 ⟨fun b _ h=>h,fun a h=>⟨h.1,id,id⟩,fun a h=>⟨fun x=>x.1 h,id,fun x=>x.2 a h rfl⟩,fun a h=>h.elim,fun a h=>h.elim⟩
structure GU(Shun:Go.Loc->Prop)(w:World)(bc:Go.Loc->Prop)(w':World):Prop where
 size:w.heap.size<=w'.heap.size
 own:∀b,nO Shun w b->nO bc w' b/\w'.heap[b]? =w.heap[b]?
theorem GU.refl:GU Shun w Shun w:=⟨Nat.le_refl _,fun b h=>⟨h,rfl⟩⟩
theorem GU.trans{awl:Go.Loc->Prop}(h:GU Shun w bc w')(k:GU bc w' awl cO):GU Shun w awl cO:=⟨Nat.le_trans h.size k.size,fun b hb=>⟨(k.own b (h.own b hb).1).1,(k.own b (h.own b hb).1).2.trans (h.own b hb).2⟩⟩
theorem qN{B:Nat->Prop}{A:Addr->Prop}(hs:cx Shun w)(hg:prog.globals.size<=w.heap.size)(k:aG B A (bP Shun w) w V w'){b:Nat}(h:V.own b):nO Shun w' b:=by
 rcases k.new b h with x|x
 ·exact⟨Nat.lt_of_lt_of_le x.1 k.size,x.2⟩
 ·exact⟨x.2,fun ad hsd e=>by have:=hs.lt hsd;omega⟩
abbrev fh(Q:(Go.Loc->Prop)->Goroutine->World->Prop)(Shun:Go.Loc->Prop)(V:View)(g:Goroutine)(w:World):Prop:=Loc prog true (fun V' g w'=>V'.deaf=0/\dy Q Shun g w') V g w
theorem dy.loc(hg:prog.globals.size<=w.heap.size)(h:fh Q Shun (bP Shun w) a w):dy Q Shun a w:=by
 have:=dy.walk (Q:=fun Sh g w'=>Sh=Shun/\dy Q Shun g w') (Shun:=Shun) (V:=bP Shun w) rfl Z8 (k8 hg).low (Loc.mono (fun V g w h=>⟨h.1,rfl,h.2⟩) h);exact dy.trans this fun Sh a w h=>by
  obtain⟨rfl,h⟩:=h;exact h
theorem fh.UM{g:Goroutine}(hd:V.deaf=0)(h:∀w',aP V w w'->dy Q Shun g w'):fh Q Shun V g w:=Loc.stop fun w' hr=>⟨hd,h w' hr⟩
end
theorem aNK:(prog.info? 51).map (fun i=>(i.zero,i.size,i.bytes))=some (some (.pointer none),1,8):=by kernel_rfl
theorem aNL:(prog.info? 36).map (fun i=>(i.zero,i.size,i.bytes))=some (some (.agg #[.slice none 0 0,.bool false]),2,32):=by kernel_rfl
theorem az2(A:Option Addr)(n c:Nat)(u:Int)(m:Nat):prog.built 61 [(0,.slice A n c),(1,.int .i64 u),(3,.map (some m))]=some #[.slice A n c,.int .i64 u,.int .i32 0,.int .u32 0,.map (some m),.slice none 0 0,.int .i64 0]:=by kernel_rfl
structure nP(R:RD)(oA jA:Option Addr)(V:View)(w:World):Prop where
 l9:∀k,k<R.ns->∃ob oo,oA=some ⟨ob,oo,none⟩/\iJ V w ⟨ob,oo+k,none⟩ (.slice (R.bs k) (R.iH k).length (R.cp k))
 byt:∀k,k<R.ns->∀b o,R.bs k=some ⟨b,o,none⟩->(R.iH k≠[]->b<w.heap.size)/\∀j x,(R.iH k)[j]? =some x->V.own b/\w.cell? ⟨b,o+j,none⟩=some (dG x)
 nM:R.qM jA V w
 aNM:∀jb jo,jA=some ⟨jb,jo,none⟩->0<R.js.length->V.own jb
theorem nP.go{R:RD}{oA jA:Option Addr}{V V':View}{w w':World}(h:nP R oA jA V w)(k:aG aI aD V w V' w'):nP R oA jA V' w':=by
 refine⟨fun x hx=>?_,fun x hx b o e=>⟨fun z=>Nat.lt_of_lt_of_le ((h.byt x hx b o e).1 z) k.size,fun j y hj=>?_⟩,h.nM.go k,fun jb jo e hN=>k.mine _ (h.aNM jb jo e hN)⟩
 ·obtain⟨ob,oo,h1,h2⟩:=h.l9 x hx;exact⟨ob,oo,h1,h2.go k⟩
 ·obtain⟨h1,h2⟩:=(h.byt x hx b o e).2 j y hj;exact⟨k.mine _ h1,by simp only [World.cell?,k.own b h1 id];simpa only [World.cell?]using h2⟩
structure UN(R:RD)(i:Nat)(src mp:Nat->Nat)(gs b8 n0:Nat)(V:View)(w:World):Prop where
 fgs:∃arr,ba V w gs (.cells arr 51 (0,0))/\arr.size=R.ns/\∀k,k<i->arr[k]? =some (.pointer (some ⟨src k,0,none⟩))
 fb8:ba V w b8 (.cells #[.slice (some ⟨gs,0,none⟩) R.ns R.ns] 48 (0,0))
 yh:∀k,k<i->ba V w (src k) (.cells #[.slice (R.bs k) (R.iH k).length (R.cp k),.int .i64 R.u,.int .i32 0,.int .u32 0,.map (some (mp k)),.slice none 0 0,.int .i64 0] 61 (0,0))
 fmp:∀k,k<i->ba V w (mp k) (.map #[] 0)
 inj:∀k k',k<i->k'<i->src k=src k'->k=k'
 awm:∀k k',k<i->k'<i->mp k=mp k'->k=k'
 ngs:n0<=gs
 n8:n0<=b8
 UO:∀k,k<i->n0<=src k
 nmp:∀k,k<i->n0<=mp k
theorem UN.go{R:RD}{i:Nat}{src mp:Nat->Nat}{gs b8 n0:Nat}{V V':View}{w w':World}(h:UN R i src mp gs b8 n0 V w)(k:aG aI aD V w V' w'):UN R i src mp gs b8 n0 V' w':=by
 obtain⟨arr,h1,h2,h3⟩:=h.fgs;exact⟨⟨arr,h1.go k,h2,h3⟩,h.fb8.go k,fun x hx=>(h.yh x hx).go k,fun x hx=>(h.fmp x hx).go k,h.inj,h.awm,h.ngs,h.n8,h.UO,h.nmp⟩
section
variable {w:World} {a:Act}
theorem aWF(hk:b.kind≠.early)(hR:R.Ok)(hT:Tidy V w)(aNP:nP R oA jA V0 w0)(hi:i<R.ns)(hn:R.ns<=4)(h:UN R i src mp gs b8 w0.heap.size V w)(hW0:aG aI aD V0 w0 V w)(hT0:Tidy V0 w0)
  (hs:a.tmps.size=53){x1:Value}(h1:a.eval (.tmp 1)=x1)(h2:a.eval (.tmp 2)=.int .i64 R.u)(h8:a.eval (.tmp 8)=.pointer (some ⟨b8,0,none⟩))(dz:a.eval (.tmp 19)=.slice oA R.ns oC)(dE:a.eval (.tmp 20)=.int .i64 R.ns)(cD:a.eval (.tmp 21)=.int .i64 i)
  (K:∀awn mp' a' V' w',a'.tmps.size=53->a'.defers=a.defers->a'.eval (.tmp 1)=x1->a'.eval (.tmp 2)=.int .i64 R.u->a'.eval (.tmp 8)=.pointer (some ⟨b8,0,none⟩)->a'.eval (.tmp 19)=.slice oA R.ns oC->a'.eval (.tmp 20)=.int .i64 R.ns->a'.eval (.tmp 21)=.int .i64 ((i+1:Nat):Int)->
   aG aI aD V0 w0 V' w'->Tidy V' w'->UN R (i+1) awn mp' gs b8 w0.heap.size V' w'->Loc prog true Stop V' (G (b.at a' k) cs) w'):
  Loc prog true Stop V (G (b.at a (.code DR::k)) cs) w:=by
 have hS:=ly hk;obtain⟨ds,hd⟩:∃ds,a.defers=ds:=⟨_,rfl⟩;rw [hd]at K;obtain⟨ob,oo,hA,hob⟩:=(aNP.go hW0).l9 i hi;refine aj hS aB2 (ag hS aqn aB1 (ay Ak hS hs (du Ak.o cD dE) fun a ae kE=>t6 ae hs hd h1 h2 h8 dz dE cD fun hs hd h1 h2 h8 dz dE cD=>?_));have kE:a.eval (.tmp 22)=.bool true:=by rw [kE];simp;omega
 refine ai hS (aj hS aqs (bY hS aqq kE (q_skip hS aI4 (aj hS aJb (bV hS aI9 (aj hS aI8 (ag hS aI6 (rl [0,1,2,3,4] rfl) (ay aeo hS hs (af aeo.o cD) fun a ae ga=>t6 ae hs hd h1 h2 h8 dz dE cD fun hs hd h1 h2 h8 dz dE cD=>?_))))))));rw [hA]at dz;refine ay aep hS hs (cT (s:=1) aep.o dz cD underlying22 sizeOf25 hi) fun a ae oi=>t7 ae hs hd h1 h2 h8 dz dE cD ga fun hs hd h1 h2 h8 dz dE cD ga=>?_;rw [←hA]at dz;rw [Nat.mul_one]at oi;refine ay aeq hS hs (aL aeq.o oi isAgg25 hob) fun a ae o9=>t7 ae hs hd h1 h2 h8 dz dE cD ga fun hs hd h1 h2 h8 dz dE cD ga=>?_;refine ay aer hS hs (ak aer.o ga) fun a ae h9=>t7 ae hs hd h1 h2 h8 dz dE cD o9 fun hs hd h1 h2 h8 dz dE cD o9=>?_;refine ay aes hS hs (ak aes.o o9) fun a ae aM=>t7 ae hs hd h1 h2 h8 dz dE cD h9 fun hs hd h1 h2 h8 dz dE cD h9=>?_;refine ai hS (ag hS aI7 (rl [0,1,2,3,4,5,6,7,8] rfl) (ay aet hS hs (aL aet.o h8 isAgg48 (h.fb8.cK rfl)) fun a ae fe=>t8 ae hs hd h1 h2 h8 dz dE cD h9 aM fun hs hd h1 h2 h8 dz dE cD h9 aM=>?_));refine ay aeu hS hs (af aeu.o h9) fun a ae dT=>t8 ae hs hd h1 h2 h8 dz dE cD aM fe fun hs hd h1 h2 h8 dz dE cD aM fe=>?_;refine ay aev hS hs (af aev.o aM) fun a ae cI=>t8 ae hs hd h1 h2 h8 dz dE cD fe dT fun hs hd h1 h2 h8 dz dE cD fe dT=>?_;refine ay aew hS hs (af aew.o h2) fun a ae fc=>t9 ae hs hd h1 h2 h8 dz dE cD fe dT cI fun hs hd h1 h2 h8 dz dE cD fe dT cI=>?_;refine alv Al.a Al.f hS Al.d (by rw [hs];decide) hT Al.o fun m a V1 w1 au an ah eK W1 g1 B1 T1=>t10 ⟨au,an,ah⟩ hs hd h1 h2 h8 dz dE cD fe dT cI fc fun hs hd h1 h2 h8 dz dE cD fe dT cI fc=>?_
 refine ay aex hS hs (lA aex.o (by simp only [List.map_toArray,List.map_cons,List.map_nil,cI,fc,eK];exact az2 _ _ _ _ _)) fun a ae lg=>t8 ae hs hd h1 h2 h8 dz dE cD fe dT fun hs hd h1 h2 h8 dz dE cD fe dT=>?_
 refine pg Am.a Am.f hS Am.d (by rw [hs];decide) T1 Am.o lg fun s a V2 w2 au an ah bG W2 g2 B2 T2=>t8 ⟨au,an,ah⟩ hs hd h1 h2 h8 dz dE cD fe dT fun hs hd h1 h2 h8 dz dE cD fe dT=>?_
 refine ay aey hS hs (cT (s:=1) aey.o fe dT underlying48 sizeOf51 hi) fun a ae bJ=>t7 ae hs hd h1 h2 h8 dz dE cD bG fun hs hd h1 h2 h8 dz dE cD bG=>?_;rw [Nat.zero_add,Nat.mul_one]at bJ;have W12:=W1.trans W2;have h':=h.go W12;obtain⟨arr,q1,q2,q3⟩:=h'.fgs;refine gg An.a An.f hS An.d An.o bJ bG (vs:=[.pointer (some ⟨s,0,none⟩)]) rfl sizeOf51 (fun u hu=>by simp at hu;subst hu;rfl) q1 (by simp;omega) T2 fun w3 W3 B3 T3 z3=>ai hS (c7 hS ?_)
 have hgs:w0.heap.size<=gs:=h.ngs;have yZ:m≠s:=(B1.go W2).ne B2 (by simp)
 have hsg:s≠gs:=fun e=>by
  have x:=B2.2;rw [e,q1.2]at x;simp at x
 have hmg:m≠gs:=(B1.go W2).ne q1 (by simp)
 have fO:w0.heap.size<=w.heap.size:=hW0.size;have W3':aG aI aD V0 w0 V2 w3:=(hW0.trans W12).fresh W3 hgs hT0;refine ag hS aJa (rl [0,1] rfl) (ay aez hS hs (gQ aez.o cD rfl) fun a ae cQ=>t6 ae hs hd h1 h2 h8 dz dE cD fun hs hd h1 h2 h8 dz dE cD=>?_);have cQ:a.eval (.tmp 34)=.int .i64 ((i+1:Nat):Int):=by rw [cQ,IntWalk.i64_in _ (by omega)];simp
 refine ay aeA hS hs (af aeA.o cQ) fun a ae cD=>t5 ae hs hd h1 h2 h8 dz dE fun hs hd h1 h2 h8 dz dE=>?_;refine ai hS (K (fun k=>if k=i then s else src k) (fun k=>if k=i then m else mp k) _ _ _ hs hd h1 h2 h8 dz dE cD W3' T3 ⟨⟨_,B3,?_,fun x hx=>?_⟩,h'.fb8.off W3 (h'.fb8.ne q1 (by simp)),fun x hx=>?_,fun x hx=>?_,fun x y hx hy e=>?_,fun x y hx hy e=>?_,hgs,h.n8,fun x hx=>?_,fun x hx=>?_⟩)
 ·simp [alu,q2]
 ·show(arr.setIfInBounds i (.pointer (some ⟨s,0,none⟩)))[x]? =_
  by_cases e:x=i
  ·subst e;simp [Array.getElem?_setIfInBounds_self_of_lt (show x<arr.size by omega)]
  ·rw [Array.getElem?_setIfInBounds_ne (Ne.symm e)];simp only [e,if_false];exact q3 x (by omega)
 ·by_cases e:x=i
  ·subst e;simp only [if_true];exact B2.off W3 hsg
  ·simp only [e,if_false];exact(h'.yh x (by omega)).off W3 ((h'.yh x (by omega)).ne q1 (by simp))
 ·by_cases e:x=i
  ·subst e;simp only [if_true];exact(B1.go W2).off W3 hmg
  ·simp only [e,if_false];exact(h'.fmp x (by omega)).off W3 ((h'.fmp x (by omega)).ne q1 (by simp))
 ·by_cases e1:x=i<;>by_cases e2:y=i<;>simp only [e1,e2,if_true,if_false]at e
  ·omega
  ·have:=(h.yh y (by omega)).lt
   have:=W1.size;omega
  ·have:=(h.yh x (by omega)).lt
   have:=W1.size;omega
  ·exact h.inj x y (by omega) (by omega) e
 ·by_cases e1:x=i<;>by_cases e2:y=i<;>simp only [e1,e2,if_true,if_false]at e
  ·omega
  ·have:=(h.fmp y (by omega)).lt
   omega
  ·have:=(h.fmp x (by omega)).lt
   omega
  ·exact h.awm x y (by omega) (by omega) e
 ·by_cases e:x=i
  ·simp only [e,if_true];have:=W1.size;omega
  ·simp only [e,if_false];exact h.UO x (by omega)
 ·by_cases e:x=i
  ·simp only [e,if_true];omega
  ·simp only [e,if_false];exact h.nmp x (by omega)
end
structure jK(R:RD)(p:Pl)(n0:Nat)(V:View)(w:World):Prop where
 gC:UN R R.ns p.src p.mp p.gs p.b8 n0 V w
 fC:∃arr,ba V w p.C (.cells arr 36 (0,0))/\arr.size=R.js.length*2
 f11:ba V w p.jR (.cells #[.slice (some ⟨p.C,0,none⟩) R.js.length R.js.length] 26 (0,0))
 awo:ba V w p.off (.chan 0 #[] false 0 0 false)
 f12:ba V w p.lZ (.cells #[.chan (some p.off)] 78 (0,0))
 fwg:ba V w p.wg (.cells #[.int .u64 0,.int .u32 0] 85 (0,0))
 nC:n0<=p.C
 n11:n0<=p.jR
 Fu:n0<=p.off
 n12:n0<=p.lZ
 nwg:n0<=p.wg
section
variable {w:World} {a:Act}
theorem aNS(hk:b.kind≠.early)(hR:R.Ok)(aNP:nP R oA jA V0 w0)(rS:R.ns<=4)(hT0:Tidy V0 w0){x1:Value}{ds:List Deferred}
  (K:∀awn mp' a' V' w',a'.tmps.size=53->a'.defers=ds->a'.eval (.tmp 1)=x1->a'.eval (.tmp 2)=.int .i64 R.u->a'.eval (.tmp 8)=.pointer (some ⟨b8,0,none⟩)->
   aG aI aD V0 w0 V' w'->Tidy V' w'->UN R R.ns awn mp' gs b8 w0.heap.size V' w'->Loc prog true Stop V' (G (b.at a' k) cs) w'):
  ∀(n i:Nat) (src mp:Nat->Nat) (a:Act) (V:View) (w:World),n=R.ns-i->i<=R.ns->a.tmps.size=53->a.defers=ds->a.eval (.tmp 1)=x1->a.eval (.tmp 2)=.int .i64 R.u->a.eval (.tmp 8)=.pointer (some ⟨b8,0,none⟩)->a.eval (.tmp 19)=.slice oA R.ns oC->a.eval (.tmp 20)=.int .i64 R.ns->a.eval (.tmp 21)=.int .i64 i->
   aG aI aD V0 w0 V w->Tidy V w->UN R i src mp gs b8 w0.heap.size V w->Loc prog true Stop V (G (b.at a (.code DR::.inLoop DR::.inBlock 0::k)) cs) w:=by
 have hS:=ly hk;intro n;induction n with
 |zero=>
  intro i src mp a V w hn hi hs hd h1 h2 h8 dz dE cD hW hT hsr;obtain rfl:i=R.ns:=by omega
  refine aj hS aB2 (ag hS aqn aB1 (ay Ak hS hs (du Ak.o cD dE) fun a ae kE=>t5 ae hs hd h1 h2 h8 dE cD fun hs hd h1 h2 h8 dE cD=>?_));have kE:a.eval (.tmp 22)=.bool false:=by rw [kE];simp
  exact ai hS (aj hS aqs (aX hS aqq kE (q_exit hS aI5 rfl (K src mp _ V w hs hd h1 h2 h8 hW hT hsr))))
 |succ n ih=>
  intro i src mp a V w hn hi hs hd h1 h2 h8 dz dE cD hW hT hsr;exact aWF hk hR hT aNP (by omega) rS hsr hW hT0 hs h1 h2 h8 dz dE cD fun awn mp' a' V' w' s' d' g1 g2 g8 g19 g20 g21 W' T' S'=>dW hS (ih (i+1) awn mp' a' V' w' (by omega) (by omega) s' (d'.trans hd) g1 g2 g8 g19 g20 g21 W' T' S')
theorem az3(hk:b.kind≠.early)(hR:R.Ok)(hT:Tidy V w)(eD:nP R oA jA V w)(rS:R.ns<=4)
  (hs:a.tmps.size=53)(hd:a.defers=[])(h0:a.eval (.tmp 0)=.slice oA R.ns oC)(h1:a.eval (.tmp 1)=.slice jA R.js.length jC)(h2:a.eval (.tmp 2)=.int .i64 R.u)
  (K:∀p cn a' V' w',a'.tmps.size=53->a'.defers=[ez #[78] 0 cn p.off]->a'.eval (.tmp 1)=.slice jA R.js.length jC->a'.eval (.tmp 8)=.pointer (some ⟨p.b8,0,none⟩)->a'.eval (.tmp 11)=.pointer (some ⟨p.jR,0,none⟩)->a'.eval (.tmp 12)=.pointer (some ⟨p.lZ,0,none⟩)->a'.eval (.tmp 13)=.pointer (some ⟨p.wg,0,none⟩)->
   aG aI aD V w V' w'->Tidy V' w'->jK R p w.heap.size V' w'->p.n0=w.heap.size->Loc prog true Stop V' (G (b.at a' (.code xT::k)) cs) w'):
  Loc prog true Stop V (G (b.at a (.code Gn::k)) cs) w:=by
 have hS:=ly hk;obtain⟨i51,a0N,a0O,a0P,a0Q⟩:=info_parts aNK;obtain⟨i36,a0R,a0S,a0T,a0U⟩:=info_parts aNL;obtain⟨i52,aM9,_⟩:=info_parts avT;have hN:=hR.N;refine aj hS aR8 (ag hS aR0 (rl [0,1] rfl) (ay aed hS hs (ak aed.o rfl) fun a ae h6=>t3 ae hs hd h0 h1 h2 fun hs hd h0 h1 h2=>?_));refine ay aee hS hs (ak aee.o rfl) fun a ae h7=>t3 ae hs hd h0 h1 h2 fun hs hd h0 h1 h2=>?_;refine ai hS (aj hS aR7 (ag hS aR1 (rl [0,1,2,3,4] rfl) (ay aeg hS hs (af aeg.o h0) fun a ae fP=>t3 ae hs hd h0 h1 h2 fun hs hd h0 h1 h2=>?_)));refine ay aeh hS hs (dk aeh.o fP underlying22) fun a ae bT=>t3 ae hs hd h0 h1 h2 fun hs hd h0 h1 h2=>?_;refine lB (n:=R.ns) Ah.a Ah.f hS Ah.d (by rw [hs];decide) hT Ah.o bT bT underlying48 a0N a0O (by rw [a0Q];omega) (by omega) fun gs a V1 w1 au an ah jL W1 g1 B1 T1=>t3 ⟨au,an,ah⟩ hs hd h0 h1 h2 fun hs hd h0 h1 h2=>?_
 rw [a0P]at B1;refine dN Ai.a Ai.f hS Ai.d (by rw [hs];decide) T1 Ai.o Tryz.zeroValue48 fun b8 a V2 w2 au an ah h8 W2 g2 B2 T2=>t4 ⟨au,an,ah⟩ hs hd h0 h1 h2 jL fun hs hd h0 h1 h2 jL=>?_
 have W12:=W1.trans W2;have g2':w.heap.size<=b8:=Nat.le_trans W1.size g2;have B2:ba V2 w2 b8 (.cells #[.slice none 0 0] 48 (0,0)):=B2;refine gg Aj.a Aj.f hS Aj.d Aj.o h8 jL (vs:=[.slice (some ⟨gs,0,none⟩) R.ns R.ns]) rfl sizeOf48 (fun u hu=>by simp at hu;subst hu;rfl) B2 (by simp) T2 fun w3 W3 B3 T3 z3=>?_
 have NB:=W12.fresh W3 g2' hT;refine ai hS (aj hS aR6 (aj hS aR5 (ag hS aR2 (rl [0,1,2] rfl) (ay ael hS hs (af ael.o h0) fun a ae dz=>t3 ae hs hd h1 h2 h8 fun hs hd h1 h2 h8=>?_))));refine ay aem hS hs (dk aem.o dz underlying22) fun a ae dE=>t4 ae hs hd h1 h2 h8 dz fun hs hd h1 h2 h8 dz=>?_;refine ay aen hS hs (af aen.o rfl) fun a ae cD=>t5 ae hs hd h1 h2 h8 dz dE fun hs hd h1 h2 h8 dz dE=>?_;refine ai hS (bV hS aR4 (iU hS aR3 ?_));have B1':=(B1.go W2).off W3 ((B1.go W2).ne B2 (by simp))
 have yZ:∀(cs:Array Value) n,(madeCells cs n).size=n:=fun cs n=>by simp [madeCells]
 refine aNS (gs:=gs) (b8:=b8) hk hR eD rS hT (fun src mp a V4 w4 hs hd h1 h2 h8 W4 T4 S4=>?_) R.ns 0 (fun _=>0) (fun _=>0) _ V2 w3 (by omega) (by omega) hs hd h1 h2 h8 dz dE cD NB T3 ⟨⟨_,B1',by rw [yZ,Nat.mul_one],fun k hk=>by omega⟩,B3,fun k hk=>by omega,fun k hk=>by omega,fun x y hx=>by omega,fun x y hx=>by omega,g1,g2',fun k hk=>by omega,fun k hk=>by omega⟩
 refine aj hS aJD (ag hS aJc (rl [0,1,2,3,4] rfl) (ay aeB hS hs (af aeB.o h1) fun a ae iF=>t2 ae hs hd h1 h8 fun hs hd h1 h8=>?_));refine ay aeC hS hs (dk aeC.o iF underlying23) fun a ae rh=>t2 ae hs hd h1 h8 fun hs hd h1 h8=>?_;refine lB (n:=R.js.length) Ao.a Ao.f hS Ao.d (by rw [hs];decide) T4 Ao.o rh rh underlying26 a0R a0S (by rw [a0U];omega) (by omega) fun C a V5 w5 au an ah iI W5 g5 B5 T5=>t2 ⟨au,an,ah⟩ hs hd h1 h8 fun hs hd h1 h8=>?_
 rw [a0T]at B5;refine dN Ap.a Ap.f hS Ap.d (by rw [hs];decide) T5 Ap.o Tryz.zeroValue26 fun jR a V6 w6 au an ah aH W6 g6 B6 T6=>t3 ⟨au,an,ah⟩ hs hd h1 h8 iI fun hs hd h1 h8 iI=>?_
 have B6:ba V6 w6 jR (.cells #[.slice none 0 0] 26 (0,0)):=B6;refine gg Aq.a Aq.f hS Aq.d Aq.o aH iI (vs:=[.slice (some ⟨C,0,none⟩) R.js.length R.js.length]) rfl sizeOf26 (fun u hu=>by simp at hu;subst hu;rfl) B6 (by simp) T6 fun w7 W7 B7 T7 z7=>?_
 have W67:aG aI aD V5 w5 V6 w7:=W6.fresh W7 g6 T5;refine ai hS (aj hS aJC (ag hS aJd (rl [0,1,2] rfl) (CX Ar.a Ar.f hS Ar.d (by rw [hs];decide) T7 Ar.o rfl underlying78 aM9 fun off a V8 w8 au an ah nz W8 g8 B8 T8=>t3 ⟨au,an,ah⟩ hs hd h1 h8 aH fun hs hd h1 h8 aH=>?_)))
 refine dN As.a As.f hS As.d (by rw [hs];decide) T8 As.o Tryz.zeroValue78 fun lZ a V9 w9 au an ah aJ W9 g9 B9 T9=>t4 ⟨au,an,ah⟩ hs hd h1 h8 aH nz fun hs hd h1 h8 aH nz=>?_
 have B9:ba V9 w9 lZ (.cells #[.chan none] 78 (0,0)):=B9;refine gg Au.a Au.f hS Au.d Au.o aJ nz (vs:=[.chan (some off)]) rfl sizeOf78 (fun u hu=>by simp at hu;subst hu;rfl) B9 (by simp) T9 fun w10 W10 Z0 T10 z10=>?_
 have az4:aG aI aD V8 w8 V9 w10:=W9.fresh W10 g9 T8;have Z0:ba V9 w10 lZ (.cells #[.chan (some off)] 78 (0,0)):=Z0;refine ai hS (aj hS aJB (ag hS aJe (rl [0,1] rfl) (ay aeE hS hs (aL aeE.o aJ isAgg78 (Z0.cK rfl)) fun a ae im=>t4 ae hs hd h1 h8 aH aJ fun hs hd h1 h8 aH aJ=>?_)));refine Uo Av.a Av.f hk Av.d im Av.o fun cn a' t' d'=>ai hS (aj hS aJA ?_);have ev:∀x,a'.eval (.tmp x)=a.eval (.tmp x):=fun x=>by simp [Act.eval,t']
 replace hs:a'.tmps.size=53:=by rw [t'];exact hs
 rw [hd]at d';replace hd:=d';replace h1:=(ev 1).trans h1;replace h8:=(ev 8).trans h8;replace aH:=(ev 11).trans aH;replace aJ:=(ev 12).trans aJ;clear ev t' d';obtain⟨a,rfl⟩:∃x,x=a':=⟨_,rfl⟩;refine ag hS aJf (rl [0] rfl) (dN vT.a vT.f hS vT.d (by rw [hs];decide) T10 vT.o Tryz.zeroValue85 fun wg a V11 w11 au an ah aK W11 g11 B11 T11=>t4 ⟨au,an,ah⟩ hs hd h1 h8 aH aJ fun hs hd h1 h8 aH aJ=>?_)
 have W5e:=((W67.trans W8).trans az4).trans W11;have sz4:=W4.size;have sz5:=W5.size;have sz7:=W67.size;have sz8:=W8.size;have sz9:=az4.size;exact ai hS (K ⟨src,mp,wg,off,C,gs,b8,jR,lZ,0,w.heap.size⟩ cn _ _ _ hs hd h1 h8 aH aJ aK (W4.trans (W5.trans W5e)) T11
  ⟨S4.go (W5.trans W5e),⟨_,B5.go W5e,by rw [yZ]⟩,B7.go ((W8.trans az4).trans W11),(B8.go az4).go W11,Z0.go W11,B11,Nat.le_trans sz4 g5,by show w.heap.size<=jR;omega,by show w.heap.size<=off;omega,by show w.heap.size<=lZ;omega,by show w.heap.size<=wg;omega⟩ rfl)
end
def tg(w:World)(b:Nat):Nat:=match w.heap[b]? with
 |some (.cells _ t _)=>t+10
 |some (.map _ _)=>1
 |some (.chan _ _ _ _ _ _)=>2
 |_=>0
def Bb(R:RD)(b:Nat):Prop:=∃k,k<R.ns/\R.iH k≠[]/\∃o,R.bs k=some ⟨b,o,none⟩
def Shd(R:RD)(p:Pl)(b:Nat):Prop:=b=p.gs\/b=p.b8\/b=p.C\/b=p.jR\/b=p.lZ\/b=p.off\/b=p.wg\/(∃k,k<R.ns/\(b=p.src k\/b=p.mp k))\/Bb R b
def EO(R:RD)(p:Pl)(a:Addr):Prop:=a.block=p.gs\/a.block=p.b8\/a.block=p.jR\/a.block=p.lZ\/Bb R a.block\/∃k,k<R.ns/\a.block=p.src k/\(a.off=0\/a.off=1\/a.off=4)
def sw(R:RD)(p:Pl)(V:View):View:=⟨fun b=>V.own b/\¬Shd R p b,EO R p,fun a=>a.block=p.C,0⟩
def sx(R:RD)(p:Pl)(k:Nat):View:=if k<R.ns then⟨fun b=>b=p.mp k,fun _=>False,fun a=>a.block=p.src k/\(a.off=5\/a.off=6),0⟩else View.bare
theorem iA{R:RD}{p:Pl}{k:Nat}(h:k<R.ns):sx R p k=⟨fun b=>b=p.mp k,fun _=>False,fun a=>a.block=p.src k/\(a.off=5\/a.off=6),0⟩:=if_pos h
theorem iB{R:RD}{p:Pl}{k:Nat}(h:¬k<R.ns):sx R p k=View.bare:=if_neg h
structure Far(R:RD)(p:Pl)(w:World):Prop where
 gs:tg w p.gs=61
 b8:tg w p.b8=58
 C:tg w p.C=46
 jR:tg w p.jR=36
 lZ:tg w p.lZ=88
 off:tg w p.off=2
 wg:tg w p.wg=95
 src:∀k,k<R.ns->tg w (p.src k)=71
 mp:∀k,k<R.ns->tg w (p.mp k)=1
 bb:∀b,Bb R b->b<p.n0
 ngs:p.n0<=p.gs
 n8:p.n0<=p.b8
 nC:p.n0<=p.C
 n11:p.n0<=p.jR
 n12:p.n0<=p.lZ
 Fu:p.n0<=p.off
 nwg:p.n0<=p.wg
 UO:∀k,k<R.ns->p.n0<=p.src k
 nmp:∀k,k<R.ns->p.n0<=p.mp k
 inj:∀k k',k<R.ns->k'<R.ns->p.src k=p.src k'->k=k'
 awm:∀k k',k<R.ns->k'<R.ns->p.mp k=p.mp k'->k=k'
section
variable {w:World}
theorem bL{w:World}{b b' n n':Nat}(h:tg w b=n)(h':tg w b'=n')(hn:n≠n'):b≠b':=fun e=>hn (by rw [←h,←h',e])
theorem jK.far(h:jK R p p.n0 V w)(hb:∀b,Bb R b->b<p.n0):Far R p w:=by
 obtain⟨arr,g1,_,_⟩:=h.gC.fgs;obtain⟨ac,g2,_⟩:=h.fC;exact⟨by simp [tg,g1.2],by simp [tg,h.gC.fb8.2],by simp [tg,g2.2],by simp [tg,h.f11.2],by simp [tg,h.f12.2],by simp [tg,h.awo.2],by simp [tg,h.fwg.2],fun k hk=>by simp [tg,(h.gC.yh k hk).2],fun k hk=>by simp [tg,(h.gC.fmp k hk).2],hb,h.gC.ngs,h.gC.n8,h.nC,h.n11,h.n12,h.Fu,h.nwg,h.gC.UO,h.gC.nmp,h.gC.inj,h.gC.awm⟩
theorem Far.ro(h:Far R p w){a:Addr}(ha:EO R p a):a.block≠p.C/\a.block≠p.wg/\a.block≠p.off/\(∀k,k<R.ns->a.block≠p.mp k)/\∀k,k<R.ns->a.block=p.src k->a.off=0\/a.off=1\/a.off=4:=by
 rcases ha with e|e|e|e|e|⟨k,hk,e,ho⟩
 ·rw [e];exact⟨bL h.gs h.C (by decide),bL h.gs h.wg (by decide),bL h.gs h.off (by decide),fun k hk=>bL h.gs (h.mp k hk) (by decide),fun k hk x=>absurd x (bL h.gs (h.src k hk) (by decide))⟩
 ·rw [e];exact⟨bL h.b8 h.C (by decide),bL h.b8 h.wg (by decide),bL h.b8 h.off (by decide),fun k hk=>bL h.b8 (h.mp k hk) (by decide),fun k hk x=>absurd x (bL h.b8 (h.src k hk) (by decide))⟩
 ·rw [e];exact⟨bL h.jR h.C (by decide),bL h.jR h.wg (by decide),bL h.jR h.off (by decide),fun k hk=>bL h.jR (h.mp k hk) (by decide),fun k hk x=>absurd x (bL h.jR (h.src k hk) (by decide))⟩
 ·rw [e];exact⟨bL h.lZ h.C (by decide),bL h.lZ h.wg (by decide),bL h.lZ h.off (by decide),fun k hk=>bL h.lZ (h.mp k hk) (by decide),fun k hk x=>absurd x (bL h.lZ (h.src k hk) (by decide))⟩
 ·have:=h.bb _ e;have h1:=h.nC;have h2:=h.nwg;have h3:=h.Fu;exact⟨by omega,by omega,by omega,fun k hk=>by have:=h.nmp k hk;omega,fun k hk x=>by have:=h.UO k hk;omega⟩
 ·rw [e];exact⟨bL (h.src k hk) h.C (by decide),bL (h.src k hk) h.wg (by decide),bL (h.src k hk) h.off (by decide),fun k' cm=>bL (h.src k hk) (h.mp k' cm) (by decide),fun _ _ _=>ho⟩
theorem Z9{a:Addr}(ha:EO R p a):Shd R p a.block:=by
 rcases ha with e|e|e|e|e|⟨k,hk,e,ho⟩
 ·exact .inl e
 ·exact .inr (.inl e)
 ·exact .inr (.inr (.inr (.inl e)))
 ·exact .inr (.inr (.inr (.inr (.inl e))))
 ·exact .inr (.inr (.inr (.inr (.inr (.inr (.inr (.inr e)))))))
 ·exact .inr (.inr (.inr (.inr (.inr (.inr (.inr (.inl ⟨k,hk,.inl e⟩)))))))
theorem awq:Shd R p p.C:=.inr (.inr (.inl rfl))
theorem awr:Shd R p p.wg:=.inr (.inr (.inr (.inr (.inr (.inr (.inl rfl))))))
theorem az5:Shd R p p.off:=.inr (.inr (.inr (.inr (.inr (.inl rfl)))))
theorem rG{k:Nat}(h:k<R.ns):Shd R p (p.src k):=.inr (.inr (.inr (.inr (.inr (.inr (.inr (.inl ⟨k,h,.inl rfl⟩)))))))
theorem aaa{k:Nat}(h:k<R.ns):Shd R p (p.mp k):=.inr (.inr (.inr (.inr (.inr (.inr (.inr (.inl ⟨k,h,.inr rfl⟩)))))))
theorem apL(h:Far R p w)(k:Nat):Apart (sw R p V) (sx R p k):=by
 by_cases hk:k<R.ns
 ·rw [iA hk];refine⟨fun b hb e=>hb.2 ((show b=p.mp k from e)▸aaa hk),fun a ha=>⟨fun x=>?_,id,fun x=>?_⟩,fun a ha=>⟨fun x=>?_,fun x=>?_,fun x=>x.2 (ha.1▸rG hk)⟩,fun a ha x=>(h.ro ha).2.2.2.1 k hk x,fun a ha=>ha.elim⟩
  ·exact bL (h.src k hk) h.C (by decide) (x.1.symm.trans ha)
  ·exact bL (h.mp k hk) h.C (by decide) ((show a.block=p.mp k from x).symm.trans ha)
  ·exact bL (h.src k hk) h.C (by decide) (ha.1.symm.trans x)
  ·have:=(h.ro x).2.2.2.2 k hk ha.1;have:=ha.2;omega
 ·rw [iB hk];exact(Apart.bare _).symm
theorem aEN(h:Far R p w)(k k':Nat)(cM:k≠k'):Apart (sx R p k) (sx R p k'):=by
 by_cases hk:k<R.ns
 ·by_cases cm:k'<R.ns
  ·rw [iA hk,iA cm];exact⟨fun b e e'=>cM (h.awm k k' hk cm (e.symm.trans e')),fun a ha=>⟨fun x=>cM (h.inj k k' hk cm (ha.1.symm.trans x.1)),id,fun x=>bL (h.src k hk) (h.mp k' cm) (by decide) (ha.1.symm.trans x)⟩,fun a ha=>⟨fun x=>cM (h.inj k k' hk cm (x.1.symm.trans ha.1)),id,fun x=>bL (h.src k' cm) (h.mp k hk) (by decide) (ha.1.symm.trans x)⟩,fun a ha=>ha.elim,fun a ha=>ha.elim⟩
  ·rw [iB cm];exact(Apart.bare _).symm
 ·rw [iB hk];exact Apart.bare _
theorem apS(h:Far R p w):Apart (sw R p V) (aS (R.G p)):=by
 refine⟨fun b hb=>id,fun a ha=>⟨fun x=>?_,id,id⟩,fun a ha=>⟨fun x=>?_,fun x=>?_,fun x=>?_⟩,fun a ha=>id,fun a ha=>ha.elim⟩
 ·rcases x with ⟨k,hk,e,_⟩|e
  ·exact bL (h.src k hk) h.C (by decide) (e.symm.trans ha)
  ·exact bL h.wg h.C (by decide) ((show a.block=p.wg from e).symm.trans ha)
 ·rcases ha with ⟨k,hk,e,_⟩|e
  ·exact bL (h.src k hk) h.C (by decide) (e.symm.trans x)
  ·exact bL h.wg h.C (by decide) ((show a.block=p.wg from e).symm.trans x)
 ·rcases ha with ⟨k,hk,e,e'⟩|e
  ·have:=(h.ro x).2.2.2.2 k hk e;omega
  ·exact(h.ro x).2.1 e
 ·rcases ha with ⟨k,hk,e,e'⟩|e
  ·exact x.2 ((show a.block=p.src k from e)▸rG hk)
  ·exact x.2 ((show a.block=p.wg from e)▸awr)
theorem ayd(h:Far R p w)(k:Nat):Apart (sx R p k) (aS (R.G p)):=by
 by_cases hk:k<R.ns
 ·rw [iA hk];refine⟨fun b hb=>id,fun a ha=>⟨fun x=>?_,id,id⟩,fun a ha=>⟨fun x=>?_,id,fun x=>?_⟩,fun a ha=>ha.elim,fun a ha=>ha.elim⟩
  ·rcases x with ⟨k',cm,e,e'⟩|e
   ·have:=ha.2;omega
   ·exact bL (h.src k hk) h.wg (by decide) (ha.1.symm.trans e)
  ·rcases ha with ⟨k',cm,e,e'⟩|e
   ·have:=x.2;omega
   ·exact bL (h.src k hk) h.wg (by decide) (x.1.symm.trans e)
  ·rcases ha with ⟨k',cm,e,e'⟩|e
   ·exact bL (h.src k' cm) (h.mp k hk) (by decide) (e.symm.trans x)
   ·exact bL h.wg (h.mp k hk) (by decide) ((show a.block=p.wg from e).symm.trans x)
 ·rw [iB hk];exact Apart.bare _
theorem jK.own(h:jK R p p.n0 V w)(eD:nP R oA jA V w){b:Nat}(hb:Shd R p b):V.own b:=by
 obtain⟨arr,g1,_,_⟩:=h.gC.fgs;obtain⟨ac,g2,_⟩:=h.fC;rcases hb with e|e|e|e|e|e|e|⟨k,hk,e|e⟩|⟨k,hk,cM,o,e⟩
 ·rw [e];exact g1.1
 ·rw [e];exact h.gC.fb8.1
 ·rw [e];exact g2.1
 ·rw [e];exact h.f11.1
 ·rw [e];exact h.f12.1
 ·rw [e];exact h.awo.1
 ·rw [e];exact h.fwg.1
 ·rw [e];exact(h.gC.yh k hk).1
 ·rw [e];exact(h.gC.fmp k hk).1
 ·obtain⟨x,xs,hx⟩:=List.exists_cons_of_ne_nil cM;exact((eD.byt k hk b o e).2 0 x (by rw [hx];rfl)).1
theorem apP(h:Far R p w)(hF:jK R p p.n0 V w)(eD:nP R oA jA V w)(hS:∀b,V.own b->∀ad:Addr,Shun (.cell ad)->ad.block≠b):Apart (sw R p V) (cW Shun):=
 ⟨fun b hb=>id,fun a ha=>⟨fun x=>hS p.C (hF.own eD awq) a x ha,id,id⟩,fun a ha=>⟨fun x=>hS p.C (hF.own eD awq) a ha x,fun x=>hS a.block (hF.own eD (Z9 x)) a ha rfl,fun x=>hS a.block x.1 a ha rfl⟩,fun a ha=>id,fun a ha=>ha.elim⟩
theorem an0(hF:jK R p p.n0 V w)(eD:nP R oA jA V w)(hS:∀b,V.own b->∀ad:Addr,Shun (.cell ad)->ad.block≠b)(k:Nat):Apart (sx R p k) (cW Shun):=by
 by_cases hk:k<R.ns
 ·rw [iA hk];exact⟨fun b hb=>id,fun a ha=>⟨fun x=>hS _ (hF.own eD (rG hk)) a x ha.1,id,id⟩,fun a ha=>⟨fun x=>hS _ (hF.own eD (rG hk)) a ha x.1,id,fun x=>hS _ (hF.own eD (aaa hk)) a ha x⟩,fun a ha=>ha.elim,fun a ha=>ha.elim⟩
 ·rw [iB hk];exact Apart.bare _
theorem an1(hF:jK R p p.n0 V w)(eD:nP R oA jA V w)(hS:∀b,V.own b->∀ad:Addr,Shun (.cell ad)->ad.block≠b):Apart (aS (R.G p)) (cW Shun):=by
 have key:∀a,(aS (R.G p)).wc a->¬Shun (.cell a):=fun a ha x=>by
  rcases ha with ⟨k,hk,e,e'⟩|e
  ·exact hS _ (hF.own eD (rG hk)) a x e
  ·exact hS _ (hF.own eD awr) a x e
 exact⟨fun b hb=>id,fun a ha=>⟨key a ha,id,id⟩,fun a ha=>⟨fun x=>key a x ha,id,id⟩,fun a ha=>ha.elim,fun a ha=>ha.elim⟩
end
section
variable {w:World} {a:Act}
theorem fM{b:Nat}{c:Array Value}{t:TypeId}{i:Nat}{v:Value}(h:ba V w b (.cells c t (0,0)))(hi:c[i]? =some v):w.cell? ⟨b,i,none⟩=some v:=by simp [World.cell?,h.2,hi]
theorem aNT(hT:Tidy V w)(hF:jK R p p.n0 V w)(h:Far R p w)(eD:nP R oA jA V w)(hn0:p.n0<=w.heap.size)(hjn:∀jb jo,jA=some ⟨jb,jo,none⟩->0<R.js.length->jb<p.n0):MV R p jA 0 (sw R p V) w:=by
 obtain⟨arr,g1,g2,g3⟩:=hF.gC.fgs;obtain⟨ac,c1,c2⟩:=hF.fC;have gj:∀a,EO R p a->a.block<w.heap.size:=fun a ha=>hT.low.own _ (hF.own eD (Z9 ha));refine⟨⟨hT.gl,⟨fun b hb=>hT.low.own b hb.1,fun a ha=>by rw [show a.block=p.C from ha];exact c1.lt,gj⟩,fun a ha hb=>?_⟩,rfl,apS h,fun a ha x=>(h.ro x).1 ha,fun a ha=>ha,fun k hk a ha e=>?_,fun x _ hx=>⟨rfl,?_⟩,⟨ac,36,c1.2⟩,⟨.inl (.inr (.inl rfl)),fM hF.gC.fb8 rfl⟩,fun k hk=>⟨.inl (.inl rfl),fM g1 (g3 k hk)⟩,⟨.inl (.inr (.inr (.inr (.inl rfl)))),fM hF.f12 rfl⟩,⟨.inl (.inr (.inr (.inl rfl))),fM hF.f11 rfl⟩,fun k hk=>?_,fun k hk=>⟨_,61,(hF.gC.yh k hk).2,rfl⟩,⟨_,85,(0,0),hF.fwg.2,by simp⟩,fun j hj=>?_,hn0⟩
 ·rcases ha with ha|ha
  ·exact hb.2 (Z9 ha)
  ·exact hb.2 ((show a.block=p.C from ha)▸awq)
 ·rcases ha with ha|ha
  ·have:=(h.ro ha).2.2.2.2 k hk e;omega
  ·exact absurd (e.symm.trans ha) (bL (h.src k hk) h.C (by decide))
 ·have jc:x<ac.size:=by omega
  rw [fM c1 (Array.getElem?_eq_getElem jc)];rfl
 ·have hs:=hF.gC.yh k hk;have r:∀x,x=0\/x=1\/x=4->EO R p ⟨p.src k,x,none⟩:=fun x hx=>.inr (.inr (.inr (.inr (.inr ⟨k,hk,rfl,hx⟩))));refine⟨⟨.inl (r 0 (.inl rfl)),fM hs rfl⟩,⟨.inl (r 1 (.inr (.inl rfl))),fM hs rfl⟩,⟨.inl (r 4 (.inr (.inr rfl))),fM hs rfl⟩,fun b o e j x hj=>?_⟩;obtain⟨y1,y2⟩:=(eD.byt k hk b o e).2 j x hj;exact⟨.inl (.inr (.inr (.inr (.inr (.inl ⟨k,hk,(fun e'=>by rw [show(R.D p).iH k=R.iH k from rfl,e']at hj;cases hj),o,e⟩))))),y2⟩
 ·obtain⟨jb,jo,e,x0,x1,x2,x3⟩:=eD.nM j hj;have cd:=eD.aNM jb jo e (by omega)
  have key:∀off v,iJ V w ⟨jb,off,none⟩ v->iJ (sw R p V) w ⟨jb,off,none⟩ v:=fun off v x=>⟨by
   by_cases hs:Shd R p jb
   ·have aU:=hjn jb jo e (by omega)
    refine .inr (.inl ?_);have hB:Bb R jb:=by
     have n1:=h.ngs;have n2:=h.n8;have n3:=h.nC;have n4:=h.n11;have n5:=h.n12;have n6:=h.Fu;have n7:=h.nwg;rcases hs with e|e|e|e|e|e|e|⟨k,hk,e|e⟩|e
     ·omega
     ·omega
     ·omega
     ·omega
     ·omega
     ·omega
     ·omega
     ·have:=h.UO k hk;omega
     ·have:=h.nmp k hk;omega
     ·exact e
    exact .inr (.inr (.inr (.inr (.inl hB))))
   ·exact .inl ⟨cd,hs⟩,x.2⟩
  exact⟨jb,jo,e,key _ _ x0,key _ _ x1,key _ _ x2,key _ _ x3⟩
theorem aDG(hT:Tidy V w)(hF:jK R p p.n0 V w)(h:Far R p w)(eD:nP R oA jA V w){k:Nat}(hk:k<R.ns):Tidy (sx R p k) w:=by
 rw [iA hk];have o1:=hF.own eD (aaa hk);have o2:=hF.own eD (rG hk);refine⟨hT.gl,⟨fun b hb=>(show b=p.mp k from hb)▸hT.low.own _ o1,fun a ha=>ha.1▸hT.low.own _ o2,fun a ha=>ha.elim⟩,fun a ha hb=>?_⟩
 have e:a.block=p.mp k:=hb;rcases ha with ha|ha
 ·exact ha
 ·exact bL (h.src k hk) (h.mp k hk) (by decide) (ha.1.symm.trans e)
theorem aWH(hT:Tidy V w)(hF:jK R p p.n0 V w)(h:Far R p w)(eD:nP R oA jA V w){k:Nat}(hk:k<R.ns):jI (yg R.ns p.src p.wg p.off) (R.yU p.mp p.n0) k ⟨[],[]⟩ (sx R p k) w:=by
 have hs:=(hF.gC.yh k hk).2;have hT':=aDG hT hF h eD hk;have c5:w.cell? ⟨p.src k,5,none⟩=some (.slice none 0 0):=by simp [World.cell?,hs]
 have c6:w.cell? ⟨p.src k,6,none⟩=some (.int .i64 0):=by simp [World.cell?,hs]
 have hm:=(hF.gC.fmp k hk).2;have cM:=bL (h.src k hk) (h.mp k hk) (by decide)
 have hn:=h.nmp k hk;rw [iA hk]at hT'⊢;exact⟨hT',⟨#[],0,⟨rfl,hm⟩,fun e he=>by simp at he,fun no=>rfl⟩,⟨rfl,.inl rfl⟩,⟨rfl,.inr rfl⟩,c6,⟨fun _=>False,_,.none,id,⟨none,0,rfl,fun j hj=>absurd hj (Nat.not_lt_zero _),fun ad e=>by cases e⟩,c5⟩,fun c hc=>(by cases hc),fun no dS=>(by cases dS),⟨fun x=>cM x,fun a ha e=>by
  rcases ha with ha|ha
  ·exact ha.elim
  ·have:=ha.2;omega⟩,rfl,fun c hc=>(by cases hc),fun b hb=>(show b=p.mp k from hb)▸hn⟩
theorem a0Y(h:Far R p w)(eD:nP R oA jA V w)(hbn:∀k,k<R.ns->R.iH k≠[]->∀bb o,R.bs k=some ⟨bb,o,none⟩->bb<p.n0)(hjn:∀jb jo,jA=some ⟨jb,jo,none⟩->0<R.js.length->jb<p.n0):aNG R p jA:=
 ⟨bL h.b8 h.C (by decide),bL h.gs h.C (by decide),bL h.lZ h.C (by decide),bL h.jR h.C (by decide),fun k hk=>bL (h.src k hk) h.C (by decide),fun k hk cM bb o e=>by
  have:=hbn k hk cM bb o e;have:=h.nC;omega,fun hj jb jo e=>by
  have:=hjn jb jo e hj;have:=h.nC;omega,h.inj,fun k hk=>bL (h.src k hk) h.wg (by decide)⟩
theorem UP(hk:b.kind≠.early)(hR:R.Ok)(hT:Tidy V w)(oh:V.deaf=0)(hF:jK R p p.n0 V w)(eD:nP R oA jA V w)(hn0:p.n0<=w.heap.size)(hbn:∀k,k<R.ns->R.iH k≠[]->∀bb o,R.bs k=some ⟨bb,o,none⟩->bb<p.n0)(hjn:∀jb jo,jA=some ⟨jb,jo,none⟩->0<R.js.length->jb<p.n0)
  (yG:cx Shun w)(hSV:∀b,V.own b->∀ad:Addr,Shun (.cell ad)->ad.block≠b)
  (hs:a.tmps.size=53)(hd:a.defers=ds)(h1:a.eval (.tmp 1)=.slice jA R.js.length jC)(h8:a.eval (.tmp 8)=.pointer (some ⟨p.b8,0,none⟩))(aH:a.eval (.tmp 11)=.pointer (some ⟨p.jR,0,none⟩))(aJ:a.eval (.tmp 12)=.pointer (some ⟨p.lZ,0,none⟩))(aK:a.eval (.tmp 13)=.pointer (some ⟨p.wg,0,none⟩))
  (aNI:∀g' w',awk R p jA jC ds (sw R p V) w b k cs g' w'->Fin g' w'):
  Hv (R.G p) (R.J p) Fin Shun (sw R p V) (sx R p) (G (b.at a (.code xT::k)) cs) w:=by
 have hS:=ly hk;have h:=hF.far fun b hb=>by
  obtain⟨k,hk,cM,o,e⟩:=hb;exact hbn k hk cM b o e
 have hm:=aNT hT hF h eD hn0 hjn;have hw:WgAt 85 p.wg w 0 0:=hF.fwg.2;refine⟨fun l hl=>?_,rfl,fun k=>?_,fun k hk=>iB (show ¬k<R.ns from Nat.not_lt.2 hk),apL h,aEN h,apS h,ayd h,apP h hF eD hSV,an0 hF eD hSV,an1 hF eD hSV,hm.tidy.low,fun k=>?_,hm.low,⟨fun b hb=>hb.elim,fun a ha=>yG.lt ha,fun a ha=>ha.elim⟩,fun k hk=>⟨_,61,(hF.gC.yh k hk).2,rfl,rfl⟩,fun k hk=>aWH hT hF h eD hk,hw,⟨0,0,false,hF.awo.2⟩,⟨hT.low.own _ hF.awo.1,fun x=>x.2 az5,fun k x=>?_⟩,?_⟩
 ·obtain⟨ad,c,e,fr,x,y⟩:=yG l hl;exact⟨ad,x⟩
 ·by_cases hk:k<R.ns
  ·rw [iA hk]
  ·rw [iB hk];rfl
 ·by_cases hk:k<R.ns
  ·exact(aDG hT hF h eD hk).low
  ·rw [iB hk];exact .bare _
 ·by_cases hk:k<R.ns
  ·rw [iA hk]at x;exact bL h.off (h.mp k hk) (by decide) x
  ·rw [iB hk]at x;exact x
 ·refine aj hS aJz (aj hS aJt (ag hS aJg (rl [0,1,2] rfl) (ay SG hS hs (af SG.o h1) fun a ae fQ=>t4 ae hs hd h8 aH aJ aK fun hs hd h8 aH aJ aK=>?_)));refine ay SH hS hs (dk SH.o fQ underlying23) fun a ae iT=>t5 ae hs hd h8 aH aJ aK fQ fun hs hd h8 aH aJ aK fQ=>?_;refine ay SI hS hs (af SI.o rfl) fun a ae j8=>t6 ae hs hd h8 aH aJ aK fQ iT fun hs hd h8 aH aJ aK fQ iT=>?_;refine ai hS (bV hS aJs (iU hS aJr ?_));have hl:=aWC (Fin:=Fin) (b:=b) (k:=k) (cs:=cs) (ds:=ds) (cN:=jC) hk hR (a0Y h eD hbn hjn) hm.tidy aNI R.js.length 0 _ w _ (by omega) (by omega) hm ⟨.refl w,Nat.le_refl _,fun b hb=>⟨hb,rfl⟩,fun a ha=>⟨ha,rfl⟩,.refl _⟩ ⟨hs,hd,h8,aH,aJ,aK,fQ,iT⟩ j8
  exact hl
end
section
variable {w:World} {a ab:Act} {todo:List Item} {d:Nat} {rest:List Nat} {o:Oper} {fn:Func}
theorem NF{t u:Tmp}(hS:fg P main S)(hn:b.kind=.normal)(hd:ab.defers=[])(hf:P.funcs[b.fn]? =some fn)(hr:fn.results=#[.tmp t,.tmp u])(ho:ops[i]? =some o)(hdd:o.dst=some d)(aU:d<a.tmps.size)
  (K:∀a',a'.tmps.size=a.tmps.size->a'.defers=a.defers->(∀j,d≠j->a'.eval (.tmp j)=a.eval (.tmp j))->a'.eval (.tmp d)=.tuple #[ab.eval (.tmp t),ab.eval (.tmp u)]->Loc P main Stop V (G (S a' (.inRegion ops rest::k)) cs) w):
  Loc P main Stop V (G {b.at ab todo with mode:=.returning} (S a (.inRegion ops (i::rest)::k)::cs)) w:=by
 refine Loc.ctl rfl (fun w₁=>stepG_leave (v:=.tuple #[ab.eval (.tmp t),ab.eval (.tmp u)]) hn hd hf (by simp [results,hr,Act.eval]) (by simp [results,hr])) ?_
 rw [hS.finish,ho];have u':=bj a o.dst (.tuple #[ab.eval (.tmp t),ab.eval (.tmp u)]);exact K _ u'.size u'.defers (fun j hj=>u'.ne j (by rw [hdd];intro h;exact hj (Option.some.inj h))) (u'.eq d hdd aU)
theorem akA{t u x:Tmp}(hS:fg P main S)(hn:b.kind=.normal)(hd:ab.defers=[])(hf:P.funcs[b.fn]? =some fn)(hr:fn.results=#[.tmp t,.tmp u,.tmp x])(ho:ops[i]? =some o)(hdd:o.dst=some d)(aU:d<a.tmps.size)
  (K:∀a',a'.tmps.size=a.tmps.size->a'.defers=a.defers->(∀j,d≠j->a'.eval (.tmp j)=a.eval (.tmp j))->a'.eval (.tmp d)=.tuple #[ab.eval (.tmp t),ab.eval (.tmp u),ab.eval (.tmp x)]->Loc P main Stop V (G (S a' (.inRegion ops rest::k)) cs) w):
  Loc P main Stop V (G {b.at ab todo with mode:=.returning} (S a (.inRegion ops (i::rest)::k)::cs)) w:=by
 refine Loc.ctl rfl (fun w₁=>stepG_leave (v:=.tuple #[ab.eval (.tmp t),ab.eval (.tmp u),ab.eval (.tmp x)]) hn hd hf (by simp [results,hr,Act.eval]) (by simp [results,hr])) ?_
 rw [hS.finish,ho];have u':=bj a o.dst (.tuple #[ab.eval (.tmp t),ab.eval (.tmp u),ab.eval (.tmp x)]);exact K _ u'.size u'.defers (fun j hj=>u'.ne j (by rw [hdd];intro h;exact hj (Option.some.inj h))) (u'.eq d hdd aU)
theorem GV{ch s r:Nat}{tm:Bool}(h:w.heap[ch]? =some (.chan 0 #[] false s r tm)):aG (· =ch) aD V w V (w.setChan ch 0 #[] true s r tm):=by
 have cM:∀b,b≠ch->(w.setChan ch 0 #[] true s r tm).heap[b]? =w.heap[b]? :=fun b hb=>heap_setChan_ne w _ _ _ _ _ _ (Ne.symm hb);refine⟨rfl,rfl,.refl _,by simp [World.setChan],fun b c e fr hb=>?_,fun b hb hn=>cM b hn,fun a ha _=>?_,fun _ h=>h,fun _ h=>.inl h,rfl,rfl,rfl⟩
 ·by_cases hx:b=ch
  ·subst hx;rw [h]at hb;cases hb
  ·exact⟨c,(cM b hx).trans hb,rfl⟩
 ·by_cases hx:a.block=ch
  ·have e1:=heap_setChan_self w h 0 #[] true s r tm;simp only [World.cell?,hx,e1,h]
  ·simp only [World.cell?,cM _ hx]
theorem az7{gY:Array TypeId}{ty:TypeId}{cn:Array Bool}{ch s r:Nat}{tm:Bool}{ds:List Deferred}(hd:a.defers=ez gY ty cn ch::ds)(ho:V.own ch)(h:w.heap[ch]? =some (.chan 0 #[] false s r tm))(hq:(P.funcs[b.fn]?).any (·.norace)=false)
  (K:∀w',aG (· =ch) aD V w V w'->Loc P main Stop V (G {b.at ⟨a.tmps,ds⟩ todo with mode:=.returning} cs) w'):
  Loc P main Stop V (G {b.at a todo with mode:=.returning} cs) w:=by
 refine Loc.step rfl fun w₁ hr=>?_;have h1:=(hr.own ch ho).trans h;refine⟨_,_,_,V,kW hd h1 hq,?_,K _ ?_⟩
 ·have hw:=GV (V:=V) h1;refine⟨rfl,rfl,.refl _,hw.size,hw.kind,fun ad _ hn _=>?_,fun b _ hn _=>?_,?_,fun e he=>?_⟩
  ·have hx:ad.block≠ch:=fun e=>hn (e▸ho);simp only [World.cell?,heap_setChan_ne w₁ _ _ _ _ _ _ (Ne.symm hx)]
  ·exact heap_setChan_ne w₁ _ _ _ _ _ _ fun e=>hn (e▸ho)
  ·exact(sK V (by simp [World.setChan]) _).symm
  ·simp only [closeEvents,List.mem_toArray,List.mem_cons,List.not_mem_nil,or_false]at he;rcases he with rfl|rfl
   ·exact .inr (.inl ⟨_,_,_,rfl,ho⟩)
   ·exact .inr (.inl ⟨_,_,_,rfl,ho⟩)
 ·have k1:=aG.bk hr;have k2:=GV (V:=V) h1;exact⟨k2.tape.trans k1.tape,k2.output.trans k1.output,k1.os.trans k2.os,Nat.le_trans k1.size k2.size,k1.kind.trans k2.kind,fun b hb hn=>(k2.own b hb hn).trans (hr.own b hb),fun a ha hn=>(k2.cell a ha hn).trans (hr.cell a ha),fun _ h=>h,fun _ h=>.inl h,rfl,rfl,rfl⟩
end
def RD.cX(R:RD)(k:Nat)(l:List Int):List Rg.Sp:=(R.yU (fun _=>0) 0).cX k l
theorem RD.UQ(R:RD)(mp:Nat->Nat)(n0 k:Nat):∀l,(R.yU mp n0).cX k l=R.cX k l
 |[]=>rfl
 |no::l=>by
  show Rg.yT ((R.yU mp n0).cX k l) _=Rg.yT ((R.yU (fun _=>0) 0).cX k l) _
  rw [R.UQ mp n0 k l];rfl
def RD.InS(R:RD)(k:Nat)(l:List Int):Prop:=(R.yU (fun _=>0) 0).In k l
def gX(V:View)(w:World)(ad:Addr)(v:Value):Prop:=V.own ad.block/\w.cell? ad=some v
theorem gX.cK{V:View}{w:World}{ad:Addr}{v:Value}(h:gX V w ad v):iJ V w ad v:=⟨.inl h.1,h.2⟩
theorem gX.go{V V':View}{w w':World}{ad:Addr}{v:Value}{A:Addr->Prop}(h:gX V w ad v)(k:aG aI A V w V' w'):gX V' w' ad v:=⟨k.mine _ h.1,by
 have:=h.2;simp only [World.cell?,k.own _ h.1 id]at this⊢;exact this⟩
structure After(R:RD)(C gs:Nat)(src:Nat->Nat)(n0:Nat)(V:View)(w:World):Prop where
 row:∀j,j<R.js.length->∃vo,gX V w ⟨C,j*2,none⟩ vo/\gX V w ⟨C,j*2+1,none⟩ (.bool (R.whole j))/\Row V w 5 1 vo (R.bytes j).length (R.bytes j)
 elem:∀k,k<R.ns->iJ V w ⟨gs,k,none⟩ (.pointer (some ⟨src k,0,none⟩))
 set:∀k,k<R.ns->∃Cs v l,Closed V w Cs/\gI w Cs (.agg #[v]) (R.cX k l)/\iJ V w ⟨src k,5,none⟩ v/\iJ V w ⟨src k,6,none⟩ (.int .i64 0)/\
  (∀no,no∈l↔∃j,j<R.js.length/\(R.k7 j).1=k/\∃s,1<=s/\s<=R.qL j/\no=R.item j s)/\(∀b,Cs b->n0<=b)/\R.InS k l
theorem After.go{R:RD}{C gs n0:Nat}{src:Nat->Nat}{V V':View}{w w':World}(h:After R C gs src n0 V w)(k:aG aI aD V w V' w'):After R C gs src n0 V' w':=by
 refine⟨fun j hj=>?_,fun i hi=>(h.elem i hi).go k,fun i hi=>?_⟩
 ·obtain⟨vo,h1,h2,h3⟩:=h.row j hj;exact⟨vo,h1.go k,h2.go k,h3.go k⟩
 ·obtain⟨Cs,v,l,h1,h2,h3,h4,h5⟩:=h.set i hi;exact⟨Cs,v,l,h1.aC k fun _ _=>id,h2.blocks fun b hb=>⟨hb,k.own b (h1 b hb).1 id⟩,h3.go k,h4.go k,h5⟩
section
variable {ch:Nat} {w:World} {B:Nat->Prop} {ad:Addr} {v:Value}
theorem mK(h:nO Shun w ch)(hs:w.heap.size<=w'.heap.size):nO Shun w' ch:=⟨Nat.lt_of_lt_of_le h.1 hs,h.2⟩
theorem iJ.amc(h:iJ (bP Shun w) w ad v)(k:aG B aD (bP Shun w) w V' w')(hB:¬B ad.block):iJ (bP Shun w') w' ad v:=by
 obtain⟨hv,hc⟩:=h;rcases hv with x|x|x
 ·refine⟨.inl (mK x k.size),?_⟩;simp only [World.cell?,k.own _ x hB]at hc⊢;exact hc
 ·exact x.elim
 ·exact⟨.inr (.inr ⟨x.1,x.2.1,Nat.lt_of_lt_of_le x.2.2 k.size⟩),(k.cell _ (.inr x) id).trans hc⟩
theorem gX.amc(h:gX (bP Shun w) w ad v)(k:aG B aD (bP Shun w) w V' w')(hB:¬B ad.block):gX (bP Shun w') w' ad v:=by
 obtain⟨x,hc⟩:=h;refine⟨mK x k.size,?_⟩;simp only [World.cell?,k.own _ x hB]at hc⊢;exact hc
theorem xi{s r:Nat}{tm cl:Bool}(mj:w.heap[ch]? =some (.chan 0 #[] cl s r tm))(hc:w.cell? ad=some v):ad.block≠ch:=fun e=>by
 rw [←e]at mj;simp [World.cell?,mj]at hc
theorem After.aC{s r:Nat}{tm cl:Bool}{n0:Nat}(h:After R C gs src n0 (bP Shun w) w)(mj:w.heap[ch]? =some (.chan 0 #[] cl s r tm))(k:aG (· =ch) aD (bP Shun w) w V' w'):After R C gs src n0 (bP Shun w') w':=by
 refine⟨fun j hj=>?_,fun i hi=>(h.elem i hi).amc k (xi mj (h.elem i hi).2),fun i hi=>?_⟩
 ·obtain⟨vo,h1,h2,h3⟩:=h.row j hj;have cM:∀g,vo.ownBlock=some g->g≠ch:=fun g hg e=>by
   rcases h3.1.2 with ⟨x,_⟩|⟨g',cap,cur,x,_,y,_⟩
   ·rw [x]at hg;cases hg
   ·rw [x]at hg;obtain rfl:g'=g:=by simpa [Value.ownBlock]using hg
    rw [e,mj]at y;cases y
  exact⟨vo,h1.amc k (xi mj h1.2),h2.amc k (xi mj h2.2),ew h3.1 fun g hg=>k.own g (h3.2 g hg) (cM g hg),fun g hg=>mK (h3.2 g hg) k.size⟩
 ·obtain⟨Cs,v,l,h1,h2,h3,h4,h5⟩:=h.set i hi;have cM:∀b,Cs b->b≠ch:=fun b hb e=>by
   obtain⟨_,o,x,y⟩:=h1 b hb;rw [e,mj]at x;cases x;cases y
  refine⟨Cs,v,l,⟨h1.tt,fun b hb=>?_⟩,h2.blocks fun b hb=>⟨hb,k.own b (h1 b hb).1 (cM b hb)⟩,h3.amc k (xi mj h3.2),h4.amc k (xi mj h4.2),h5⟩;obtain⟨x,o,y,z⟩:=h1 b hb;exact⟨mK x k.size,o,(k.own b x (cM b hb)).trans y,OR.gF z (fun _=>id) k.size⟩
theorem jK.go(h:jK R p ch V w)(k:aG aI aD V w V' w'):jK R p ch V' w':=by
 obtain⟨arr,x,y⟩:=h.fC;exact⟨h.gC.go k,⟨arr,x.go k,y⟩,h.f11.go k,h.awo.go k,h.f12.go k,h.fwg.go k,h.nC,h.n11,h.Fu,h.n12,h.nwg⟩
theorem aNV(h:Far R p w){b:Nat}(hs:Shd R p b)(hb:b<p.n0):Bb R b:=by
 have n1:=h.ngs;have n2:=h.n8;have n3:=h.nC;have n4:=h.n11;have n5:=h.n12;have n6:=h.Fu;have n7:=h.nwg;rcases hs with e|e|e|e|e|e|e|⟨k,hk,e|e⟩|e
 ·omega
 ·omega
 ·omega
 ·omega
 ·omega
 ·omega
 ·omega
 ·have:=h.UO k hk;omega
 ·have:=h.nmp k hk;omega
 ·exact e
theorem aws{V1 V3:View}{w2 w3:World}(h:Far R p w2)(eD:nP R oA jA V1 w2)(hK:Kp0 (sw R p V1) w2 V3 w3){b:Nat}(hb:V1.own b)(aU:b<p.n0):w3.heap[b]? =w2.heap[b]? :=by
 by_cases hs:Shd R p b
 ·have hB:=aNV h hs aU;refine sH hK.kind (fun off=>(hK.ro ⟨b,off,none⟩ (.inr (.inr (.inr (.inr (.inl hB)))))).2) fun hn=>?_;obtain⟨k,hk,cM,o,e⟩:=hB;obtain⟨x,xs,hx⟩:=List.exists_cons_of_ne_nil cM;have hc:=((eD.byt k hk b o e).2 0 x (by rw [hx];rfl)).2
  exfalso;cases hh:w2.heap[b]? with
  |none=>simp [World.cell?,hh]at hc
  |some ob=>cases ob with
   |cells c e fr=>exact hn _ _ _ hh
   |_=>simp [World.cell?,hh]at hc
 ·exact(hK.own b ⟨hb,hs⟩).2
end
section
variable {V1 V3:View} {w w2 w3:World}
theorem yi{ad:Addr}(h:ig (R.G p) Shun (.cell ad)):Shun (.cell ad)\/(∃k,k<R.ns/\ad.block=p.src k/\(ad.off=2\/ad.off=3))\/ad.block=p.wg:=by
 rcases h with h|⟨ad',e,h⟩
 ·exact .inl h
 ·cases e;exact .inr h
structure aWJ(R:RD)(p:Pl)(Shun:Go.Loc->Prop)(V:View)(w w3:World):Prop where
 so:cx (ig (R.G p) Shun) w3
 hg:prog.globals.size<=w3.heap.size
 size:w.heap.size<=w3.heap.size
 old:∀b,V.own b->b<w.heap.size->nO (ig (R.G p) Shun) w3 b/\w3.heap[b]? =w.heap[b]?
 aft:After R p.C p.gs p.src p.n0 (bP (ig (R.G p) Shun) w3) w3
 jR:iJ (bP (ig (R.G p) Shun) w3) w3 ⟨p.jR,0,none⟩ (.slice (some ⟨p.C,0,none⟩) R.js.length R.js.length)
 b8:iJ (bP (ig (R.G p) Shun) w3) w3 ⟨p.b8,0,none⟩ (.slice (some ⟨p.gs,0,none⟩) R.ns R.ns)
 off:nO (ig (R.G p) Shun) w3 p.off/\bC w3 p.off
 Fu:w.heap.size<=p.off
theorem ended(hR:R.Ok)(hg:prog.globals.size<=w0.heap.size)(yG:cx Shun w0)(hW:aG aI aD (bP Shun w0) w0 V w)(eD:nP R oA jA V w)(hp:p.n0=w.heap.size)(zx:aG aI aD V w V1 w2)(hT1:Tidy V1 w2)(hF:jK R p p.n0 V1 w2)
  (hM:MV R p jA R.js.length V3 w3)(hK:Kp0 (sw R p V1) w2 V3 w3)(hC:anz (R.G p) (R.J p) w3):aWJ R p Shun V w w3:=by
 have a0Z:=eD.go zx;have hbn:∀k,k<R.ns->R.iH k≠[]->∀bb o,R.bs k=some ⟨bb,o,none⟩->bb<p.n0:=fun k hk cM bb o e=>by rw [hp];exact(eD.byt k hk bb o e).1 cM
 have lf:=hF.far fun b hb=>by
  obtain⟨k,hk,cM,o,e⟩:=hb;exact hbn k hk cM b o e
 have aWL:w0.heap.size<=p.n0:=by rw [hp];exact hW.size
 have aWM:p.n0<=w2.heap.size:=by rw [hp];exact zx.size
 have hold:∀ad,Shun (.cell ad)->ad.block<p.n0:=fun ad h=>Nat.lt_of_lt_of_le (yG.lt h) aWL;have aDH:=lf.UO;have a5P:=lf.nwg;have k03:eG w0 w3:=(hW.kind.trans zx.kind).trans hK.kind;have hg3:prog.globals.size<=w3.heap.size:=Nat.le_trans hg (Nat.le_trans aWL (Nat.le_trans aWM hK.size));have hso:cx (ig (R.G p) Shun) w3:=fun l hl=>by
  rcases hl with hl|⟨ad,e,hl⟩
  ·exact yG.kind k03 l hl
  ·rcases hl with ⟨k,hk,e',_⟩|e'
   ·obtain⟨c',x,_⟩:=hK.kind _ _ _ _ (hF.gC.yh k hk).2;exact⟨ad,c',61,_,e,by rw [e'];exact x,.inl rfl⟩
   ·obtain⟨c',x,_⟩:=hK.kind _ _ _ _ hF.fwg.2;exact⟨ad,c',85,_,e,by rw [show ad.block=p.wg from e'];exact x,.inr rfl⟩
 have VP:∀x,p.n0<=x->x<w3.heap.size->(∀k,k<R.ns->x≠p.src k)->x≠p.wg->nO (ig (R.G p) Shun) w3 x:=fun x h1 h2 h3 h4=>⟨h2,fun ad hs e=>by
  rcases yi hs with y|⟨k,hk,y,_⟩|y
  ·have:=hold ad y;omega
  ·exact h3 k hk (e.symm.trans y)
  ·exact h4 (e.symm.trans y)⟩
 have aU:∀(ad:Addr) v,w3.cell? ad=some v->ad.block<w3.heap.size:=fun ad v h=>by
  rcases Nat.lt_or_ge ad.block w3.heap.size with x|x
  ·exact x
  ·have:w3.heap[ad.block]? =none:=Array.getElem?_eq_none x;simp [World.cell?,this]at h
 have Hp:∀(ad:Addr) v n,w3.cell? ad=some v->tg w2 ad.block=n->n≠71->n≠95->p.n0<=ad.block->gX (bP (ig (R.G p) Shun) w3) w3 ad v:=fun ad v n hc ht h1 h2 hn=>⟨VP _ hn (aU ad v hc) (fun k hk=>bL ht (lf.src k hk) h1) (bL ht lf.wg h2),hc⟩;have aWN:∀k,k<R.ns->∀x v,x=5\/x=6->w3.cell? ⟨p.src k,x,none⟩=some v->iJ (bP (ig (R.G p) Shun) w3) w3 ⟨p.src k,x,none⟩ v:=fun k hk x v hx hc=>⟨.inr (.inr ⟨fun hs=>by
  rcases yi hs with y|⟨k',cm,y,z⟩|y
  ·have a1:=hold _ y;have a2:=aDH k hk;simp only at a1;omega
  ·simp only at z;omega
  ·exact bL (lf.src k hk) lf.wg (by decide) y,⟨⟨p.src k,2,none⟩,.inr ⟨_,rfl,.inl ⟨k,hk,rfl,.inl rfl⟩⟩,rfl⟩,aU _ _ hc⟩),hc⟩
 have aWO:∀(b:Nat) (o:Obj),w3.heap[b]? =some o->∀n,tg w3 b=n->n≠71->n≠95->(∀k,k<R.ns->b≠p.src k)/\b≠p.wg:=fun b o ho n hn h1 h2=>by
  have t1:∀k,k<R.ns->tg w3 (p.src k)=71:=fun k hk=>by
   obtain⟨c',x,_⟩:=hK.kind _ _ _ _ (hF.gC.yh k hk).2;simp [tg,x]
  have t2:tg w3 p.wg=95:=by
   obtain⟨c',x,_⟩:=hK.kind _ _ _ _ hF.fwg.2;simp [tg,x]
  exact⟨fun k hk=>bL hn (t1 k hk) h1,bL hn t2 h2⟩
 obtain⟨γ,VL,VD,q1,q2,q3,q4⟩:=hC;obtain⟨s,r,tm,mj⟩:=q3;refine⟨hso,hg3,Nat.le_trans (by rw [←hp];exact aWM) hK.size,fun b hb hlb=>?_,⟨fun j hj=>?_,fun k hk=>?_,fun k hk=>?_⟩,?_,?_,⟨?_,s,r,tm,mj⟩,by rw [←hp];exact lf.Fu⟩
 ·have ho:=qN yG hg hW hb;refine⟨⟨?_,fun ad hs e=>?_⟩,(aws lf a0Z hK (zx.mine b hb) (by rw [hp];exact hlb)).trans (zx.own b hb id)⟩
  ·have:=hK.size;omega
  ·rcases yi hs with y|⟨k,hk,y,_⟩|y
   ·exact ho.2 ad y e
   ·have:=aDH k hk;omega
   ·omega
 ·obtain⟨⟨g1,g2,vo,g3,g4,g5,g6⟩,_⟩:=q2 j hj;refine⟨vo,Hp _ _ 46 g3 lf.C (by decide) (by decide) lf.nC,Hp _ _ 46 g4 lf.C (by decide) (by decide) lf.nC,g5.1,fun g rj=>?_⟩
  have hn:=g6 g rj;rcases g5.1.2 with ⟨x,_⟩|⟨g',cap,cur,x,_,y,_⟩
  ·rw [x]at rj;cases rj
  ·rw [x]at rj;obtain rfl:g'=g:=by simpa [Value.ownBlock]using rj
   obtain⟨z1,z2⟩:=aWO g' _ y 15 (by simp [tg,y]) (by decide) (by decide)
   exact VP g' hn (Array.getElem?_eq_some_iff.1 y).1 z1 z2
 ·exact(Hp _ _ 61 (hM.elem k hk).2 lf.gs (by decide) (by decide) lf.ngs).cK
 ·obtain⟨jN,h1,h2,h3⟩:=q1 k hk;have jN:jI (yg R.ns p.src p.wg p.off) (R.yU p.mp p.n0) k (γ k) (VL k) w3:=jN;obtain⟨Cs,v,z1,z2,z3,z4⟩:=jN.set;rw [R.UQ]at z3;have VB:=q4 k hk;have aWP:∀b,(VL k).own b->b<w3.heap.size->nO (ig (R.G p) Shun) w3 b:=fun b hb hl=>VP b (jN.new b hb) hl (fun k' cm e=>(VB.mX ⟨p.src k',2,none⟩ (.inl ⟨k',cm,rfl,.inl rfl⟩)).2.2 (e▸hb)) fun e=>(VB.mX ⟨p.wg,0,none⟩ (.inr rfl)).2.2 (e▸hb);refine⟨Cs,v,(γ k).done,⟨z1.tt,fun b hb=>⟨aWP b (z1 b hb).1 ?_,(z1 b hb).2⟩⟩,z3,aWN k hk 5 v (.inl rfl) z4,aWN k hk 6 _ (.inr rfl) jN.two,⟨fun no=>⟨fun dS=>?_,fun⟨j,hj,e,s',s1,s2,e'⟩=>?_⟩,fun b hb=>jN.new b (z1 b hb).1,jN.inn⟩⟩
  ·obtain⟨o,ho,_⟩:=(z1 b hb).2;exact(Array.getElem?_eq_some_iff.1 ho).1
  ·obtain⟨c,hc,rfl⟩:=h2 no dS;obtain⟨j,hj,e,s',s1,s2,e'⟩:=h3 c hc;exact⟨j,hj,e,s',s1,s2,e'⟩
  ·obtain⟨c,hc,ec⟩:=(q2 j hj).2 s' s1 s2;have BQ:c∈(γ k).bO:=e▸hc;rw [e',show R.item j s'=c.no from ec.symm]
   exact h1 c BQ
 ·exact(Hp _ _ 36 hM.Z5.2 lf.jR (by decide) (by decide) lf.n11).cK
 ·exact(Hp _ _ 58 hM.gC.2 lf.b8 (by decide) (by decide) lf.n8).cK
 ·obtain⟨z1,z2⟩:=aWO p.off _ mj 2 (by simp [tg,show w3.heap[p.off]? =_ from mj]) (by decide) (by decide)
  exact VP p.off lf.Fu (Array.getElem?_eq_some_iff.1 mj).1 z1 z2
end
end Go.Proofs.YtmcddajniiaieaaGreatDoor
