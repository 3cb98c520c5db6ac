/- TopRace: a part of the proof that it holds for every input and every schedule. -/
import Derived.Test.YtmcddajniiaieaaGreatDoorY09
import Derived.Lib.UnsafeStr
import Derived.Lib.Builder
import Derived.Laws.BytesString
set_option linter.unusedVariables false
set_option linter.unusedSimpArgs false
namespace Go.Proofs.YtmcddajniiaieaaGreatDoor
open Go Go.Conc Go.ConcM Go.Proofs.Tryz
variable {R:RD} {oA jA A B:Option Addr} {oC jC i ns b8 j C gs n0 cA cB n:Nat} {Shun:Go.Loc->Prop} {V V':View} {w0 w':World} {cs:List Frame} {Q:(Go.Loc->Prop)->Goroutine->World->Prop} {S:Act->List Item->Frame} {a0:Act} {k0 k:List Item} {ops:Array Oper} {L:List (Int×Jb)} {u:Int} {Stop:View->Goroutine->World->Prop} {b:Frame} {src:Nat->Nat} {y:Operand} {s:ByteArray}
open Go.ConcR (stA smA WgAt KK rd wr)
structure aWQ(R:RD)(C gs:Nat)(src:Nat->Nat)(V:View)(w:World)(bc:Go.Loc->Prop)(w':World):Prop where
 so:cx bc w'
 hg:prog.globals.size<=w'.heap.size
 size:w.heap.size<=w'.heap.size
 old:∀b,V.own b->b<w.heap.size->nO bc w' b/\w'.heap[b]? =w.heap[b]?
 aft:After R C gs src w.heap.size (bP bc w') w'
section
variable {w:World} {d:Nat} {rest:List Nat} {o:Oper}
theorem aNW{Stop:View->Goroutine->World->Prop}{a:Act}{cn:Array Bool}{b8 jR ch C gs N ns s r:Nat}{tm:Bool}(rT:fg prog true S)(ho:ops[i]? =some o)(hdd:o.dst=some d)(aU:d<a0.tmps.size)(hT:Tidy V w)
  (hs:a.tmps.size=53)(hd:a.defers=[ez #[78] 0 cn ch])(h8:a.eval (.tmp 8)=.pointer (some ⟨b8,0,none⟩))(aH:a.eval (.tmp 11)=.pointer (some ⟨jR,0,none⟩))
  (B11:iJ V w ⟨jR,0,none⟩ (.slice (some ⟨C,0,none⟩) N N))(B8:iJ V w ⟨b8,0,none⟩ (.slice (some ⟨gs,0,none⟩) ns ns))(cd:V.own ch)(mj:w.heap[ch]? =some (.chan 0 #[] false s r tm))
  (K:∀a' V' w',aG (· =ch) aD V w V' w'->a'.tmps.size=a0.tmps.size->a'.defers=a0.defers->(∀j,d≠j->a'.eval (.tmp j)=a0.eval (.tmp j))->a'.eval (.tmp d)=.tuple #[.slice (some ⟨C,0,none⟩) N N,.slice (some ⟨gs,0,none⟩) ns ns]->Loc prog true Stop V' (G (S a' (.inRegion ops rest::k0)) cs) w'):
  Loc prog true Stop V (G ((base 12).at a [.code xV]) (S a0 (.inRegion ops (i::rest)::k0)::cs)) w:=by
 have hS:=bh (P:=prog) (main:=true) (b:=base 12) (by decide)
 refine aj hS aJx (Ez hS aJv [51,52,6] [.val (.slice (some ⟨C,0,none⟩) N N),.val (.slice (some ⟨gs,0,none⟩) ns ns),.val (.slice (some ⟨C,0,none⟩) N N)] [(8,.pointer (some ⟨b8,0,none⟩)),(11,.pointer (some ⟨jR,0,none⟩))] 3 rfl (by kernel_rfl) pU.a (by kernel_rfl) rfl rfl (by decide) (by simp) (fun a' V' w'=>aG aI aD V w V' w'/\a'.tmps.size=53/\a'.defers=[ez #[78] 0 cn ch]/\a'.eval (.tmp 6)=.slice (some ⟨C,0,none⟩) N N/\a'.eval (.tmp 7)=.slice (some ⟨gs,0,none⟩) ns ns) (by simp [h8,aH]) hT ?_ ?_ ?_)
 ·intro i d s o rest hi aV aZ ho aa VV ww hB hI K;match i,hi with
  |0,_=>
   cases aV;cases aZ;obtain rfl:=DW.w ho;have aH:=hB.sl 11 rfl;exact cU DW hS hB hs (aL DW.o aH isAgg26 (B11.go hB.aC)) K
  |1,_=>
   cases aV;cases aZ;obtain rfl:=DX.w ho;have h8:=hB.sl 8 rfl;exact cU DX hS hB hs (aL DX.o h8 isAgg48 (B8.go hB.aC)) K
  |2,_=>
   cases aV;cases aZ;obtain rfl:=DY.w ho;have rP:=hI.av 0;exact cU DY hS hB hs (ak DY.o rP) K
  |n+3,hn=>exact absurd hn (by omega)
 ·intro rest aa VV ww hB hI K;have tA:aa.eval (.tmp 52)=(.slice (some ⟨gs,0,none⟩) ns ns):=hI.all 1 52 (.val (.slice (some ⟨gs,0,none⟩) ns ns)) (by decide) rfl rfl
  have h6:aa.eval (.tmp 6)=.slice (some ⟨C,0,none⟩) N N:=hI.all 2 6 (.val (.slice (some ⟨C,0,none⟩) N N)) (by decide) rfl rfl
  refine zw pU.a pU.f hS pU.d (by rw [hB.size,hs];decide) (ak pU.o tA) fun a' au an ah h7=>K a' _ _ ⟨hB.aC,au.trans (hB.size.trans hs),an.trans (hB.defers.trans hd),(ah 6 (by decide)).trans h6,h7⟩
 ·skip;rintro a4 V4 w4 ⟨W4,s4,d4,e6,e7⟩;refine dg (b:=base 12) aJw fun todo=>?_;refine az7 d4 (W4.mine ch cd) ((W4.own ch cd id).trans mj) (by kernel_rfl) fun w5 W5=>?_
  refine NF rT rfl rfl func12 rfl ho hdd aU fun a' s' d' n' e'=>K a' V4 w5 ?_ s' d' n' ?_
  ·exact(W4.mono (fun _ h=>h.elim) fun _ h=>h.elim).trans W5
  ·rw [e'];show Value.tuple #[a4.eval (.tmp 6),a4.eval (.tmp 7)]=_
   rw [e6,e7]
theorem EP(rT:fg prog true S)(ho:ops[i]? =some o)(hdd:o.dst=some d)(aU:d<a0.tmps.size)(hR:R.Ok)(rS:R.ns<=4)(hg:prog.globals.size<=w0.heap.size)(yG:cx Shun w0)(hW:aG aI aD (bP Shun w0) w0 V w)(hT:Tidy V w)(eD:nP R oA jA V w)
  (K:∀bc w' C gs src a',aWQ R C gs src V w bc w'->a'.tmps.size=a0.tmps.size->a'.defers=a0.defers->(∀j,d≠j->a'.eval (.tmp j)=a0.eval (.tmp j))->a'.eval (.tmp d)=.tuple #[.slice (some ⟨C,0,none⟩) R.js.length R.js.length,.slice (some ⟨gs,0,none⟩) R.ns R.ns]->dy Q bc (G (S a' (.inRegion ops rest::k0)) cs) w'){T:Array Value}
  (hT3:T=#[.slice oA R.ns oC,.slice jA R.js.length jC,.int .i64 R.u]++Array.replicate 50 undef):
  fh Q Shun V (G ((base 12).at {tmps:=T,defers:=[]} [.code Gn]) (S a0 (.inRegion ops (i::rest)::k0)::cs)) w:=by
 subst hT3;refine az3 (b:=base 12) (oA:=oA) (jA:=jA) (oC:=oC) (jC:=jC) (by decide) hR hT eD rS (by simp) rfl (by simp [Act.eval]) (by simp [Act.eval]) (by simp [Act.eval]) fun p cn a1 V1 w1 s1 d1 e1 e8 e11 e12 e13 W1 T1 F1 hp=>?_
 have oh:V.deaf=0:=hW.deaf;refine fh.UM (W1.deaf.trans oh) fun w2 hr=>?_;have W2:aG aI aD V w V1 w2:=W1.trans (.bk hr);have F2:jK R p p.n0 V1 w2:=by rw [hp];exact F1.go (.bk hr)
 have T2:Tidy V1 w2:=T1.aC (.bk hr);have in2:=eD.go W2;have hbn:∀k,k<R.ns->R.iH k≠[]->∀bb o,R.bs k=some ⟨bb,o,none⟩->bb<p.n0:=fun k hk cM bb o e=>by rw [hp];exact(eD.byt k hk bb o e).1 cM
 have hjn:∀jb jo,jA=some ⟨jb,jo,none⟩->0<R.js.length->jb<p.n0:=fun jb jo e h=>by rw [hp];exact hT.low.own _ (eD.aNM jb jo e h)
 have a01:cx Shun w2:=yG.kind (hW.kind.trans W2.kind);have hSV:∀b,V1.own b->∀ad:Addr,Shun (.cell ad)->ad.block≠b:=fun b hb=>(qN yG hg (hW.trans W2) hb).2;have lf:=F2.far fun b hb=>by
  obtain⟨k,hk,cM,o,e⟩:=hb;exact hbn k hk cM b o e
 have a02:=UP (R:=R) (p:=p) (Shun:=Shun) (Fin:=awk R p jA jC [ez #[78] 0 cn p.off] (sw R p V1) w2 (base 12) [] (S a0 (.inRegion ops (i::rest)::k0)::cs)) (b:=base 12) (k:=[]) (cs:=S a0 (.inRegion ops (i::rest)::k0)::cs) (by decide) hR T2 (W1.deaf.trans oh) F2 in2 (by rw [hp];exact W2.size) hbn hjn a01 hSV s1 d1 e1 e8 e11 e12 e13 fun g' w' h=>h
 refine dy.trans (dy.race (RD.a0D hR lf.inj fun k hk=>bL (lf.src k hk) lf.wg (by decide)) a02 (fun g' w' h=>by
  obtain⟨V',_,hk,_⟩:=h;exact hk.size) fun g' w' h=>by
  obtain⟨V',_,hk,_⟩:=h;exact hk.same) ?_
 rintro Sh g3 w3 ⟨rfl,V3,hM3,hK3,hC3,hgo⟩;have hE:=ended hR hg yG hW eD hp W2 T2 F2 hM3 hK3 hC3;refine dy.loc hE.hg (hgo _ _ fun a3 hl3=>?_);obtain⟨axH,s,r,tm,mj⟩:=hE.off;refine aNW rT ho hdd aU (k8 hE.hg) hl3.hs hl3.hd hl3.h8 hl3.aH hE.jR hE.b8 axH mj fun a' V' w' W' s' d' n' e'=>fh.UM W'.deaf fun w4 Ux=>?_;have W4:aG (· =p.off) aD (bP (ig (R.G p) Shun) w3) w3 V' w4:=W'.trans ((aG.bk Ux).mono (fun _ h=>h.elim) fun _ h=>h.elim);refine K _ w4 p.C p.gs p.src a' ⟨hE.so.kind W4.kind,Nat.le_trans hE.hg W4.size,Nat.le_trans hE.size W4.size,fun b hb hlb=>?_,by rw [←hp];exact hE.aft.aC mj W4⟩ s' d' n' e'
 obtain⟨x,y⟩:=hE.old b hb hlb;have dS:=hE.Fu;exact⟨mK x W4.size,(W4.own b x (by omega)).trans y⟩
end
def l4(L:List (Int×Jb))(A:Option Addr)(V:View)(w:World):Prop:=
 ∀j (hj:j<L.length),∃jb jo,A=some ⟨jb,jo,none⟩/\iJ V w ⟨jb,jo+j*4,none⟩ (.int .i64 L[j].1)/\iJ V w ⟨jb,jo+j*4+1,none⟩ (.int .i64 L[j].2.f)/\iJ V w ⟨jb,jo+j*4+2,none⟩ (.int .i64 L[j].2.t)/\iJ V w ⟨jb,jo+j*4+3,none⟩ (.int .i64 L[j].2.q)
def fN(ns:Nat)(p:Int×Jb):Bool:=(decide (0<=p.1)&&decide (p.1<ns))&&(Rg.dJ p.2.f p.2.t&&decide (-1<=p.2.q))
section
variable {d:Nat} {w:World} {rest:List Nat} {o:Oper}
theorem l4.go(h:l4 L jA V w)(k:aG aI aD V w V' w'):l4 L jA V' w':=fun j hj=>by
 obtain⟨jb,jo,e,x0,x1,x2,x3⟩:=h j hj;exact⟨jb,jo,e,x0.go k,x1.go k,x2.go k,x3.go k⟩
theorem az8(rT:fg prog true S)(ho:ops[i]? =some o)(hdd:o.dst=some d)(aU:d<a0.tmps.size)(hT:Tidy V w)(hu:Rg.fv u=true){T:Array Value}(mL:T=#[.int .i64 0,.int .i64 u]++Array.replicate 13 undef)
  (K:∀a' V' w',aG aI aD V w V' w'->Tidy V' w'->a'.tmps.size=a0.tmps.size->a'.defers=a0.defers->(∀j,d≠j->a'.eval (.tmp j)=a0.eval (.tmp j))->a'.eval (.tmp d)=.int .i64 0->Loc prog true Stop V' (G (S a' (.inRegion ops rest::k0)) cs) w'):
  Loc prog true Stop V (G ((base 23).at {tmps:=T,defers:=[]} [.code TO]) (S a0 (.inRegion ops (i::rest)::k0)::cs)) w:=by
 have hS:=bh (P:=prog) (main:=true) (b:=base 23) (by decide)
 obtain⟨u1,u2⟩:=Rg.kU hu;generalize ha:({tmps:=T,defers:=[]}:Act)=a;have hs:a.tmps.size=15:=by subst ha;subst mL;rfl
 have hd:a.defers=[]:=by subst ha;rfl
 have h0:a.eval (.tmp 0)=.int .i64 0:=by subst ha;subst mL;simp [Act.eval]
 have h1:a.eval (.tmp 1)=.int .i64 u:=by subst ha;subst mL;simp [Act.eval]
 clear ha;refine aj hS aUL (ag hS aUE (rl [0] rfl) (ay ah2 hS hs (ak ah2.o rfl) fun a ae h4=>t2 ae hs hd h0 h1 fun hs hd h0 h1=>?_));refine ai hS (aj hS aUK (aj hS aUJ (ag hS aUF (rl [0,1,2,3,4,5,6] rfl) (ay ah5 hS hs (af ah5.o h0) fun a ae h5=>t3 ae hs hd h0 h1 h4 fun hs hd h0 h1 h4=>?_))));refine ay ah6 hS hs (du ah6.o h5 rfl) fun a ae h6=>t3 ae hs hd h0 h1 h4 fun hs hd h0 h1 h4=>?_;refine ay ah7 hS hs (af ah7.o h6) fun a ae h7=>t3 ae hs hd h0 h1 h4 fun hs hd h0 h1 h4=>?_;have h7:a.eval (.tmp 7)=.bool false:=by rw [h7];simp
 refine mo ah8 rfl h7 hS hs (af ah8.o h1) fun a ae h8=>t4 ae hs hd h0 h1 h4 h7 fun hs hd h0 h1 h4 h7=>?_;refine qK Bd.a (ax (x:=false) Bd.g rfl h7) hS Bd.d (by rw [hs];decide) hT Bd.o (by kernel_rfl) (vl:=.bool true) (fun U n=>?_) (fun w'=>?_) (.bool _) fun a V1 w1 au an ah h9 W1 T1=>?_
 ·simp only [List.map_toArray,List.map_cons,List.map_nil,h8];exact ar1 (.int _ _)
 ·simp only [List.map_toArray,List.map_cons,List.map_nil,h8];refine(Rg.da u w').mono ?_;rintro e cO ⟨rfl,rfl⟩;exact⟨by rw [hu],.refl _⟩
 refine t3 ⟨au,an,ah⟩ hs hd h0 h1 h7 fun hs hd h0 h1 h7=>?_;refine mo ah9 rfl h7 hS hs (kl ah9.o h9) fun a ae aM=>t3 ae hs hd h0 h1 h7 fun hs hd h0 h1 h7=>?_;have aM:a.eval (.tmp 10)=.bool false:=by rw [aM];rfl
 refine ay aia hS hs (bn aia.o h7 (v:=.bool false) aM) fun a ae aH=>t2 ae hs hd h0 h1 fun hs hd h0 h1=>?_;refine ai hS (aX hS aUI aH (q_skip hS aUH (aj hS aLF (ag hS aLD (rl [0,1,2,3] rfl) (ay aic hS hs (af aic.o h0) fun a ae aJ=>t1 ae hs hd h1 fun hs hd h1=>?_)))));refine ay aid hS hs (af aid.o h1) fun a ae aK=>t1 ae hs hd aJ fun hs hd aJ=>?_;refine ay aie hS hs (aBr aie.o aJ aK (by omega)) fun a ae aW=>t0 ae hs hd fun hs hd=>?_
 refine ay aif hS hs (ak aif.o aW) fun a ae h4=>t0 ae hs hd fun hs hd=>?_;have h4:a.eval (.tmp 4)=.int .i64 0:=by rw [h4];simp;rfl
 refine ai hS (dg (b:=base 23) aLE fun todo=>?_);refine dM rT rfl hd func23 rfl ho hdd aU fun a' s' d' n' e'=>K a' V1 w1 W1 T1 s' d' n' (by rw [e'];exact h4)
end
structure Ck(oA:Option Addr)(ns oC:Nat)(jA:Option Addr)(N jC b8 j:Nat)(a:Act):Prop where
 hs:a.tmps.size=43
 hd:a.defers=[]
 h0:a.eval (.tmp 0)=.slice oA ns oC
 h1:a.eval (.tmp 1)=.slice jA N jC
 h8:a.eval (.tmp 8)=.pointer (some ⟨b8,0,none⟩)
 aJ:a.eval (.tmp 12)=.slice jA N jC
 aK:a.eval (.tmp 13)=.int .i64 N
 aW:a.eval (.tmp 14)=.int .i64 j
section
variable {N:Nat} {w:World} {a:Act} {rest:List Nat} {me f t q:Int}
theorem a03(hk:b.kind≠.early)(hc:Ck oA ns oC jA N jC b8 j a)(hB:ba V w b8 (.cells #[.int .i64 me,.int .i64 f,.int .i64 t,.int .i64 q] 34 (0,0)))
  (K:∀a',Ck oA ns oC jA N jC b8 j a'->a'.eval (.tmp 27)=.bool (!(decide (0<=me)&&decide (me<ns)))->Loc prog true Stop V (G (b.at a' (.inRegion dX rest::k)) cs) w):
  Loc prog true Stop V (G (b.at a (.inRegion dX (0::1::2::3::4::5::6::7::8::9::rest)::k)) cs) w:=by
 have hS:=ly hk;obtain⟨hs,hd,h0,h1,h8,aJ,aK,aW⟩:=hc;refine ay ahC hS hs (aB ahC.o h8 underlying34 rfl sizeOf3 (by decide) rfl) fun a ae jL=>t6 ae hs hd h0 h1 h8 aJ aK aW fun hs hd h0 h1 h8 aJ aK aW=>?_
 refine ay ahD hS hs (aL ahD.o jL isAgg3 (hB.cK rfl)) fun a ae dz=>t6 ae hs hd h0 h1 h8 aJ aK aW fun hs hd h0 h1 h8 aJ aK aW=>?_;refine ay ahE hS hs (du ahE.o dz rfl) fun a ae dE=>t6 ae hs hd h0 h1 h8 aJ aK aW fun hs hd h0 h1 h8 aJ aK aW=>?_;refine ay ahF hS hs (af ahF.o dE) fun a ae cD=>t6 ae hs hd h0 h1 h8 aJ aK aW fun hs hd h0 h1 h8 aJ aK aW=>?_;by_cases hm:me<0
 ·have cD:a.eval (.tmp 21)=.bool true:=by rw [cD];simp [hm]
  refine xr wI.a (ax (x:=true) wI.g rfl cD) hS wI.d fun a au an ah=>t7 ⟨au,an,ah⟩ hs hd h0 h1 h8 aJ aK aW cD fun hs hd h0 h1 h8 aJ aK aW cD=>?_;refine xr wJ.a (ax (x:=true) wJ.g rfl cD) hS wJ.d fun a au an ah=>t7 ⟨au,an,ah⟩ hs hd h0 h1 h8 aJ aK aW cD fun hs hd h0 h1 h8 aJ aK aW cD=>?_;refine xr wK.a (ax (x:=true) wK.g rfl cD) hS wK.d fun a au an ah=>t7 ⟨au,an,ah⟩ hs hd h0 h1 h8 aJ aK aW cD fun hs hd h0 h1 h8 aJ aK aW cD=>?_;refine xr wL.a (ax (x:=true) wL.g rfl cD) hS wL.d fun a au an ah=>t7 ⟨au,an,ah⟩ hs hd h0 h1 h8 aJ aK aW cD fun hs hd h0 h1 h8 aJ aK aW cD=>?_;refine xr wM.a (ax (x:=true) wM.g rfl cD) hS wM.d fun a au an ah=>t7 ⟨au,an,ah⟩ hs hd h0 h1 h8 aJ aK aW cD fun hs hd h0 h1 h8 aJ aK aW cD=>?_;refine ay AY hS hs (bn AY.o cD (v:=.bool true) rfl) fun a ae dT=>t7 ae hs hd h0 h1 h8 aJ aK aW cD fun hs hd h0 h1 h8 aJ aK aW cD=>?_;exact K _ ⟨hs,hd,h0,h1,h8,aJ,aK,aW⟩ (by rw [dT,show decide (0<=me)=false from decide_eq_false (by omega)];rfl)
 ·have cD:a.eval (.tmp 21)=.bool false:=by rw [cD];simp;omega
  refine mo wI rfl cD hS hs (aB wI.o h8 underlying34 rfl sizeOf3 (by decide) rfl) fun a ae kE=>t7 ae hs hd h0 h1 h8 aJ aK aW cD fun hs hd h0 h1 h8 aJ aK aW cD=>?_
  refine mo wJ rfl cD hS hs (aL wJ.o kE isAgg3 (hB.cK rfl)) fun a ae ga=>t7 ae hs hd h0 h1 h8 aJ aK aW cD fun hs hd h0 h1 h8 aJ aK aW cD=>?_;refine mo wK rfl cD hS hs (af wK.o h0) fun a ae oi=>t8 ae hs hd h0 h1 h8 aJ aK aW cD ga fun hs hd h0 h1 h8 aJ aK aW cD ga=>?_;refine mo wL rfl cD hS hs (dk wL.o oi underlying22) fun a ae o9=>t8 ae hs hd h0 h1 h8 aJ aK aW cD ga fun hs hd h0 h1 h8 aJ aK aW cD ga=>?_;refine mo wM rfl cD hS hs (aRb wM.o ga o9) fun a ae fe=>t7 ae hs hd h0 h1 h8 aJ aK aW cD fun hs hd h0 h1 h8 aJ aK aW cD=>?_;refine ay AY hS hs (bn AY.o cD (v:=.bool (decide (me>=ns))) fe) fun a ae dT=>t6 ae hs hd h0 h1 h8 aJ aK aW fun hs hd h0 h1 h8 aJ aK aW=>?_;exact K _ ⟨hs,hd,h0,h1,h8,aJ,aK,aW⟩ (by rw [dT,show decide (0<=me)=true from decide_eq_true (by omega)];congr 1;by_cases h:me<ns<;>simp [h]<;>omega)
theorem a04{b1:Bool}(hk:b.kind≠.early)(hT:Tidy V w)(hc:Ck oA ns oC jA N jC b8 j a)(hB:ba V w b8 (.cells #[.int .i64 me,.int .i64 f,.int .i64 t,.int .i64 q] 34 (0,0)))(dT:a.eval (.tmp 27)=.bool b1)
  (K:∀a' V' w',aG aI aD V w V' w'->Tidy V' w'->Ck oA ns oC jA N jC b8 j a'->a'.eval (.tmp 33)=.bool (b1||!Rg.dJ f t)->Loc prog true Stop V' (G (b.at a' (.inRegion dX rest::k)) cs) w'):
  Loc prog true Stop V (G (b.at a (.inRegion dX (10::11::12::13::14::15::rest)::k)) cs) w:=by
 have hS:=ly hk;obtain⟨hs,hd,h0,h1,h8,aJ,aK,aW⟩:=hc;refine ay TJ hS hs (af TJ.o dT) fun a ae cI=>t6 ae hs hd h0 h1 h8 aJ aK aW fun hs hd h0 h1 h8 aJ aK aW=>?_;cases b1 with
 |true=>
  refine xr qy.a (ax (x:=true) qy.g rfl cI) hS qy.d fun a au an ah=>t7 ⟨au,an,ah⟩ hs hd h0 h1 h8 aJ aK aW cI fun hs hd h0 h1 h8 aJ aK aW cI=>?_;refine xr qz.a (ax (x:=true) qz.g rfl cI) hS qz.d fun a au an ah=>t7 ⟨au,an,ah⟩ hs hd h0 h1 h8 aJ aK aW cI fun hs hd h0 h1 h8 aJ aK aW cI=>?_;refine xr kS.a (ax (x:=true) kS.g rfl cI) hS kS.d fun a au an ah=>t7 ⟨au,an,ah⟩ hs hd h0 h1 h8 aJ aK aW cI fun hs hd h0 h1 h8 aJ aK aW cI=>?_;refine xr qA.a (ax (x:=true) qA.g rfl cI) hS qA.d fun a au an ah=>t7 ⟨au,an,ah⟩ hs hd h0 h1 h8 aJ aK aW cI fun hs hd h0 h1 h8 aJ aK aW cI=>?_;refine ay wN hS hs (bn wN.o cI (v:=.bool true) rfl) fun a ae bJ=>t7 ae hs hd h0 h1 h8 aJ aK aW cI fun hs hd h0 h1 h8 aJ aK aW cI=>?_;exact K _ V w (.refl V w) hT ⟨hs,hd,h0,h1,h8,aJ,aK,aW⟩ bJ
 |false=>
  refine mo qy rfl cI hS hs (aB qy.o h8 underlying34 rfl sizeOf32 (by decide) rfl) fun a ae fc=>t7 ae hs hd h0 h1 h8 aJ aK aW cI fun hs hd h0 h1 h8 aJ aK aW cI=>?_
  refine mo qz rfl cI hS hs (eu qz.o fc isAgg32 sizeOf32 (hB.cK rfl) (hB.cK rfl)) fun a ae eK=>t7 ae hs hd h0 h1 h8 aJ aK aW cI fun hs hd h0 h1 h8 aJ aK aW cI=>?_;refine qK kS.a (ax (x:=false) kS.g rfl cI) hS kS.d (by rw [hs];decide) hT kS.o (by kernel_rfl) (vl:=.bool (Rg.dJ f t)) (fun U n=>?_) (fun w'=>?_) (.bool _) fun a V1 w1 au an ah lg W1 T1=>?_
  ·simp only [List.map_toArray,List.map_cons,List.map_nil,eK];exact ar1 ((Flat.Ul (.int _ _) (.int _ _)) U n)
  ·simp only [List.map_toArray,List.map_cons,List.map_nil,eK];exact Rg.gT f t w'
  refine t7 ⟨au,an,ah⟩ hs hd h0 h1 h8 aJ aK aW cI fun hs hd h0 h1 h8 aJ aK aW cI=>?_;refine mo qA rfl cI hS hs (kl qA.o lg) fun a ae bG=>t7 ae hs hd h0 h1 h8 aJ aK aW cI fun hs hd h0 h1 h8 aJ aK aW cI=>?_;refine ay wN hS hs (bn wN.o cI (v:=.bool (!Rg.dJ f t)) bG) fun a ae bJ=>t6 ae hs hd h0 h1 h8 aJ aK aW fun hs hd h0 h1 h8 aJ aK aW=>?_;exact K _ V1 w1 W1 T1 ⟨hs,hd,h0,h1,h8,aJ,aK,aW⟩ (by rw [bJ];rfl)
theorem a05{b2:Bool}(hk:b.kind≠.early)(hc:Ck oA ns oC jA N jC b8 j a)(hB:ba V w b8 (.cells #[.int .i64 me,.int .i64 f,.int .i64 t,.int .i64 q] 34 (0,0)))(bJ:a.eval (.tmp 33)=.bool b2)
  (K:∀a',Ck oA ns oC jA N jC b8 j a'->a'.eval (.tmp 38)=.bool (b2||decide (q< -1))->Loc prog true Stop V (G (b.at a' k) cs) w):
  Loc prog true Stop V (G (b.at a (.inRegion dX (16::17::18::19::20::[])::k)) cs) w:=by
 have hS:=ly hk;obtain⟨hs,hd,h0,h1,h8,aJ,aK,aW⟩:=hc;refine ay TK hS hs (af TK.o bJ) fun a ae cQ=>t6 ae hs hd h0 h1 h8 aJ aK aW fun hs hd h0 h1 h8 aJ aK aW=>?_;cases b2 with
 |true=>
  refine xr qB.a (ax (x:=true) qB.g rfl cQ) hS qB.d fun a au an ah=>t7 ⟨au,an,ah⟩ hs hd h0 h1 h8 aJ aK aW cQ fun hs hd h0 h1 h8 aJ aK aW cQ=>?_;refine xr qC.a (ax (x:=true) qC.g rfl cQ) hS qC.d fun a au an ah=>t7 ⟨au,an,ah⟩ hs hd h0 h1 h8 aJ aK aW cQ fun hs hd h0 h1 h8 aJ aK aW cQ=>?_;refine xr qD.a (ax (x:=true) qD.g rfl cQ) hS qD.d fun a au an ah=>t7 ⟨au,an,ah⟩ hs hd h0 h1 h8 aJ aK aW cQ fun hs hd h0 h1 h8 aJ aK aW cQ=>?_;refine ay wO hS hs (bn wO.o cQ (v:=.bool true) rfl) fun a ae nz=>t7 ae hs hd h0 h1 h8 aJ aK aW cQ fun hs hd h0 h1 h8 aJ aK aW cQ=>?_;exact ai hS (K _ ⟨hs,hd,h0,h1,h8,aJ,aK,aW⟩ nz)
 |false=>
  refine mo qB rfl cQ hS hs (aB qB.o h8 underlying34 rfl sizeOf2 (by decide) rfl) fun a ae iF=>t7 ae hs hd h0 h1 h8 aJ aK aW cQ fun hs hd h0 h1 h8 aJ aK aW cQ=>?_
  refine mo qC rfl cQ hS hs (aL qC.o iF isAgg2 (hB.cK rfl)) fun a ae rh=>t7 ae hs hd h0 h1 h8 aJ aK aW cQ fun hs hd h0 h1 h8 aJ aK aW cQ=>?_;refine mo qD rfl cQ hS hs (du qD.o rh rfl) fun a ae iI=>t7 ae hs hd h0 h1 h8 aJ aK aW cQ fun hs hd h0 h1 h8 aJ aK aW cQ=>?_;refine ay wO hS hs (bn wO.o cQ (v:=.bool (decide (q< -1))) iI) fun a ae nz=>t6 ae hs hd h0 h1 h8 aJ aK aW fun hs hd h0 h1 h8 aJ aK aW=>?_;exact ai hS (K _ ⟨hs,hd,h0,h1,h8,aJ,aK,aW⟩ (by rw [nz];rfl))
end
section
variable {d:Nat} {w:World} {a:Act} {rest:List Nat} {o:Oper}
theorem awt(ns:Nat)(p:Int×Jb):((!(decide (0<=p.1)&&decide (p.1<ns))||!Rg.dJ p.2.f p.2.t)||decide (p.2.q< -1))=!fN ns p:=by
 unfold fN;have:decide (p.2.q< -1)=!decide (-1<=p.2.q):=by
  by_cases h:p.2.q< -1<;>simp [h]<;>omega
 rw [this];cases decide (0<=p.1)<;>cases decide (p.1<(ns:Int))<;>cases Rg.dJ p.2.f p.2.t<;>cases decide (-1<=p.2.q)<;>rfl
structure Ck0(oA:Option Addr)(ns oC:Nat)(jA:Option Addr)(N jC j:Nat)(a:Act):Prop where
 hs:a.tmps.size=43
 hd:a.defers=[]
 h0:a.eval (.tmp 0)=.slice oA ns oC
 h1:a.eval (.tmp 1)=.slice jA N jC
 aJ:a.eval (.tmp 12)=.slice jA N jC
 aK:a.eval (.tmp 13)=.int .i64 N
 aW:a.eval (.tmp 14)=.int .i64 j
theorem aab(hL:L.length<=20)
  (bad:∀a' V' w' todo,L.all (fN ns)=false->aG aI aD V w V' w'->Tidy V' w'->a'.defers=[]->a'.eval (.tmp 6)=.int .i64 1->Loc prog true Stop V' (G {(base 11).at a' todo with mode:=.returning} cs) w')
  (awu:∀a' V' w',L.all (fN ns)=true->aG aI aD V w V' w'->Tidy V' w'->a'.tmps.size=43->a'.defers=[]->a'.eval (.tmp 1)=.slice jA L.length jC->Loc prog true Stop V' (G ((base 11).at a' [.code xZ]) cs) w'):
  ∀(n j:Nat) (a:Act) (V1:View) (w1:World),n=L.length-j->j<=L.length->(L.take j).all (fN ns)=true->aG aI aD V w V1 w1->Tidy V1 w1->l4 L jA V1 w1->Ck0 oA ns oC jA L.length jC j a->
   Loc prog true Stop V1 (G ((base 11).at a (.code xY::.inLoop xY::.inBlock 0::[.code xZ])) cs) w1:=by
 have hS:=bh (P:=prog) (main:=true) (b:=base 11) (by decide)
 intro n;induction n with
 |zero=>
  intro j a V1 w1 hn hj hg W1 T1 hJ hc;obtain rfl:j=L.length:=by omega
  obtain⟨hs,hd,h0,h1,aJ,aK,aW⟩:=hc;refine aj hS at2 (ag hS atT aCW (ay AU hS hs (du AU.o aW aK) fun a ae eS=>t5 ae hs hd h0 h1 aJ aK aW fun hs hd h0 h1 aJ aK aW=>?_));have eS:a.eval (.tmp 15)=.bool false:=by rw [eS];simp
  exact ai hS (aj hS at1 (aX hS atW eS (q_exit hS aLc rfl (awu _ V1 w1 (by simpa using hg) W1 T1 hs hd h1))))
 |succ n ih=>
  intro j a V1 w1 hn hj hg W1 T1 hJ hc;have lO:j<L.length:=by omega
  obtain⟨jb,jo,hA,j0,j1,j2,j3⟩:=hJ j lO;obtain⟨hs,hd,h0,h1,aJ,aK,aW⟩:=hc;refine aj hS at2 (ag hS atT aCW (ay AU hS hs (du AU.o aW aK) fun a ae eS=>t5 ae hs hd h0 h1 aJ aK aW fun hs hd h0 h1 aJ aK aW=>?_));have eS:a.eval (.tmp 15)=.bool true:=by rw [eS];simp;omega
  refine ai hS (aj hS at1 (bY hS atW eS (q_skip hS aLb (aj hS aLn (bV hS aLl (aj hS aLk (ag hS aLd (rl [0,1,2,3] rfl) ?_)))))));rw [hA]at aJ;refine ay ahA hS hs (cT (s:=4) ahA.o aJ aW underlying23 sizeOf34 lO) fun a ae fP=>t5 ae hs hd h0 h1 aJ aK aW fun hs hd h0 h1 aJ aK aW=>?_;rw [←hA]at aJ;refine ay ahB hS hs (vi ahB.o fP isAgg34 sizeOf34 j0 j1 j2 j3) fun a ae bT=>t5 ae hs hd h0 h1 aJ aK aW fun hs hd h0 h1 aJ aK aW=>?_;refine dN AW.a AW.f hS AW.d (by rw [hs];decide) T1 AW.o Tryz.zeroValue34 fun b8 a V2 w2 au an ah h8 W2 g2 B2 T2=>t6 ⟨au,an,ah⟩ hs hd h0 h1 aJ aK aW bT fun hs hd h0 h1 aJ aK aW bT=>?_
  have B2:ba V2 w2 b8 (.cells #[.int .i64 0,.int .i64 0,.int .i64 0,.int .i64 0] 34 (0,0)):=B2;refine gg AX.a AX.f hS AX.d AX.o h8 bT (vs:=[.int .i64 L[j].1,.int .i64 L[j].2.f,.int .i64 L[j].2.t,.int .i64 L[j].2.q]) rfl sizeOf34 (fun u hu=>by simp at hu;rcases hu with rfl|rfl|rfl|rfl<;>rfl) B2 (by simp) T2 fun w3 W3 B3 T3 z3=>?_
  have NB:=W2.fresh W3 g2 T1;refine ai hS (aj hS aLj (ag hS aLe (rl [0,1,2,3,4,5,6,7,8,9,10,11,12,13,14,15,16,17,18,19,20] rfl) (a03 (oA:=oA) (ns:=ns) (oC:=oC) (jA:=jA) (N:=L.length) (jC:=jC) (b8:=b8) (j:=j) (b:=base 11) (by decide) ⟨hs,hd,h0,h1,h8,aJ,aK,aW⟩ B3 fun a hc dT=>?_)))
  refine a04 (b:=base 11) (by decide) T3 hc B3 dT fun a V4 w4 W4 T4 hc bJ=>?_
  refine a05 (b:=base 11) (by decide) hc (B3.go W4) bJ fun a hc nz=>?_
  rw [awt]at nz;obtain⟨hs,hd,h0,h1,h8,aJ,aK,aW⟩:=hc;have W14:=(W1.trans NB).trans W4;cases hgj:fN ns L[j]with
  |false=>
   rw [hgj]at nz;refine bY hS atZ nz (aj hS aLh (ag hS aLf (rl [0] rfl) (ay ahG hS hs (ak ahG.o rfl) fun a ae h6=>t1 ae hs hd aW fun hs hd aW=>?_)));refine ai hS (dg (b:=base 11) aLg fun todo=>bad _ V4 w4 todo ?_ W14 T4 hd h6);cases h:L.all (fN ns)with
   |false=>rfl
   |true=>
    have:=List.all_eq_true.1 h L[j] (List.getElem_mem lO);rw [hgj]at this;cases this
  |true=>
   rw [hgj]at nz;refine aX hS atZ nz (q_skip hS aLi (c7 hS (ag hS aLm (rl [0,1] rfl) (ay ahH hS hs (gQ ahH.o aW rfl) fun a ae im=>t5 ae hs hd h0 h1 aJ aK aW fun hs hd h0 h1 aJ aK aW=>?_))));have im:a.eval (.tmp 39)=.int .i64 ((j+1:Nat):Int):=by rw [im,IntWalk.i64_in _ (by omega)];simp
   refine ay ahI hS hs (af ahI.o im) fun a ae aW=>t4 ae hs hd h0 h1 aJ aK fun hs hd h0 h1 aJ aK=>?_;refine ai hS (dW hS (ih (j+1) _ V4 w4 (by omega) (by omega) ?_ W14 T4 (hJ.go (NB.trans W4)) ⟨hs,hd,h0,h1,aJ,aK,aW⟩))
   rw [List.take_succ_eq_append_getElem lO,List.all_append,hg];simp [hgj]
theorem ER(rT:fg prog true S)(ho:ops[i]? =some o)(hdd:o.dst=some d)(aU:d<a0.tmps.size)(hT:Tidy V w)(hL:L.length<=20)(hu:Rg.fv u=true)(hJ:l4 L jA V w){T:Array Value}(mL:T=#[.slice oA ns oC,.slice jA L.length jC,.int .i64 u]++Array.replicate 40 undef)
  (K:∀a' V' w',aG aI aD V w V' w'->Tidy V' w'->a'.tmps.size=a0.tmps.size->a'.defers=a0.defers->(∀j,d≠j->a'.eval (.tmp j)=a0.eval (.tmp j))->a'.eval (.tmp d)=.int .i64 (if L.all (fN ns)then 0 else 1)->Loc prog true Stop V' (G (S a' (.inRegion ops rest::k0)) cs) w'):
  Loc prog true Stop V (G ((base 11).at {tmps:=T,defers:=[]} [.code TH]) (S a0 (.inRegion ops (i::rest)::k0)::cs)) w:=by
 have hS:=bh (P:=prog) (main:=true) (b:=base 11) (by decide)
 generalize ha:({tmps:=T,defers:=[]}:Act)=a;have hs:a.tmps.size=43:=by subst ha;subst mL;simp
 have hd:a.defers=[]:=by subst ha;rfl
 have h0:a.eval (.tmp 0)=.slice oA ns oC:=by subst ha;subst mL;simp [Act.eval]
 have h1:a.eval (.tmp 1)=.slice jA L.length jC:=by subst ha;subst mL;simp [Act.eval]
 have h2:a.eval (.tmp 2)=.int .i64 u:=by subst ha;subst mL;simp [Act.eval]
 clear ha;refine aj hS aUo (ag hS aUh (rl [0] rfl) (ay ahp hS hs (ak ahp.o rfl) fun a ae h6=>t3 ae hs hd h0 h1 h2 fun hs hd h0 h1 h2=>?_));refine ai hS (aj hS aUn (aj hS aUm (ag hS aUi (rl [0,1,2] rfl) (ay aht hS hs (af aht.o h2) fun a ae h9=>t2 ae hs hd h0 h1 fun hs hd h0 h1=>?_))));refine bI wH.a wH.f hS wH.o func23 (by kernel_rfl) aLG (az8 (u:=u) hS wH.a wH.d (by rw [hs];decide) hT hu (by simp only [List.map_toArray,List.map_cons,List.map_nil,h9];rfl) fun a V1 w1 W1 T1 au an ah aM=>?_)
 refine t2 ⟨au,an,ah⟩ hs hd h0 h1 fun hs hd h0 h1=>?_;refine ay ahu hS hs (du ahu.o aM rfl) fun a ae aH=>t2 ae hs hd h0 h1 fun hs hd h0 h1=>?_;have aH:a.eval (.tmp 11)=.bool false:=by rw [aH];simp
 refine ai hS (aX hS aUl aH (q_skip hS aUk (aj hS aLA (aj hS aLq (ag hS aLa (rl [0,1,2] rfl) (ay ahx hS hs (af ahx.o h1) fun a ae aJ=>t2 ae hs hd h0 h1 fun hs hd h0 h1=>?_))))));refine ay ahy hS hs (dk ahy.o aJ underlying23) fun a ae aK=>t3 ae hs hd h0 h1 aJ fun hs hd h0 h1 aJ=>?_;refine ay ahz hS hs (af ahz.o rfl) fun a ae aW=>t4 ae hs hd h0 h1 aJ aK fun hs hd h0 h1 aJ aK=>?_;refine ai hS (bV hS aLp (iU hS aLo (aab (ns:=ns) (oA:=oA) (oC:=oC) hL (fun a' V' w' todo hb W' T' aV h6=>dM rT rfl aV func11 rfl ho hdd aU fun a2 s2 d2 n2 e2=>K a2 V' w' (W1.trans W') T' s2 d2 n2 (by rw [e2,hb];exact h6)) (fun a V' w' hg W' T' hs hd h1=>?_) L.length 0 _ V1 w1 (by omega) (by omega) (by simp) (.refl _ _) T1 (hJ.go W1) ⟨hs,hd,h0,h1,aJ,aK,aW⟩)))
 refine aj hS aLz (aj hS aLv (ag hS aLr (rl [0,1,2] rfl) (ay ahK hS hs (af ahK.o h1) fun a ae fQ=>t0 ae hs hd fun hs hd=>?_)));refine ay ahL hS hs (dk ahL.o fQ underlying23) fun a ae iT=>t0 ae hs hd fun hs hd=>?_;refine ay ahM hS hs (yo ahM.o iT rfl) fun a ae j8=>t0 ae hs hd fun hs hd=>?_;have j8:a.eval (.tmp 42)=.bool false:=by rw [j8];simp;omega
 refine ai hS (aX hS aLu j8 (q_skip hS aLt (aj hS aLy (ag hS aLw (rl [0] rfl) (ay TL hS hs (ak TL.o rfl) fun a ae h6=>t0 ae hs hd fun hs hd=>?_)))));refine ai hS (dg (b:=base 11) aLx fun todo=>?_);refine dM rT rfl hd func11 rfl ho hdd aU fun a2 s2 d2 n2 e2=>K a2 V' w' (W1.trans W') T' s2 d2 n2 (by rw [e2,hg];exact h6)
end
theorem awv:(prog.info? 39).map (fun i=>(i.zero,i.size,i.bytes))=some (some (.agg #[.slice none 0 0]),1,24):=by kernel_rfl
structure aww(R:RD)(st i:Nat)(n0:Nat)(V:View)(w:World):Prop where
 blk:∃arr,ba V w st (.cells arr 39 (0,0))/\arr.size=R.ns/\∀k,k<i->∃Cs v l,arr[k]? =some v/\Closed V w Cs/\gI w Cs (.agg #[v]) (R.cX k l)/\
  (∀no,no∈l↔∃j,j<R.js.length/\(R.k7 j).1=k/\∃s,1<=s/\s<=R.qL j/\no=R.item j s)/\(∀b,Cs b->n0<=b)/\¬Cs st/\R.InS k l
structure Lp5(R:RD)(C gs st:Nat)(ds:List Deferred)(i:Nat)(a:Act):Prop where
 hs:a.tmps.size=49
 hd:a.defers=ds
 aM:a.eval (.tmp 10)=.slice (some ⟨C,0,none⟩) R.js.length R.js.length
 aJ:a.eval (.tmp 12)=.slice (some ⟨st,0,none⟩) R.ns R.ns
 bG:a.eval (.tmp 32)=.slice (some ⟨gs,0,none⟩) R.ns R.ns
 bJ:a.eval (.tmp 33)=.int .i64 R.ns
 cQ:a.eval (.tmp 34)=.int .i64 i
section
variable {st:Nat} {V0:View} {w:World} {a:Act} {ds:List Deferred}
theorem az9(hk:b.kind≠.early)(hT0:Tidy V0 w0)(hA0:After R C gs src n0 V0 w0)(bF:w0.heap.size<=st)(rS:R.ns<=4)
  (K:∀a' V' w',aG aI aD V0 w0 V' w'->Tidy V' w'->aww R st R.ns n0 V' w'->Lp5 R C gs st ds R.ns a'->Loc prog true Stop V' (G (b.at a' k) cs) w'):
  ∀(n i:Nat) (a:Act) (V:View) (w:World),n=R.ns-i->i<=R.ns->aG aI aD V0 w0 V w->Tidy V w->aww R st i n0 V w->Lp5 R C gs st ds i a->
   Loc prog true Stop V (G (b.at a (.code Gt::.inLoop Gt::.inBlock 0::k)) cs) w:=by
 have hS:=ly hk;intro n;induction n with
 |zero=>
  intro i a V w hn hi hW hT hG hc;obtain rfl:i=R.ns:=by omega
  obtain⟨hs,hd,aM,aJ,bG,bJ,cQ⟩:=hc;refine aj hS aCc (ag hS aB7 aSp (ay LF hS hs (du LF.o cQ bJ) fun a ae iF=>t5 ae hs hd aM aJ bG bJ cQ fun hs hd aM aJ bG bJ cQ=>?_));have iF:a.eval (.tmp 35)=.bool false:=by rw [iF];simp
  exact ai hS (aj hS aCb (aX hS aCa iF (q_exit hS aSr rfl (K _ V w hW hT hG ⟨hs,hd,aM,aJ,bG,bJ,cQ⟩))))
 |succ n ih=>
  intro i a V w hn hi hW hT hG hc;have ou:i<R.ns:=by omega
  obtain⟨hs,hd,aM,aJ,bG,bJ,cQ⟩:=hc;have hA:=hA0.go hW;obtain⟨Cs,v,l,q1,q2,q3,q4,q5,q6,q7⟩:=hA0.set i ou;obtain⟨arr,g1,g2,g3⟩:=hG.blk;have hv:∃A c,v=.slice A (R.cX i l).length c:=by
   obtain⟨A,c,e,_⟩:=q2;exact⟨A,c,by simpa using e⟩
  refine aj hS aCc (ag hS aB7 aSp (ay LF hS hs (du LF.o cQ bJ) fun a ae iF=>t5 ae hs hd aM aJ bG bJ cQ fun hs hd aM aJ bG bJ cQ=>?_));have iF:a.eval (.tmp 35)=.bool true:=by rw [iF];simp;omega
  refine ai hS (aj hS aCb (bY hS aCa iF (q_skip hS aSq (aj hS aSx (bV hS aSv (aj hS aSu (ag hS aSs (rl [0,1,2,3,4] rfl) (ay arD hS hs (af arD.o cQ) fun a ae rh=>t5 ae hs hd aM aJ bG bJ cQ fun hs hd aM aJ bG bJ cQ=>?_))))))));refine ay arE hS hs (cT (s:=1) arE.o bG cQ underlying48 sizeOf51 ou) fun a ae iI=>t6 ae hs hd aM aJ bG bJ cQ rh fun hs hd aM aJ bG bJ cQ rh=>?_;rw [Nat.zero_add,Nat.mul_one]at iI;refine ay arF hS hs (aL arF.o iI isAgg51 (hA.elem i ou)) fun a ae nz=>t6 ae hs hd aM aJ bG bJ cQ rh fun hs hd aM aJ bG bJ cQ rh=>?_;refine ay arG hS hs (ak arG.o rh) fun a ae aK=>t6 ae hs hd aM aJ bG bJ cQ nz fun hs hd aM aJ bG bJ cQ nz=>?_;refine ay arH hS hs (ak arH.o nz) fun a ae aW=>t6 ae hs hd aM aJ bG bJ cQ aK fun hs hd aM aJ bG bJ cQ aK=>?_;refine ai hS (ag hS aSt (rl [0,1,2,3,4,5,6,7] rfl) (ay arJ hS hs (af arJ.o aJ) fun a ae im=>t7 ae hs hd aM aJ bG bJ cQ aK aW fun hs hd aM aJ bG bJ cQ aK aW=>?_));refine ay arK hS hs (af arK.o aK) fun a ae fQ=>t7 ae hs hd aM aJ bG bJ cQ aW im fun hs hd aM aJ bG bJ cQ aW im=>?_;refine ay arL hS hs (af arL.o aW) fun a ae iT=>t7 ae hs hd aM aJ bG bJ cQ im fQ fun hs hd aM aJ bG bJ cQ im fQ=>?_;refine ay arM hS hs (bE arM.o iT) fun a ae j8=>t7 ae hs hd aM aJ bG bJ cQ im fQ fun hs hd aM aJ bG bJ cQ im fQ=>?_;refine ay arN hS hs (aB arN.o j8 underlying61 rfl sizeOf39 (by decide) rfl) fun a ae zz=>t7 ae hs hd aM aJ bG bJ cQ im fQ fun hs hd aM aJ bG bJ cQ im fQ=>?_
  refine ay arO hS hs (lz arO.o zz isAgg39 sizeOf39 (q3.go hW)) fun a ae mS=>t7 ae hs hd aM aJ bG bJ cQ im fQ fun hs hd aM aJ bG bJ cQ im fQ=>?_;refine ay arP hS hs (cT (s:=1) arP.o im fQ underlying27 sizeOf39 ou) fun a ae xu=>t6 ae hs hd aM aJ bG bJ cQ mS fun hs hd aM aJ bG bJ cQ mS=>?_;rw [Nat.zero_add,Nat.mul_one]at xu;refine gg LH.a LH.f hS LH.d LH.o xu mS (vs:=[v]) rfl sizeOf39 (fun u hu=>by simp at hu;obtain⟨A,c,rfl⟩:=hv;subst hu;rfl) g1 (by simp;omega) hT fun w3 W3 B3 T3 z3=>ai hS (c7 hS ?_)
  have hW3:aG aI aD V0 w0 V w3:=hW.fresh W3 bF hT0;refine ag hS aSw (rl [0,1] rfl) (ay afd hS hs (gQ afd.o cQ rfl) fun a ae jZ=>t5 ae hs hd aM aJ bG bJ cQ fun hs hd aM aJ bG bJ cQ=>?_);have jZ:a.eval (.tmp 46)=.int .i64 ((i+1:Nat):Int):=by
   rw [jZ,IntWalk.i64_in _ (by omega)];simp
  refine ay afe hS hs (af afe.o jZ) fun a ae cQ=>t4 ae hs hd aM aJ bG bJ fun hs hd aM aJ bG bJ=>?_;refine ai hS (dW hS (ih (i+1) _ V w3 (by omega) (by omega) hW3 T3 ⟨_,B3,by simp [alu,g2],fun x hx=>?_⟩ ⟨hs,hd,aM,aJ,bG,bJ,cQ⟩))
  by_cases e:x=i
  ·subst e;refine⟨Cs,v,l,?_,q1.aC hW3 fun _ _=>id,q2.blocks fun b hb=>⟨hb,hW3.own b (q1 b hb).1 id⟩,q5,q6,fun hc=>?_,q7⟩
   ·show(arr.setIfInBounds x v)[x]? =_
    simp [Array.getElem?_setIfInBounds_self_of_lt (show x<arr.size by omega)]
   ·have:=hT0.low.own _ (q1 st hc).1;omega
  ·obtain⟨Cs',v',l',p1,p2,p3,p4,p5,p6,p7⟩:=g3 x (by omega)
   refine⟨Cs',v',l',?_,p2.aC W3 (fun b hb e=>p6 (e▸hb)),p3.blocks fun b hb=>⟨hb,W3.own b (p2 b hb).1 fun e=>p6 (e▸hb)⟩,p4,p5,p6,p7⟩;show(arr.setIfInBounds i v)[x]? =_
   rw [Array.getElem?_setIfInBounds_ne (Ne.symm e)];exact p1
end
structure yH(R:RD)(oA:Option Addr)(V:View)(w:World):Prop where
 l9:∀k,k<R.ns->∃ob oo,oA=some ⟨ob,oo,none⟩/\iJ V w ⟨ob,oo+k,none⟩ (.slice (R.bs k) (R.iH k).length (R.cp k))
 byt:∀k,k<R.ns->∀b o,R.bs k=some ⟨b,o,none⟩->(R.iH k≠[]->b<w.heap.size)/\∀j x,(R.iH k)[j]? =some x->V.own b/\w.cell? ⟨b,o+j,none⟩=some (dG x)
structure qO(R:RD)(L:List (Int×Jb)):Prop where
 js:R.js=L.map fun p=>(p.1.toNat,p.2)
 ok:L.all (fN R.ns)=true->R.Ok
structure Ran(R:RD)(C st:Nat)(V:View)(w:World)(bc:Go.Loc->Prop)(w1:World)(V':View)(w':World):Prop where
 so:cx bc w1
 hg:prog.globals.size<=w1.heap.size
 size:w.heap.size<=w1.heap.size
 old:∀b,V.own b->b<w.heap.size->nO bc w1 b/\w1.heap[b]? =w.heap[b]?
 aC:aG aI aD (bP bc w1) w1 V' w'
 tidy:Tidy V' w'
 row:∀j,j<R.js.length->∃vo,gX V' w' ⟨C,j*2,none⟩ vo/\gX V' w' ⟨C,j*2+1,none⟩ (.bool (R.whole j))/\Row V' w' 5 1 vo (R.bytes j).length (R.bytes j)
 awx:aww R st R.ns w.heap.size V' w'
 new:w.heap.size<=st
section
variable {d:Nat} {w:World} {rest:List Nat} {o:Oper}
theorem yH.go(h:yH R oA V w)(k:aG aI aD V w V' w'):yH R oA V' w':=by
 refine⟨fun x hx=>?_,fun x hx b o e=>?_⟩
 ·obtain⟨ob,oo,e,s⟩:=h.l9 x hx;exact⟨ob,oo,e,s.go k⟩
 ·obtain⟨h1,h2⟩:=h.byt x hx b o e;refine⟨fun z=>Nat.lt_of_lt_of_le (h1 z) k.size,fun j y hj=>?_⟩;obtain⟨z1,z2⟩:=h2 j y hj;refine⟨k.mine b z1,?_⟩;simp only [World.cell?,k.own b z1 id]at z2⊢;exact z2
theorem akB(hO:yH R oA V w)(hj:R.js=L.map fun p=>(p.1.toNat,p.2))(hJ:l4 L jA V w)(hg:L.all (fN R.ns)=true)(ho:∀jb jo,jA=some ⟨jb,jo,none⟩->0<L.length->V.own jb):nP R oA jA V w:=by
 have hl:R.js.length=L.length:=by rw [hj];simp
 refine⟨hO.l9,hO.byt,fun j aU=>?_,fun jb jo e h=>ho jb jo e (by omega)⟩
 have Wa:j<L.length:=by omega
 obtain⟨jb,jo,e,x0,x1,x2,x3⟩:=hJ j Wa;have a06:R.k7 j=(L[j].1.toNat,L[j].2):=by simp [RD.k7,hj,List.getD_eq_getElem?_getD,List.getElem?_eq_getElem Wa]
 have hgj:=List.all_eq_true.1 hg L[j] (List.getElem_mem Wa);have h0:0<=L[j].1:=by
  unfold fN at hgj;simp only [Bool.and_eq_true,decide_eq_true_eq]at hgj;exact hgj.1.1
 rw [a06];refine⟨jb,jo,e,?_,x1,x2,x3⟩;simp only [Int.toNat_of_nonneg h0];exact x0
set_option maxHeartbeats 1000000 in
theorem GW(rT:fg prog true S)(ho:ops[i]? =some o)(hdd:o.dst=some d)(aU:d<a0.tmps.size)(BC:qO R L)(hu:Rg.fv R.u=true)(hL:L.length<=20)(rS:R.ns<=4)(hg:prog.globals.size<=w0.heap.size)(yG:cx Shun w0)(hW:aG aI aD (bP Shun w0) w0 V w)(hT:Tidy V w)
  (hO:yH R oA V w)(hJ:l4 L jA V w)(cd:∀jb jo,jA=some ⟨jb,jo,none⟩->0<L.length->V.own jb){T:Array Value}
  (hT3:T=#[.slice oA R.ns oC,.slice jA L.length jC,.int .i64 R.u]++Array.replicate 46 undef)
  (bad:∀a' V' w',L.all (fN R.ns)=false->aG aI aD V w V' w'->Tidy V' w'->a'.tmps.size=a0.tmps.size->a'.defers=a0.defers->(∀j,d≠j->a'.eval (.tmp j)=a0.eval (.tmp j))->a'.eval (.tmp d)=.tuple #[.slice none 0 0,.slice none 0 0,.int .i64 1]->fh Q Shun V' (G (S a' (.inRegion ops rest::k0)) cs) w')
  (awu:∀bc w1 V' w' C st a',L.all (fN R.ns)=true->Ran R C st V w bc w1 V' w'->a'.tmps.size=a0.tmps.size->a'.defers=a0.defers->(∀j,d≠j->a'.eval (.tmp j)=a0.eval (.tmp j))->a'.eval (.tmp d)=.tuple #[.slice (some ⟨C,0,none⟩) L.length L.length,.slice (some ⟨st,0,none⟩) R.ns R.ns,.int .i64 0]->fh Q bc V' (G (S a' (.inRegion ops rest::k0)) cs) w'):
  fh Q Shun V (G ((base 5).at {tmps:=T,defers:=[]} [.code aqX]) (S a0 (.inRegion ops (i::rest)::k0)::cs)) w:=by
 have hS:=bh (P:=prog) (main:=true) (b:=base 5) (by decide)
 obtain⟨i39,aNX,aNY,aNZ,aN0⟩:=info_parts awv;have Us:R.js.length=L.length:=by rw [BC.js];simp
 generalize ha:({tmps:=T,defers:=[]}:Act)=a;have hs:a.tmps.size=49:=by subst ha;subst hT3;simp
 have hd:a.defers=[]:=by subst ha;rfl
 have h0:a.eval (.tmp 0)=.slice oA R.ns oC:=by subst ha;subst hT3;simp [Act.eval]
 have h1:a.eval (.tmp 1)=.slice jA L.length jC:=by subst ha;subst hT3;simp [Act.eval]
 have h2:a.eval (.tmp 2)=.int .i64 R.u:=by subst ha;subst hT3;simp [Act.eval]
 clear ha;refine aj hS aZc (ag hS aY4 (rl [0,1,2] rfl) (ay aqY hS hs (ak aqY.o rfl) fun a ae h6=>t3 ae hs hd h0 h1 h2 fun hs hd h0 h1 h2=>?_));refine ay aqZ hS hs (ak aqZ.o rfl) fun a ae h7=>t4 ae hs hd h0 h1 h2 h6 fun hs hd h0 h1 h2 h6=>?_;refine ay aq0 hS hs (ak aq0.o rfl) fun a ae h8=>t5 ae hs hd h0 h1 h2 h6 h7 fun hs hd h0 h1 h2 h6 h7=>?_;refine ai hS (aj hS aZb (aj hS aZa (ag hS aY5 (rl [0,1,2,3,4] rfl) (ay aq1 hS hs (af aq1.o h0) fun a ae eS=>t3 ae hs hd h0 h1 h2 fun hs hd h0 h1 h2=>?_))));refine ay aq2 hS hs (af aq2.o h1) fun a ae fP=>t4 ae hs hd h0 h1 h2 eS fun hs hd h0 h1 h2 eS=>?_;refine ay aq3 hS hs (af aq3.o h2) fun a ae bT=>t5 ae hs hd h0 h1 h2 eS fP fun hs hd h0 h1 h2 eS fP=>?_;refine bI D8.a D8.f hS D8.o func11 (by kernel_rfl) at6 (ER (L:=L) (ns:=R.ns) (oA:=oA) (jA:=jA) (oC:=oC) (jC:=jC) (u:=R.u) hS D8.a D8.d (by rw [hs];decide) hT hL hu hJ (by simp only [List.map_toArray,List.map_cons,List.map_nil,eS,fP,bT];rfl) fun a V1 w1 W1 T1 au an ah jL=>?_)
 refine t3 ⟨au,an,ah⟩ hs hd h0 h1 h2 fun hs hd h0 h1 h2=>?_;refine ay aq4 hS hs (ak aq4.o jL) fun a ae h9=>t3 ae hs hd h0 h1 h2 fun hs hd h0 h1 h2=>?_;refine ai hS (aj hS aY9 (ag hS aY6 (rl [0,1] rfl) (ay aq5 hS hs (af aq5.o h9) fun a ae dz=>t4 ae hs hd h0 h1 h2 h9 fun hs hd h0 h1 h2 h9=>?_)));refine ay aq6 hS hs (eI aq6.o dz rfl) fun a ae dE=>t5 ae hs hd h0 h1 h2 h9 dz fun hs hd h0 h1 h2 h9 dz=>?_;cases fB:L.all (fN R.ns)with
 |false=>
  rw [fB]at h9 dz dE;have dE:a.eval (.tmp 20)=.bool true:=by rw [dE];rfl
  refine ai hS (bY hS aSl dE (aj hS aY8 (ag hS aY7 (rl [0,1,2,3] rfl) (ay aq8 hS hs (af aq8.o h9) fun a ae cD=>t1 ae hs hd h9 fun hs hd h9=>?_))));refine ay aq9 hS hs (ak aq9.o rfl) fun a ae h6=>t2 ae hs hd h9 cD fun hs hd h9 cD=>?_;refine ay ara hS hs (ak ara.o rfl) fun a ae h7=>t3 ae hs hd h9 cD h6 fun hs hd h9 cD h6=>?_;refine ay arb hS hs (ak arb.o cD) fun a ae h8=>t3 ae hs hd h9 h6 h7 fun hs hd h9 h6 h7=>?_;refine ai hS (dg (b:=base 5) aSj fun todo=>?_);refine akA rT rfl hd func5 rfl ho hdd aU fun a2 s2 d2 n2 e2=>bad a2 V1 w1 fB W1 T1 s2 d2 n2 ?_;rw [e2,h6,h7,h8];rfl
 |true=>
  rw [fB]at h9 dz dE;have dE:a.eval (.tmp 20)=.bool false:=by rw [dE];rfl
  refine ai hS (aX hS aSl dE (q_skip hS aSk (aj hS aSG (ag hS aSm (rl [0,1,2,3,4,5,6,7,8] rfl) (ay ard hS hs (af ard.o h0) fun a ae ga=>t2 ae hs hd h1 h2 fun hs hd h1 h2=>?_)))));refine ay arf hS hs (af arf.o h1) fun a ae oi=>t2 ae hs hd h2 ga fun hs hd h2 ga=>?_;refine ay arh hS hs (af arh.o h2) fun a ae o9=>t2 ae hs hd ga oi fun hs hd ga oi=>?_;rw [←Us]at oi;refine bI D9.a D9.f hS D9.o func12 (by kernel_rfl) aqF (EP (R:=R) (oA:=oA) (jA:=jA) (oC:=oC) (jC:=jC) (w0:=w0) hS D9.a D9.d (by rw [hs];decide) (BC.ok fB) rS hg yG (hW.trans W1) T1 (akB (hO.go W1) BC.js (hJ.go W1) fB fun jb jo e h=>W1.mine jb (cd jb jo e h)) (fun bc w2 C gs src a P2 au an ah fe=>?_) (by simp only [List.map_toArray,List.map_cons,List.map_nil,ga,oi,o9];rfl))
  refine dy.loc P2.hg ?_;have T2:=k8 (Shun:=bc) P2.hg;refine t0 ⟨au,an,ah⟩ hs hd fun hs hd=>?_;refine ay ari hS hs (af ari.o fe) fun a ae kE=>t0 ae hs hd fun hs hd=>?_;refine ay arj hS hs (bR arj.o kE rfl) fun a ae dT=>t1 ae hs hd kE fun hs hd kE=>?_;refine ay ark hS hs (bR ark.o kE rfl) fun a ae cI=>t1 ae hs hd dT fun hs hd dT=>?_;refine ay arl hS hs (ak arl.o dT) fun a ae aM=>t1 ae hs hd cI fun hs hd cI=>?_;refine ay arn hS hs (ak arn.o cI) fun a ae aH=>t1 ae hs hd aM fun hs hd aM=>?_;refine ai hS (aj hS aSF (ag hS aSn (rl [0,1,2,3] rfl) (ay arq hS hs (af arq.o aH) fun a ae fc=>t2 ae hs hd aM aH fun hs hd aM aH=>?_)));refine ay ars hS hs (dk ars.o fc underlying48) fun a ae eK=>t2 ae hs hd aM aH fun hs hd aM aH=>?_;refine lB (n:=R.ns) LD.a LD.f hS LD.d (by rw [hs];decide) T2 LD.o eK eK underlying27 aNX aNY (by rw [aN0];omega) (by omega) fun st a V3 w3 au an ah lg W3 g3 B3 T3=>?_
  rw [aNZ]at B3;refine t2 ⟨au,an,ah⟩ hs hd aM aH fun hs hd aM aH=>?_;refine ay art hS hs (ak art.o lg) fun a ae aJ=>t2 ae hs hd aM aH fun hs hd aM aH=>?_;refine ai hS (aj hS aSE (aj hS aSA (ag hS aSo (rl [0,1,2] rfl) (ay arv hS hs (af arv.o aH) fun a ae bG=>t2 ae hs hd aM aJ fun hs hd aM aJ=>?_))));refine ay arw hS hs (dk arw.o bG underlying48) fun a ae bJ=>t3 ae hs hd aM aJ bG fun hs hd aM aJ bG=>?_;refine ay arx hS hs (af arx.o rfl) fun a ae cQ=>t4 ae hs hd aM aJ bG bJ fun hs hd aM aJ bG bJ=>?_;refine ai hS (bV hS aSz (iU hS aSy ?_));have yZ:∀(cs:Array Value) n,(madeCells cs n).size=n:=fun cs n=>by simp [madeCells]
  have bF:w.heap.size<=st:=Nat.le_trans W1.size (Nat.le_trans P2.size g3);refine az9 (R:=R) (C:=C) (gs:=gs) (st:=st) (n0:=w1.heap.size) (src:=src) (ds:=[]) (b:=base 5) (by decide) T2 P2.aft g3 rS (fun a4 V4 w4 W4 T4 G4 hc4=>?_) R.ns 0 a V3 w3 (by omega) (by omega) W3 T3 ⟨_,B3,by rw [yZ,Nat.mul_one],fun k hk=>by omega⟩ ⟨hs,hd,aM,aJ,bG,bJ,cQ⟩
  obtain⟨hs,hd,aM,aJ,bG,bJ,cQ⟩:=hc4;refine aj hS aSD (ag hS aSB (rl [0,1,2,3,4] rfl) (ay afg hS hs (af afg.o aM) fun a ae lV=>t1 ae hs hd aJ fun hs hd aJ=>?_));refine ay afh hS hs (af afh.o aJ) fun a ae E0=>t1 ae hs hd lV fun hs hd lV=>?_;refine ay afi hS hs (ak afi.o lV) fun a ae h6=>t1 ae hs hd E0 fun hs hd E0=>?_;refine ay afj hS hs (ak afj.o E0) fun a ae h7=>t1 ae hs hd h6 fun hs hd h6=>?_;refine ay afk hS hs (ak afk.o rfl) fun a ae h8=>t2 ae hs hd h6 h7 fun hs hd h6 h7=>?_;refine ai hS (dg (b:=base 5) aSC fun todo=>?_);refine akA rT rfl hd func5 rfl ho hdd aU fun a2 s2 d2 n2 e2=>awu bc w2 V4 w4 C st a2 fB ⟨P2.so,P2.hg,Nat.le_trans W1.size P2.size,fun b hb hlb=>?_,W4,T4,fun j hj=>(P2.aft.go W4).row j hj,?_,bF⟩ s2 d2 n2 ?_
  ·obtain⟨x,y⟩:=P2.old b (W1.mine b hb) (Nat.lt_of_lt_of_le hlb W1.size);exact⟨x,y.trans (W1.own b hb id)⟩
  ·obtain⟨arr,y1,y2,y3⟩:=G4.blk;refine⟨arr,y1,y2,fun k hk=>?_⟩;obtain⟨Cs,v,l,z1,z2,z3,z4,z5,z6⟩:=y3 k hk;exact⟨Cs,v,l,z1,z2,z3,z4,fun b hb=>Nat.le_trans W1.size (z5 b hb),z6⟩
  ·rw [e2,h6,h7,h8,Us];rfl
end
structure Lp8(R:RD)(gs i:Nat)(a:Act):Prop where
 hs:a.tmps.size=42
 hd:a.defers=[]
 aH:a.eval (.tmp 11)=.int .i64 0
 cI:a.eval (.tmp 28)=.slice (some ⟨gs,0,none⟩) R.ns R.ns
 fc:a.eval (.tmp 29)=.int .i64 R.ns
 eK:a.eval (.tmp 30)=.int .i64 i
structure aN2(R:RD)(V:View)(w:World)(bc:Go.Loc->Prop)(w1:World):Prop where
 so:cx bc w1
 hg:prog.globals.size<=w1.heap.size
 size:w.heap.size<=w1.heap.size
 old:∀b,V.own b->b<w.heap.size->nO bc w1 b/\w1.heap[b]? =w.heap[b]?
section
variable {d:Nat} {w:World} {rest:List Nat} {o:Oper}
theorem a07(hk:b.kind≠.early)(hT:Tidy V w)(hA:After R C gs src n0 V w)(rS:R.ns<=4)
  (K:∀a',Lp8 R gs R.ns a'->Loc prog true Stop V (G (b.at a' k) cs) w):
  ∀(n i:Nat) (a:Act),n=R.ns-i->i<=R.ns->Lp8 R gs i a->Loc prog true Stop V (G (b.at a (.code Gv::.inLoop Gv::.inBlock 0::k)) cs) w:=by
 have hS:=ly hk;intro n;induction n with
 |zero=>
  intro i a hn hi hc;obtain rfl:i=R.ns:=by omega
  obtain⟨hs,hd,aH,cI,fc,eK⟩:=hc;refine aj hS aCl (ag hS aCg aSM (ay LI hS hs (du LI.o eK fc) fun a ae lg=>t4 ae hs hd aH cI fc eK fun hs hd aH cI fc eK=>?_));have lg:a.eval (.tmp 31)=.bool false:=by rw [lg];simp
  exact ai hS (aj hS aCk (aX hS aCj lg (q_exit hS aSO rfl (K _ ⟨hs,hd,aH,cI,fc,eK⟩))))
 |succ n ih=>
  intro i a hn hi hc;have ou:i<R.ns:=by omega
  obtain⟨hs,hd,aH,cI,fc,eK⟩:=hc;obtain⟨Cs,v,l,q1,q2,q3,q4,q5⟩:=hA.set i ou;refine aj hS aCl (ag hS aCg aSM (ay LI hS hs (du LI.o eK fc) fun a ae lg=>t4 ae hs hd aH cI fc eK fun hs hd aH cI fc eK=>?_));have lg:a.eval (.tmp 31)=.bool true:=by rw [lg];simp;omega
  refine ai hS (aj hS aCk (bY hS aCj lg (q_skip hS aSN (aj hS aSU (bV hS aSS (aj hS aSR (ag hS aSP (rl [0,1,2] rfl) (ay asq hS hs (cT (s:=1) asq.o cI eK underlying48 sizeOf51 ou) fun a ae bG=>t4 ae hs hd aH cI fc eK fun hs hd aH cI fc eK=>?_))))))));rw [Nat.zero_add,Nat.mul_one]at bG;refine ay asr hS hs (aL asr.o bG isAgg51 (hA.elem i ou)) fun a ae bJ=>t4 ae hs hd aH cI fc eK fun hs hd aH cI fc eK=>?_;refine ay ass hS hs (ak ass.o bJ) fun a ae aK=>t4 ae hs hd aH cI fc eK fun hs hd aH cI fc eK=>?_;refine ai hS (ag hS aSQ (rl [0,1,2,3,4,5,6] rfl) (ay asu hS hs (af asu.o aH) fun a ae cQ=>t5 ae hs hd aH cI fc eK aK fun hs hd aH cI fc eK aK=>?_));refine ay asv hS hs (af asv.o aK) fun a ae iF=>t5 ae hs hd aH cI fc eK cQ fun hs hd aH cI fc eK cQ=>?_;refine ay asw hS hs (bE asw.o iF) fun a ae rh=>t5 ae hs hd aH cI fc eK cQ fun hs hd aH cI fc eK cQ=>?_;refine ay asx hS hs (aB asx.o rh underlying61 rfl sizeOf2 (by decide) rfl) fun a ae iI=>t5 ae hs hd aH cI fc eK cQ fun hs hd aH cI fc eK cQ=>?_
  refine ay asy hS hs (aL asy.o iI isAgg2 q4) fun a ae nz=>t5 ae hs hd aH cI fc eK cQ fun hs hd aH cI fc eK cQ=>?_;refine ay asz hS hs (gQ asz.o cQ nz) fun a ae im=>t4 ae hs hd aH cI fc eK fun hs hd aH cI fc eK=>?_;have im:a.eval (.tmp 39)=.int .i64 0:=by rw [im];rfl
  refine ay asA hS hs (ak asA.o im) fun a ae aH=>t3 ae hs hd cI fc eK fun hs hd cI fc eK=>?_;refine ai hS (c7 hS (ag hS aST (rl [0,1] rfl) (ay afu hS hs (gQ afu.o eK rfl) fun a ae fQ=>t4 ae hs hd aH cI fc eK fun hs hd aH cI fc eK=>?_)));have fQ:a.eval (.tmp 40)=.int .i64 ((i+1:Nat):Int):=by
   rw [fQ,IntWalk.i64_in _ (by omega)];simp
  refine ay afv hS hs (af afv.o fQ) fun a ae eK=>t3 ae hs hd aH cI fc fun hs hd aH cI fc=>?_;exact ai hS (dW hS (ih (i+1) _ (by omega) (by omega) ⟨hs,hd,aH,cI,fc,eK⟩))
set_option maxHeartbeats 1000000 in
theorem UR(rT:fg prog true S)(ho:ops[i]? =some o)(hdd:o.dst=some d)(aU:d<a0.tmps.size)(BC:qO R L)(hu:Rg.fv R.u=true)(hL:L.length<=20)(rS:R.ns<=4)(hg:prog.globals.size<=w0.heap.size)(yG:cx Shun w0)(hW:aG aI aD (bP Shun w0) w0 V w)(hT:Tidy V w)
  (hO:yH R oA V w)(hJ:l4 L jA V w)(cd:∀jb jo,jA=some ⟨jb,jo,none⟩->0<L.length->V.own jb)(fB:L.all (fN R.ns)=true){T:Array Value}
  (hT3:T=#[.slice oA R.ns oC,.slice jA L.length jC,.int .i64 R.u]++Array.replicate 39 undef)
  (awu:∀bc w1 a',aN2 R V w bc w1->a'.tmps.size=a0.tmps.size->a'.defers=a0.defers->(∀j,d≠j->a'.eval (.tmp j)=a0.eval (.tmp j))->a'.eval (.tmp d)=.tuple #[.int .i64 0,.int .i64 0]->fh Q bc (bP bc w1) (G (S a' (.inRegion ops rest::k0)) cs) w1):
  fh Q Shun V (G ((base 8).at {tmps:=T,defers:=[]} [.code arT]) (S a0 (.inRegion ops (i::rest)::k0)::cs)) w:=by
 have hS:=bh (P:=prog) (main:=true) (b:=base 8) (by decide)
 have Us:R.js.length=L.length:=by rw [BC.js];simp
 generalize ha:({tmps:=T,defers:=[]}:Act)=a;have hs:a.tmps.size=42:=by subst ha;subst hT3;simp
 have hd:a.defers=[]:=by subst ha;rfl
 have h0:a.eval (.tmp 0)=.slice oA R.ns oC:=by subst ha;subst hT3;simp [Act.eval]
 have h1:a.eval (.tmp 1)=.slice jA L.length jC:=by subst ha;subst hT3;simp [Act.eval]
 have h2:a.eval (.tmp 2)=.int .i64 R.u:=by subst ha;subst hT3;simp [Act.eval]
 clear ha;refine aj hS aZl (ag hS aZd (rl [0,1] rfl) (ay arU hS hs (ak arU.o rfl) fun a ae h6=>t3 ae hs hd h0 h1 h2 fun hs hd h0 h1 h2=>?_));refine ay arV hS hs (ak arV.o rfl) fun a ae h7=>t4 ae hs hd h0 h1 h2 h6 fun hs hd h0 h1 h2 h6=>?_;refine ai hS (aj hS aZk (aj hS aZj (ag hS aZe (rl [0,1,2,3,4] rfl) (ay arW hS hs (af arW.o h0) fun a ae aW=>t3 ae hs hd h0 h1 h2 fun hs hd h0 h1 h2=>?_))));refine ay arX hS hs (af arX.o h1) fun a ae eS=>t4 ae hs hd h0 h1 h2 aW fun hs hd h0 h1 h2 aW=>?_;refine ay arY hS hs (af arY.o h2) fun a ae fP=>t5 ae hs hd h0 h1 h2 aW eS fun hs hd h0 h1 h2 aW eS=>?_;refine bI Ea.a Ea.f hS Ea.o func11 (by kernel_rfl) at6 (ER (L:=L) (ns:=R.ns) (oA:=oA) (jA:=jA) (oC:=oC) (jC:=jC) (u:=R.u) hS Ea.a Ea.d (by rw [hs];decide) hT hL hu hJ (by simp only [List.map_toArray,List.map_cons,List.map_nil,aW,eS,fP];rfl) fun a V1 w1 W1 T1 au an ah bT=>?_)
 refine t3 ⟨au,an,ah⟩ hs hd h0 h1 h2 fun hs hd h0 h1 h2=>?_;refine ay arZ hS hs (ak arZ.o bT) fun a ae h8=>t3 ae hs hd h0 h1 h2 fun hs hd h0 h1 h2=>?_;refine ai hS (aj hS aZi (ag hS aZf (rl [0,1] rfl) (ay ar0 hS hs (af ar0.o h8) fun a ae jL=>t4 ae hs hd h0 h1 h2 h8 fun hs hd h0 h1 h2 h8=>?_)));refine ay ar4 hS hs (eI ar4.o jL rfl) fun a ae dz=>t5 ae hs hd h0 h1 h2 h8 jL fun hs hd h0 h1 h2 h8 jL=>?_;rw [fB]at h8 jL dz;have dz:a.eval (.tmp 19)=.bool false:=by rw [dz];rfl
 refine ai hS (aX hS aZh dz (q_skip hS aSH (aj hS aS3 (ag hS aSI (rl [0,1,2,3,4,5,6,7,8] rfl) (ay ar6 hS hs (af ar6.o h0) fun a ae kE=>t2 ae hs hd h1 h2 fun hs hd h1 h2=>?_)))));refine ay ar7 hS hs (af ar7.o h1) fun a ae ga=>t2 ae hs hd h2 kE fun hs hd h2 kE=>?_;refine ay ar8 hS hs (af ar8.o h2) fun a ae oi=>t2 ae hs hd kE ga fun hs hd kE ga=>?_;rw [←Us]at ga;refine bI Eb.a Eb.f hS Eb.o func12 (by kernel_rfl) aqF (EP (R:=R) (oA:=oA) (jA:=jA) (oC:=oC) (jC:=jC) (w0:=w0) hS Eb.a Eb.d (by rw [hs];decide) (BC.ok fB) rS hg yG (hW.trans W1) T1 (akB (hO.go W1) BC.js (hJ.go W1) fB fun jb jo e h=>W1.mine jb (cd jb jo e h)) (fun bc w2 C gs src a P2 au an ah o9=>?_) (by simp only [List.map_toArray,List.map_cons,List.map_nil,kE,ga,oi];rfl))
 refine dy.loc P2.hg ?_;have T2:=k8 (Shun:=bc) P2.hg;refine t0 ⟨au,an,ah⟩ hs hd fun hs hd=>?_;refine ay ar9 hS hs (af ar9.o o9) fun a ae cD=>t0 ae hs hd fun hs hd=>?_;refine ay asa hS hs (bR asa.o cD rfl) fun a ae fe=>t1 ae hs hd cD fun hs hd cD=>?_;refine ay asb hS hs (bR asb.o cD rfl) fun a ae dT=>t1 ae hs hd fe fun hs hd fe=>?_;refine ay asc hS hs (ak asc.o fe) fun a ae h9=>t1 ae hs hd dT fun hs hd dT=>?_;refine ay asd hS hs (ak asd.o dT) fun a ae aM=>t0 ae hs hd fun hs hd=>?_;refine ai hS (aj hS aS2 (ag hS aSK (rl [0] rfl) (ay asf hS hs (ak asf.o rfl) fun a ae aH=>t1 ae hs hd aM fun hs hd aM=>?_)));refine ai hS (aj hS aS1 (aj hS aSX (ag hS aSL (rl [0,1,2] rfl) (ay ash hS hs (af ash.o aM) fun a ae cI=>t1 ae hs hd aH fun hs hd aH=>?_))));refine ay asi hS hs (dk asi.o cI underlying48) fun a ae fc=>t2 ae hs hd aH cI fun hs hd aH cI=>?_;refine ay asj hS hs (af asj.o rfl) fun a ae eK=>t3 ae hs hd aH cI fc fun hs hd aH cI fc=>?_;refine ai hS (bV hS aSW (iU hS aSV (a07 (b:=base 8) (by decide) T2 P2.aft rS (fun a4 hc4=>?_) R.ns 0 a (by omega) (by omega) ⟨hs,hd,aH,cI,fc,eK⟩)))
 obtain⟨hs,hd,aH,cI,fc,eK⟩:=hc4;refine aj hS aS0 (ag hS aSY (rl [0,1,2] rfl) (ay afy hS hs (af afy.o aH) fun a ae iT=>t0 ae hs hd fun hs hd=>?_));refine ay afz hS hs (ak afz.o iT) fun a ae h6=>t0 ae hs hd fun hs hd=>?_;refine ay afA hS hs (ak afA.o rfl) fun a ae h7=>t1 ae hs hd h6 fun hs hd h6=>?_;refine ai hS (dg (b:=base 8) aSZ fun todo=>?_);refine NF rT rfl hd func8 rfl ho hdd aU fun a2 s2 d2 n2 e2=>awu bc w2 a2 ⟨P2.so,P2.hg,Nat.le_trans W1.size P2.size,fun b hb hlb=>?_⟩ s2 d2 n2 ?_
 ·obtain⟨x,y⟩:=P2.old b (W1.mine b hb) (Nat.lt_of_lt_of_le hlb W1.size);exact⟨x,y.trans (W1.own b hb id)⟩
 ·rw [e2,h6,h7];rfl
end
theorem aN3{V:View}{w:World}{o:Oper}{a:Act}{x y:Operand}{p q p' q':Int}(aE:o.op=.binOp .neq 32 x y 32)(hx:a.eval x=.agg #[.int .i64 p,.int .i64 q])(hy:a.eval y=.agg #[.int .i64 p',.int .i64 q']):Yl prog V w o a (.bool (!(p==p'&&q==q'))):=by
 have hg:prog.eqGuardType prog.depth 32=false:=by kernel_rfl
 have e1:=aWk p q p' q';have e2:=fun w es=>aWl 9998 p q p' q' w es;refine .pure fun w₁=>⟨?_,?_⟩
 ·simp [execOp,aE,hx,hy,run_eqGuard_agg,hg,run_neq_struct,e1]
 ·simp [execOp,aE,hx,hy,eqGuard,hg,binOp,Op.equal,Op.maxDepth,e2,e1]
def iC(l:List Rg.Sp)(A:Option Addr)(V:View)(w:World):Prop:=
 ∀j (hj:j<l.length),∃b o,A=some ⟨b,o,none⟩/\iJ V w ⟨b,o+j*2,none⟩ (.int .i64 l[j].f)/\iJ V w ⟨b,o+j*2+1,none⟩ (.int .i64 l[j].t)
section
variable {l:List Rg.Sp} {d:Nat} {w:World} {a:Act} {rest:List Nat} {o:Oper} {C:Nat->Prop} {va:Value}
theorem iC.go(h:iC l A V w)(k:aG aI aD V w V' w'):iC l A V' w':=fun j hj=>by
 obtain⟨b,o,e,x,y⟩:=h j hj;exact⟨b,o,e,x.go k,y.go k⟩
theorem gI.cK(h:gI w C va l)(hC:Closed V w C):∃A c,va=.agg #[.slice A l.length c]/\iC l A V w:=by
 obtain⟨A,c,e,h1,h2⟩:=h;refine⟨A,c,e,fun j hj=>?_⟩;obtain⟨b,o,e1,p0,p1⟩:=h1 j hj;have ho:=(hC b (h2 _ e1)).1;exact⟨b,o,e1,⟨.inl ho,p0⟩,⟨.inl ho,p1⟩⟩
structure aN4(l:List Rg.Sp)(A B:Option Addr)(cA cB j:Nat)(a:Act):Prop where
 hs:a.tmps.size=26
 hd:a.defers=[]
 h0:a.eval (.tmp 0)=.slice A l.length cA
 h1:a.eval (.tmp 1)=.slice B l.length cB
 aJ:a.eval (.tmp 12)=.int .i64 l.length
 aK:a.eval (.tmp 13)=.int .i64 j
theorem aac(hl:l.length<=1000)
  (K:∀a' V' w',aG aI aD V w V' w'->Tidy V' w'->aN4 l A B cA cB l.length a'->Loc prog true Stop V' (G ((base 14).at a' [.code ya]) cs) w'):
  ∀(n j:Nat) (a:Act) (V1:View) (w1:World),n=l.length-j->j<=l.length->aG aI aD V w V1 w1->Tidy V1 w1->iC l A V1 w1->iC l B V1 w1->aN4 l A B cA cB j a->
   Loc prog true Stop V1 (G ((base 14).at a (.code x9::.inLoop x9::.inBlock 0::[.code ya])) cs) w1:=by
 have hS:=bh (P:=prog) (main:=true) (b:=base 14) (by decide)
 intro n;induction n with
 |zero=>
  intro j a V1 w1 hn hj W1 hT hA hB hc;obtain rfl:j=l.length:=by omega
  obtain⟨hs,hd,h0,h1,aJ,aK⟩:=hc;refine aj hS auC (ag hS aut aC5 (ay Be hS hs (du Be.o aK aJ) fun a ae aW=>t4 ae hs hd h0 h1 aJ aK fun hs hd h0 h1 aJ aK=>?_));have aW:a.eval (.tmp 14)=.bool false:=by rw [aW];simp
  exact ai hS (aj hS auB (aX hS auw aW (q_exit hS aLL rfl (K _ V1 w1 W1 hT ⟨hs,hd,h0,h1,aJ,aK⟩))))
 |succ n ih=>
  intro j a V1 w1 hn hj W1 hT hA hB hc;have lO:j<l.length:=by omega
  obtain⟨hs,hd,h0,h1,aJ,aK⟩:=hc;obtain⟨ab,ao,eA,a1,a2⟩:=hA j lO;obtain⟨bb,bo,eB,b1,b2⟩:=hB j lO;subst eA eB;refine aj hS auC (ag hS aut aC5 (ay Be hS hs (du Be.o aK aJ) fun a ae aW=>t4 ae hs hd h0 h1 aJ aK fun hs hd h0 h1 aJ aK=>?_));have aW:a.eval (.tmp 14)=.bool true:=by rw [aW];simp;omega
  refine ai hS (aj hS auB (bY hS auw aW (q_skip hS aLK (aj hS aLV (bV hS aLT (aj hS aLS (ag hS aLM (rl [0,1] rfl) (ay aiu hS hs (af aiu.o aK) fun a ae eS=>t4 ae hs hd h0 h1 aJ aK fun hs hd h0 h1 aJ aK=>?_))))))));refine ay aiv hS hs (ak aiv.o eS) fun a ae h5=>t4 ae hs hd h0 h1 aJ aK fun hs hd h0 h1 aJ aK=>?_;refine ai hS (aj hS aLR (ye hS aLN [16,17,18,19,20,21,22,23] [.val (.slice (some ⟨ab,ao,none⟩) l.length cA),.val (.int .i64 j),.val (.pointer (some ⟨ab,ao+j*2,none⟩)),.val (.agg #[.int .i64 l[j].f,.int .i64 l[j].t]),.val (.slice (some ⟨bb,bo,none⟩) l.length cB),.val (.int .i64 j),.val (.pointer (some ⟨bb,bo+j*2,none⟩)),.val (.agg #[.int .i64 l[j].f,.int .i64 l[j].t])] [(0,.slice (some ⟨ab,ao,none⟩) l.length cA),(1,.slice (some ⟨bb,bo,none⟩) l.length cB),(5,.int .i64 j),(12,.int .i64 l.length),(13,.int .i64 j)] 8 rfl (by kernel_rfl) wQ.a (fu:=8) (by kernel_rfl) rfl rfl (by decide) (by simp) (fun a' V' w'=>aG aI aD V1 w1 V' w'/\Tidy V' w'/\aN4 l (some ⟨ab,ao,none⟩) (some ⟨bb,bo,none⟩) cA cB j a'/\a'.eval (.tmp 24)=.bool false) (by simp [h0,h1,h5,aJ,aK]) hT ?_ ?_ ?_))
  ·intro i d s o rest hi aV aZ ho aa VV ww hB hI K;match i,hi with
   |0,_=>
    cases aV;cases aZ;obtain rfl:=MJ.w ho;have h0:=hB.sl 0 rfl;exact cU MJ hS hB hs (af MJ.o h0) K
   |1,_=>
    cases aV;cases aZ;obtain rfl:=ML.w ho;have h5:=hB.sl 5 rfl;exact cU ML hS hB hs (af ML.o h5) K
   |2,_=>
    cases aV;cases aZ;obtain rfl:=MM.w ho;have fP:=hI.av 0;have bT:=hI.av 1;exact cU MM hS hB hs (cT (s:=2) MM.o fP bT underlying37 sizeOf32 lO) K
   |3,_=>
    cases aV;cases aZ;obtain rfl:=MN.w ho;have jL:=hI.av 2;exact cU MN hS hB hs (eu MN.o jL isAgg32 sizeOf32 (a1.go hB.aC) (a2.go hB.aC)) K
   |4,_=>
    cases aV;cases aZ;obtain rfl:=MO.w ho;have h1:=hB.sl 1 rfl;exact cU MO hS hB hs (af MO.o h1) K
   |5,_=>
    cases aV;cases aZ;obtain rfl:=MP.w ho;have h5:=hB.sl 5 rfl;exact cU MP hS hB hs (af MP.o h5) K
   |6,_=>
    cases aV;cases aZ;obtain rfl:=MQ.w ho;have dE:=hI.av 4;have cD:=hI.av 5;exact cU MQ hS hB hs (cT (s:=2) MQ.o dE cD underlying37 sizeOf32 lO) K
   |7,_=>
    cases aV;cases aZ;obtain rfl:=MS.w ho;have kE:=hI.av 6;exact cU MS hS hB hs (eu MS.o kE isAgg32 sizeOf32 (b1.go hB.aC) (b2.go hB.aC)) K
   |n+8,hn=>exact absurd hn (by omega)
  ·intro rest aa VV ww hB hI K;have dz:aa.eval (.tmp 19)=(.agg #[.int .i64 l[j].f,.int .i64 l[j].t]):=hI.all 3 19 (.val (.agg #[.int .i64 l[j].f,.int .i64 l[j].t])) (by decide) rfl rfl
   have ga:aa.eval (.tmp 23)=(.agg #[.int .i64 l[j].f,.int .i64 l[j].t]):=hI.all 7 23 (.val (.agg #[.int .i64 l[j].f,.int .i64 l[j].t])) (by decide) rfl rfl
   refine zw wQ.a wQ.f hS wQ.d (by rw [hB.size,hs];decide) (aN3 wQ.o dz ga) fun a' au an ah oi=>K a' _ _ ⟨hB.aC,hB.tidy,⟨au.trans (hB.size.trans hs),an.trans (hB.defers.trans hd),(ah 0 (by decide)).trans (hB.slot 0 _ (by simp)),(ah 1 (by decide)).trans (hB.slot 1 _ (by simp)),(ah 12 (by decide)).trans (hB.slot 12 _ (by simp)),(ah 13 (by decide)).trans (hB.slot 13 _ (by simp))⟩,by rw [oi];simp⟩
  ·skip;rintro a4 V4 w4 ⟨W4,T4,⟨hs,hd,h0,h1,aJ,aK⟩,oi⟩;generalize a4=a at*;refine aX hS aLQ oi (q_skip hS aLP (c7 hS (ag hS aLU (rl [0,1] rfl) (ay aiw hS hs (gQ aiw.o aK rfl) fun a ae o9=>t4 ae hs hd h0 h1 aJ aK fun hs hd h0 h1 aJ aK=>?_))));have o9:a.eval (.tmp 25)=.int .i64 ((j+1:Nat):Int):=by
    rw [o9,IntWalk.i64_in _ (by omega)];simp
   refine ay aix hS hs (af aix.o o9) fun a ae aK=>t3 ae hs hd h0 h1 aJ fun hs hd h0 h1 aJ=>?_;exact ai hS (dW hS (ih (j+1) _ V4 w4 (by omega) (by omega) (W1.trans W4) T4 (hA.go W4) (hB.go W4) ⟨hs,hd,h0,h1,aJ,aK⟩))
end
section
variable {l:List Rg.Sp} {d:Nat} {w:World} {a:Act} {rest:List Nat} {o:Oper}
theorem aad(rT:fg prog true S)(ho:ops[i]? =some o)(hdd:o.dst=some d)(aU:d<a0.tmps.size)(hT:Tidy V w)(hl:l.length<=1000)(hA:iC l A V w)(hB:iC l B V w){T:Array Value}(mL:T=#[.slice A l.length cA,.slice B l.length cB]++Array.replicate 24 undef)
  (K:∀a' V' w',aG aI aD V w V' w'->Tidy V' w'->a'.tmps.size=a0.tmps.size->a'.defers=a0.defers->(∀j,d≠j->a'.eval (.tmp j)=a0.eval (.tmp j))->a'.eval (.tmp d)=.bool true->Loc prog true Stop V' (G (S a' (.inRegion ops rest::k0)) cs) w'):
  Loc prog true Stop V (G ((base 14).at {tmps:=T,defers:=[]} [.code TQ]) (S a0 (.inRegion ops (i::rest)::k0)::cs)) w:=by
 have hS:=bh (P:=prog) (main:=true) (b:=base 14) (by decide)
 generalize ha:({tmps:=T,defers:=[]}:Act)=a;have hs:a.tmps.size=26:=by subst ha;subst mL;simp
 have hd:a.defers=[]:=by subst ha;rfl
 have h0:a.eval (.tmp 0)=.slice A l.length cA:=by subst ha;subst mL;simp [Act.eval]
 have h1:a.eval (.tmp 1)=.slice B l.length cB:=by subst ha;subst mL;simp [Act.eval]
 clear ha;refine aj hS aUV (ag hS aUO (rl [0] rfl) (ay aih hS hs (ak aih.o rfl) fun a ae h4=>t2 ae hs hd h0 h1 fun hs hd h0 h1=>?_));refine ai hS (aj hS aUU (aj hS aUT (ag hS aUP (rl [0,1,2,3,4] rfl) (ay aik hS hs (af aik.o h0) fun a ae h6=>t2 ae hs hd h0 h1 fun hs hd h0 h1=>?_))));refine ay ail hS hs (dk ail.o h6 underlying37) fun a ae h7=>t2 ae hs hd h0 h1 fun hs hd h0 h1=>?_;refine ay aim hS hs (af aim.o h1) fun a ae h8=>t3 ae hs hd h0 h1 h7 fun hs hd h0 h1 h7=>?_;refine ay ain hS hs (dk ain.o h8 underlying37) fun a ae h9=>t3 ae hs hd h0 h1 h7 fun hs hd h0 h1 h7=>?_;refine ay aio hS hs (eI aio.o h7 h9) fun a ae aM=>t2 ae hs hd h0 h1 fun hs hd h0 h1=>?_;have aM:a.eval (.tmp 10)=.bool false:=by rw [aM];simp
 refine ai hS (aX hS aUS aM (q_skip hS aUR (aj hS aL2 (aj hS aLY (ag hS aLJ (rl [0,1,2] rfl) (ay air hS hs (af air.o h0) fun a ae aH=>t2 ae hs hd h0 h1 fun hs hd h0 h1=>?_))))));refine ay ais hS hs (dk ais.o aH underlying37) fun a ae aJ=>t2 ae hs hd h0 h1 fun hs hd h0 h1=>?_;refine ay ait hS hs (af ait.o rfl) fun a ae aK=>t3 ae hs hd h0 h1 aJ fun hs hd h0 h1 aJ=>?_;refine ai hS (bV hS aLX (iU hS aLW (aac hl (fun a V' w' W' T' hc=>?_) l.length 0 _ V w (by omega) (by omega) (.refl _ _) hT hA hB ⟨hs,hd,h0,h1,aJ,aK⟩)))
 obtain⟨hs,hd,h0,h1,aJ,aK⟩:=hc;refine aj hS aL1 (ag hS aLZ (rl [0] rfl) (ay aiy hS hs (ak aiy.o rfl) fun a ae h4=>t0 ae hs hd fun hs hd=>?_));refine ai hS (dg (b:=base 14) aL0 fun todo=>?_);exact dM rT rfl hd func14 rfl ho hdd aU fun a2 s2 d2 n2 e2=>K a2 V' w' W' T' s2 d2 n2 (by rw [e2];exact h4)
theorem amd(rT:fg prog true S)(ho:ops[i]? =some o)(hdd:o.dst=some d)(aU:d<a0.tmps.size)(hT:Tidy V w)(hl:l.length<=1000)(hA:iC l A V w)(hB:iC l B V w){T:Array Value}(mL:T=#[.agg #[.slice A l.length cA],.agg #[.slice B l.length cB]]++Array.replicate 8 undef)
  (K:∀a' V' w',aG aI aD V w V' w'->Tidy V' w'->a'.tmps.size=a0.tmps.size->a'.defers=a0.defers->(∀j,d≠j->a'.eval (.tmp j)=a0.eval (.tmp j))->a'.eval (.tmp d)=.bool true->Loc prog true Stop V' (G (S a' (.inRegion ops rest::k0)) cs) w'):
  Loc prog true Stop V (G ((base 7).at {tmps:=T,defers:=[]} [.code auj]) (S a0 (.inRegion ops (i::rest)::k0)::cs)) w:=by
 have hS:=bh (P:=prog) (main:=true) (b:=base 7) (by decide)
 generalize ha:({tmps:=T,defers:=[]}:Act)=a;have hs:a.tmps.size=10:=by subst ha;subst mL;simp
 have hd:a.defers=[]:=by subst ha;rfl
 have h0:a.eval (.tmp 0)=.agg #[.slice A l.length cA]:=by subst ha;subst mL;simp [Act.eval]
 have h1:a.eval (.tmp 1)=.agg #[.slice B l.length cB]:=by subst ha;subst mL;simp [Act.eval]
 clear ha;refine aj hS aZz (ag hS aZv (rl [0,1,2] rfl) (pg Mz.a Mz.f hS Mz.d (by rw [hs];decide) hT Mz.o h0 fun n2 a V1 w1 au an ah h2 W1 g1 B1 T1=>t1 ⟨au,an,ah⟩ hs hd h1 fun hs hd h1=>?_))
 refine pg MA.a MA.f hS MA.d (by rw [hs];decide) T1 MA.o h1 fun n3 a V2 w2 au an ah h3 W2 g2 B2 T2=>t1 ⟨au,an,ah⟩ hs hd h2 fun hs hd h2=>?_
 have B1:ba V2 w2 n2 (.cells #[.slice A l.length cA] 39 (0,0)):=B1.go W2;have B2:ba V2 w2 n3 (.cells #[.slice B l.length cB] 39 (0,0)):=B2;refine ay auk hS hs (ak auk.o rfl) fun a ae h4=>t2 ae hs hd h2 h3 fun hs hd h2 h3=>?_;refine ai hS (aj hS aZy (ag hS aZw (rl [0,1,2,3,4,5] rfl) (ay aul hS hs (aB aul.o h2 underlying39 rfl sizeOf37 (by decide) rfl) fun a ae h5=>t1 ae hs hd h3 fun hs hd h3=>?_)))
 refine ay aum hS hs (aL aum.o h5 isAgg37 (B1.cK rfl)) fun a ae h6=>t1 ae hs hd h3 fun hs hd h3=>?_;refine ay aun hS hs (aB aun.o h3 underlying39 rfl sizeOf37 (by decide) rfl) fun a ae h7=>t1 ae hs hd h6 fun hs hd h6=>?_
 refine ay auo hS hs (aL auo.o h7 isAgg37 (B2.cK rfl)) fun a ae h8=>t1 ae hs hd h6 fun hs hd h6=>?_;refine bI Ep.a Ep.f hS Ep.o func14 (by kernel_rfl) aL3 (aad (l:=l) (A:=A) (B:=B) (cA:=cA) (cB:=cB) hS Ep.a Ep.d (by rw [hs];decide) T2 hl ((hA.go W1).go W2) ((hB.go W1).go W2) (by simp only [List.map_toArray,List.map_cons,List.map_nil,h6,h8];rfl) fun a V3 w3 W3 T3 au an ah h9=>?_)
 refine t0 ⟨au,an,ah⟩ hs hd fun hs hd=>?_;refine ay aup hS hs (ak aup.o h9) fun a ae h4=>t0 ae hs hd fun hs hd=>?_;refine ai hS (dg (b:=base 7) aZx fun todo=>?_);exact dM rT rfl hd func7 rfl ho hdd aU fun a2 s2 d2 n2 e2=>K a2 V3 w3 ((W1.trans W2).trans W3) T3 s2 d2 n2 (by rw [e2];exact h4)
end
open Go.ConcN (sumTo upd upd_same upd_ne sumTo_upd sumTo_congr WgLive le_sumTo)
section
variable {a:Goroutine} {w:World}
theorem dy.one{V:View}(hd0:V.deaf=0)(hA:Apart V (cW Shun))(gj:mP V w.heap.size)(cr:a.status=.running)
  (h:∀d,∃g' w' es V',stepG prog true a (w.at d)=.go g' w' es/\w.heap.size<=w'.heap.size/\V'=V.grow (fun b=>w.heap.size<=b/\b<w'.heap.size) 0/\deafBehind 0 es=0/\(∀e∈es,EvV V' e)/\jy w w'/\dy Q Shun g' w'):dy Q Shun a w:=by
 have main:∀M (d0:Nat) gs sl t q,Fr Shun gs a (w.at d0) 0 t q->sumTo gs.size q=M->∃n fx a' w' r9 t' q' bc,runNT prog n (crowd gs (w.at d0) sl) t=(.next (crowd fx w' r9),t')/\Fr bc fx a' w' 0 t' q'/\Q bc a' w'/\jy w w':=by
  intro M;induction M using Nat.strongRecOn with
  |_ M ihM=>
   intro d0 gs sl t q hF hM;obtain⟨h0,hL,hP,hC⟩:=hF;have haw:∀g∈gs,awake g:=by
    intro g hg;obtain⟨i,hi,rfl⟩:=Array.mem_iff_getElem.1 hg;rcases Nat.eq_zero_or_pos i with rfl|dZ
    ·have:gs[0]=a:=by simpa [Array.getElem?_eq_getElem hi]using h0
     rw [this];exact awake_of (.inl cr)
    ·exact awake_of ((hL.old i _ dZ (Array.getElem?_eq_getElem hi)).status.elim .inl fun x=>.inr (.inr x))
   obtain⟨i,g,d,r9,hi,hg,bF⟩:=crowd_pick (P:=prog) (w:=w.at d0) (sl:=sl) haw ⟨0,a,h0,cr⟩;have aU:i<gs.size:=(Array.getElem?_eq_some_iff.1 hi).1;have de:∀(g g':Goroutine) (w':World) (j:Nat) (y:Goroutine),0<j->gs[j]? =some y->woken prog g g' w' y=y:=fun g g' w' j y hj hy=>woken_quitsD (hL.old j y hj hy);rcases Nat.eq_zero_or_pos i with rfl|dZ
   ·obtain rfl:g=a:=by rw [h0]at hi;exact(Option.some.inj hi).symm
    obtain⟨g',w',es,V',hgo,fO,aDI,oh,gN,aWT,hl'⟩:=h d;have Cy:=runT_crowd_go (P:=prog) (sl:=r9) (i:=0) hi (show stepG prog (0==0) g (w.at d)=_ by simpa using hgo)
    have aaN:mP V' w'.heap.size:=by
     rw [aDI];exact⟨fun b hb=>hb.elim (fun x=>Nat.lt_of_lt_of_le (gj.own b x) fO) fun x=>x.2,fun b hb=>Nat.lt_of_lt_of_le (gj.wc b hb) fO,fun b hb=>Nat.lt_of_lt_of_le (gj.ro b hb) fO⟩
    have hA':Apart V' (cW Shun):=by
     rw [aDI];refine hA.grow (n:=w.heap.size) ⟨fun _ h=>h.elim,fun ad h=>?_,fun _ h=>h.elim⟩ fun b hb=>hb.1;obtain⟨ad',e,Wa⟩:=hC _ h;cases e;exact Wa
    have oF:∀op∈MemOp.ofEvents 0 g.frame.fn g.frame.place es,op.g=0:=mg;obtain⟨n,fx,a',w2,sl2,t',q',bc,hr,OE,hQ,OG⟩:=hl' ((gs.map (woken prog g g' w')).setIfInBounds 0 g') r9 (t++MemOp.ofEvents 0 g.frame.fn g.frame.place es) q
     ⟨by simp [aU],⟨fun j x hj hx=>by
      rw [Array.getElem?_setIfInBounds_ne (by omega),Array.getElem?_map]at hx
      obtain⟨y,hy,rfl⟩:=Option.map_eq_some_iff.1 hx;rw [de _ _ _ j y hj hy,Deaf_other t (by omega) _ oF]
      exact hL.old j y hj hy,fun j hj=>by
      rw [Deaf_other t (g':=0) (by simp at hj;omega) _ oF]
      exact hL.above j (by simpa using hj)⟩,
      FZ hP fO oF (fun op aE b hb=>by
       obtain⟨e,he,rfl⟩:=Conc.mem_ofEvents aE;exact OD hA' (fun l hl=>let⟨ad,e,_⟩:=hC l hl;⟨ad,e⟩) (xD (gN e he) hb).2) (fun op aE=>by
       obtain⟨e,he,rfl⟩:=Conc.mem_ofEvents aE;exact Hn aaN (gN e he)) (fun op aE a=>by
       obtain⟨e,he,rfl⟩:=Conc.mem_ofEvents aE;exact xE (gN e he) a) (by rw [Deaf_own,hP.hears];exact oh),
      fun l hl=>let⟨ad,e,hx⟩:=hC l hl;⟨ad,e,Nat.lt_of_lt_of_le hx fO⟩⟩
    exact⟨n+1,fx,a',w2,sl2,t',q',bc,by simp only [runNT,bF,show(w.at d0).at d=w.at d from rfl,Cy];exact hr,OE,hQ,aWT.trans OG⟩
   ·have hq:=hL.old i g dZ hi;have hi0:(i==0)=false:=by simp;omega
    cases hqi:q i with
    |zero=>rw [hqi]at hq;rw [hq.1]at hg;cases hg
    |succ k=>
     rw [hqi]at hq;rcases hq with ⟨hf,_⟩|⟨_,g',es,hm,VG,hq'⟩
     ·rw [hf]at hg;cases hg
     have Cy:=runT_crowd_go (P:=prog) (sl:=r9) (i:=i) hi (by rw [hi0];exact VG (w.at d))
     have fO:((gs.map (woken prog g g' (w.at d))).setIfInBounds i g').size=gs.size:=by simp
     have ax7:sumTo gs.size (upd q i k)+(k+1)=sumTo gs.size q+k:=by
      have:=sumTo_upd q k id aU;simpa [hqi]using this
     have oF:∀op∈MemOp.ofEvents i g.frame.fn g.frame.place es,op.g=i:=mg;obtain⟨n,fx,a',w2,sl2,t',q',bc,hr,OE,hQ,OG⟩:=ihM (sumTo gs.size (upd q i k)) (by omega) d ((gs.map (woken prog g g' (w.at d))).setIfInBounds i g') r9 (t++MemOp.ofEvents i g.frame.fn g.frame.place es) (upd q i k)
      ⟨by
       rw [Array.getElem?_setIfInBounds_ne (by omega),Array.getElem?_map,h0]
       simp [woken_run cr],⟨fun j x hj hx=>by
       by_cases Fc:i=j
       ·subst Fc;rw [Array.getElem?_setIfInBounds_self_of_lt (by simpa using aU)]at hx
        obtain rfl:=Option.some.inj hx;rw [upd_same,Deaf_own];exact hq'
       ·rw [Array.getElem?_setIfInBounds_ne Fc,Array.getElem?_map]at hx;obtain⟨y,hy,rfl⟩:=Option.map_eq_some_iff.1 hx;rw [de _ _ _ j y hj hy,upd_ne q k (Ne.symm Fc),Deaf_other t Fc _ oF];exact hL.old j y hj hy,fun j hj=>by
       rw [Deaf_other t (g':=i) (by simp at hj;omega) _ oF]
       exact hL.above j (by simpa using hj)⟩,Cx hP (by omega) hm,hC⟩ (by rw [fO])
     exact⟨n+1,fx,a',w2,sl2,t',q',bc,by simp only [runNT,bF,show(w.at d0).at d=w.at d from rfl,Cy];exact hr,OE,hQ,OG⟩
 intro gs sl t q hF;exact main _ w.drawn gs sl t q hF rfl
end
section
variable {w:World} {o:Oper} {a:Act} {x:Operand} {t yt:TypeId} {s':ByteArray}
theorem awy(aE:o.op=.binOp .eql t x y yt)(hx:a.eval x=.string s)(hy:a.eval y=.string s'):Yl prog V w o a (.bool (s.toList==s'.toList)):=.pure fun w₁=>by
 simp [execOp,aE,hx,hy,eqGuard,binOp,Op.stringOp]
theorem awz(aE:o.op=.binOp .neq t x y yt)(hx:a.eval x=.string s)(hy:a.eval y=.string s'):Yl prog V w o a (.bool (!(s.toList==s'.toList))):=.pure fun w₁=>by
 simp [execOp,aE,hx,hy,eqGuard,binOp,Op.stringOp]
theorem US(aE:o.op=.binOp .add t x y yt)(hx:a.eval x=.string s)(hy:a.eval y=.string s')(hlen:((s.size+s'.size:Nat):Int)<=9223372036854775807):Yl prog V w o a (.string (s++s')):=.pure fun w₁=>by
 have hn:¬(9223372036854775807:Int)<((s.size:Int)+(s'.size:Int)):=by omega
 simp [execOp,aE,hx,hy,eqGuard,binOp,Op.stringOp,hn]
theorem aAa(aE:o.op=.binOp .eql 68 x y yt)(hx:a.eval x=.pointer none)(hy:a.eval y=.pointer none):Yl prog V w o a (.bool true):=.pure fun w₁=>by
 have h1:∀dd w,(Op.equalIn (dd+1) 68 (.pointer none) (.pointer none)).run prog w=.ok true w:=fun dd w=>by
  simp [Op.equalIn,run_underlying underlying68]
 have h2:∀dd w es,(Op.equalIn (dd+1) 68 (.pointer none) (.pointer none)).events prog w es=es:=fun dd w es=>by
  simp [Op.equalIn,run_underlying underlying68]
 constructor
 ·simp [execOp,aE,hx,hy,eqGuard,binOp,Op.equal,Op.maxDepth,h1 9999]
 ·simp [execOp,aE,hx,hy,eqGuard,binOp,Op.equal,Op.maxDepth,h2 9999]
end
theorem UT{w:World}{f:Int->ByteArray->Sem (ForInStep ByteArray)}:∀(l:List Int) (s:ByteArray) (es:Array Event),(∀n r,f n r=pure (.yield (r.push (UInt8.ofNat n.toNat))))->(forIn l s f).events prog w es=es
 |[],s,es,_=>by simp
 |n::l,s,es,h=>by
  simp only [List.forIn_cons,h,pure_bind];exact UT l _ es h
section
variable {w:World} {o:Oper} {a:Act} {x:Operand} {v:Value}
theorem awA{x lo hi:Operand}{l h:Nat}(aE:o.op=.slice 9 x (some lo) (some hi) none)(hs:a.eval x=.string s)(hx:a.eval lo=.int .i64 l)(hy:a.eval hi=.int .i64 h)(h1:l<=h)(h2:h<=s.size):Yl prog V w o a (.string (s.extract l h)):=.pure fun w₁=>by
 have b1:∀w,(Instr.sliceBound (.int .i64 h) s.size .sliceAlen).run prog w=.ok h w:=fun w=>by simp [Instr.sliceBound,asIntOf,h2]
 have b2:∀w,(Instr.sliceBound (.int .i64 l) h .sliceB).run prog w=.ok l w:=fun w=>by simp [Instr.sliceBound,asIntOf,h1]
 have c1:∀w es,(Instr.sliceBound (.int .i64 h) s.size .sliceAlen).events prog w es=es:=fun w es=>by simp [Instr.sliceBound,asIntOf,h2]
 have c2:∀w es,(Instr.sliceBound (.int .i64 l) h .sliceB).events prog w es=es:=fun w es=>by simp [Instr.sliceBound,asIntOf,h1]
 constructor
 ·simp [execOp,aE,hs,hx,hy,Instr.sliceAt,run_underlying underlying9,Instr.slice,Instr.sliceBounds,b1,b2]
 ·simp [execOp,aE,hs,hx,hy,Instr.sliceAt,run_underlying underlying9,Instr.slice,Instr.sliceBounds,b1,b2,c1,c2]
theorem awB(aE:o.op=.call {callee:=.builtin .len,args:=#[x],argTypes:=#[9]})(hx:a.eval x=.string s):Yl prog V w o a (.int .i64 s.size):=.pure fun w₁=>by
 constructor<;>simp [execOp,aE,hx,resolve,invoke,builtin,Builtin.len_,run_underlying underlying9,goInt]
theorem UU{ad:Addr}{n c:Nat}(aE:o.op=.call {callee:=.builtin .unsafeSliceData,args:=#[x],argTypes:=#[25]})(hx:a.eval x=.slice (some ad) n c)(hc:c≠0):Yl prog V w o a (.pointer (some ad)):=.pure fun w₁=>by
 obtain⟨k,rfl⟩:∃k,c=k+1:=⟨c-1,by omega⟩
 have aN5:∀ts ty,Builtin.unsafeSliceData_ ts ty #[.slice (some ad) n (k+1)]=pure (.pointer (some ad)):=fun _ _=>rfl;constructor<;>simp [execOp,aE,hx,resolve,invoke,builtin,aN5]
theorem NG{ad:Addr}{c:Array Value}{e u src dst:TypeId}{fr:Nat×Nat}{j:TypeInfo}(aE:o.op=.convert src dst x)(hx:a.eval x=.pointer (some ad))(hs:prog.underlying src=some .unsafePointer)(hd:prog.underlying dst=some (.pointer u))(hu:prog.info? u=some j)
  (hb:w.heap[ad.block]? =some (.cells c e fr))(UW:liesAt prog prog.depth e (c.size/prog.cellsOf e) ad.off u 1=true):Yl prog V w o a (.pointer (some ad)):=fun w₁ hr=>by
 obtain⟨c',h1,h2⟩:=hr.kind _ _ _ _ hb;have hsh:w₁.shape? ad.block=some (e,c'.size):=by simp [World.shape?,h1]
 rw [←h2]at UW;have e1:=Lib.run_from_unsafe (P:=prog) w₁ ad hs hd hu hsh UW;have e2:(convert src dst (.pointer (some ad))).events prog w₁ #[]=#[]:=by
  simp [convert,run_underlying hs,run_underlying hd,Conv.unsafePointer,Conv.seenAt,viewAt,hsh,variablesAt,UW,sizeOf,typeInfo,hu]
 exact⟨by simp [execOp,aE,hx,e1],fun ev he=>by simp [execOp,aE,hx,e2]at he⟩
theorem aAb{bl off c:Nat}{l:List Int}(aE:o.op=.convert 25 9 x)(hx:a.eval x=.slice (some ⟨bl,off,none⟩) l.length c)(h:∀j u,l[j]? =some u->iJ V w ⟨bl,off+j,none⟩ (dG u)):Yl prog V w o a (.string (l.foldl (fun r n=>r.push (UInt8.ofNat n.toNat)) ByteArray.empty)):=fun w₁ hr=>by
 have hc:∀j v,(l.map dG)[j]? =some v->w₁.cell? ((⟨bl,off,none⟩:Addr).add j)=some v:=fun j v hj=>by
  rw [List.getElem?_map]at hj;obtain⟨u,hu,rfl⟩:=Option.map_eq_some_iff.1 hj;rw [Addr.add_lit];exact(hr.oz (h j u hu).1).trans (h j u hu).2
 have hl:=run_loadCells_list (P:=prog) w₁ ⟨bl,off,none⟩ (l.map dG) hc;rw [List.length_map]at hl;have e0:=run_bytesToString (P:=prog) w₁ ⟨bl,off,none⟩ l.length c l hl;have e1:(convert 25 9 (.slice (some ⟨bl,off,none⟩) l.length c)).run prog w₁=.ok (.string (l.foldl (fun r n=>r.push (UInt8.ofNat n.toNat)) ByteArray.empty)) w₁:=by
  simp [convert,run_underlying underlying25,run_underlying underlying9,run_underlying underlying5,e0]
 refine⟨by simp [execOp,aE,hx,e1],fun ev he=>?_⟩
 have e2:(convert 25 9 (.slice (some ⟨bl,off,none⟩) l.length c)).events prog w₁ #[]=(loadCells ⟨bl,off,none⟩ l.length).events prog w₁ #[]:=by
  simp [convert,run_underlying underlying25,run_underlying underlying9,run_underlying underlying5,Conv.bytesToString,hl];exact UT l _ _ fun n r=>rfl
 have he':ev∈(loadCells ⟨bl,off,none⟩ l.length).events prog w₁ #[]:=by
  rw [←e2];simpa [execOp,aE,hx,e1]using he
 rcases iq (P:=prog) (w₁:=w₁) l.length 0 #[] #[] (fun j hj=>by rw [Nat.zero_add,hc j (dG l[j]) (by simp [List.getElem?_eq_getElem hj])];rfl) ev he' with he|⟨j,hj,rfl⟩
 ·simp at he
 ·rw [Nat.zero_add,Addr.add_lit];exact oB (h j l[j] (List.getElem?_eq_getElem hj)).1
theorem awC{n c:Nat}(aE:o.op=.convert 25 9 x)(hx:a.eval x=.slice none n c):Yl prog V w o a (.string ByteArray.empty):=.pure fun w₁=>by
 constructor<;>simp [execOp,aE,hx,convert,run_underlying underlying25,run_underlying underlying9,run_underlying underlying5,Conv.bytesToString]
end
section
variable {main:Bool} {w:World} {a:Act} {d:Nat} {rest:List Nat} {o:Oper} {x:Operand}
theorem UX(ho:ops[i]? =some o)(hw:Region.wanted o (yielded ops a.tmps)=true)(hk:fg prog main S)(hd:o.dst=some d)(aU:d<a.tmps.size)(hT:Tidy V w)(aE:o.op=.call {callee:=.builtin .append,args:=#[x,y],argTypes:=#[25,9]})(hx:a.eval x=.slice none 0 0)(hy:a.eval y=.string s)
  (h0:0<s.size)(h1:s.size<=1000)
  (K:∀g c cl a' V' w',a'.tmps.size=a.tmps.size->a'.defers=a.defers->(∀j,d≠j->a'.eval (.tmp j)=a.eval (.tmp j))->a'.eval (.tmp d)=.slice (some ⟨g,0,none⟩) s.size c->s.size<=c->aG aI aD V w V' w'->w.heap.size<=g->ba V' w' g (.cells (s.data.map (fun b=>Value.int .u8 b.toNat)++cl) 5 (0,0))->Tidy V' w'->
   Loc prog main Stop V' (G (S a' (.inRegion ops rest::k)) cs) w'):Loc prog main Stop V (G (S a (.inRegion ops (i::rest)::k)) cs) w:=by
 obtain⟨i5,hi5,hz5,hs5,NO⟩:=info_parts avG;refine ao0 ho hw hk fun w₁ hr K' E7=>?_;have E0:s.size*i5.bytes<=281474976710656:=by rw [NO];omega
 have cr:=run_append_nil_string (P:=prog) w₁ 25 9 o.type 5 i5 _ underlying25 underlying9 hi5 hz5 s h0 (by omega) E0
 generalize ml:Builtin.zeroCells _ (grownCap w₁ s.size 0 5-s.size)=cl at cr;have e1:(execOp a.eval o).run prog w₁=.ok (.value (.slice (some ⟨w₁.heap.size,0,none⟩) s.size (grownCap w₁ s.size 0 5))) (w₁.drew.alloc (.cells (s.data.map (fun b=>Value.int .u8 b.toNat)++cl) 5)):=by
  simp [execOp,aE,hx,hy,resolve,invoke,builtin,cr]
 rw [e1];have u:=bj a o.dst (.slice (some ⟨w₁.heap.size,0,none⟩) s.size (grownCap w₁ s.size 0 5));have IZ:=kG V w₁ (.cells (s.data.map (fun b=>Value.int .u8 b.toNat)++cl) 5);have fO:(w₁.drew.alloc (.cells (s.data.map (fun b=>Value.int .u8 b.toNat)++cl) 5)).heap.size=w₁.heap.size+1:=World.size_alloc _ _;have hW:aG aI aD V w (V.plus w₁ (w₁.drew.alloc (.cells (s.data.map (fun b=>Value.int .u8 b.toNat)++cl) 5))) (w₁.drew.alloc (.cells (s.data.map (fun b=>Value.int .u8 b.toNat)++cl) 5)):=by
  refine aG.after hr (ri IZ (fun b hb hn=>?_) fun ad ha _=>?_)
  ·exact heap_alloc_old w₁.drew _ (Nat.lt_of_lt_of_le (hT.low.own b hb) hr.size)
  ·have anj:ad.block<w₁.heap.size:=Nat.lt_of_lt_of_le (ha.elim (hT.low.ro ad) (hT.low.wc ad)) hr.size;have:=heap_alloc_old w₁.drew (.cells (s.data.map (fun b=>Value.int .u8 b.toNat)++cl) 5) (r:=ad.block) anj;simp only [World.cell?,this];rfl
 refine E7 _ _ IZ (fun ev he=>?_) (K w₁.heap.size _ cl _ _ _ u.size u.defers (fun j hj=>u.ne j (by rw [hd];intro h;exact hj (Option.some.inj h))) (u.eq d hd aU) ?_ hW hr.size ⟨.inr ⟨Nat.le_refl _,by rw [fO];exact Nat.lt_succ_self _⟩,heap_alloc_new w₁.drew _⟩ (hT.aC hW))
 ·have hn:s.size≠0:=by omega
  have Xn:¬(9223372036854775807<(s.size:Int)):=by omega
  have ao5:¬(281474976710656<Builtin.nextslicecap s.size 0*i5.bytes):=by rw [nextslicecap_zero h0];omega
  simp [execOp,aE,hx,hy,resolve,invoke,builtin,Builtin.append_,run_underlying underlying25,run_underlying underlying9,sizeOf,typeInfo,zeroValue,hi5,hz5,Builtin.lenOf,Builtin.firstCells,hn,Xn,ao5,Question.forced,newRow]at he;rcases(events_askRoom _ _ _ _ he)with h|⟨m,hm,hN⟩
  ·simp at h
  ·unfold Neutral at hN;subst hN;exact .inr (.inr hm)
 ·exact grownCap_ge _ _ _ _
end
theorem xj{w:World}:∀(l:List UInt8) (ad:Addr) (acc:ByteArray) (es:Array Event),(∀j x,l[j]? =some x->w.cell? (ad.add j)=some (.int .u8 x.toNat))->∀e∈(loadBytes ad acc l.length).events prog w es,e∈es\/∃j,j<l.length/\e=⟨.cell (ad.add j),false,false⟩
 |[],ad,acc,es,_=>fun e h=>.inl (by simpa [loadBytes]using h)
 |x::l,ad,acc,es,hc=>fun e h=>by
  have h0:w.cell? ad=some (.int .u8 x.toNat):=by
   have:=hc 0 x rfl;simpa [Addr.add]using this
  have ea:∀j,(ad.add 1).add j=ad.add (j+1):=fun j=>by
   unfold Addr.add;by_cases hj:j=0
   ·subst hj;simp
   ·simp [hj];omega
  have hx:((x.toNat:Int).toNat).toUInt8=x:=by simp
  simp only [List.length_cons,loadBytes,Sem.events_bind,run_load,h0,Result.evThen_ok,events_load,hx]at h;rcases xj l (ad.add 1) _ _ (fun j y hy=>by rw [ea];exact hc (j+1) y (by simpa using hy)) e h with h|⟨j,hj,h⟩
  ·rcases Array.mem_push.1 h with h|rfl
   ·exact .inl h
   ·exact .inr ⟨0,by simp,by simp [Addr.add]⟩
  ·exact .inr ⟨j+1,by simp;omega,by rw [h,ea]⟩
section
variable {w:World} {a:Act} {d:Nat} {rest:List Nat} {o:Oper} {x:Operand}
theorem aAc(yG:cx Shun w0)(hg:prog.globals.size<=w0.heap.size)(hW:aG aI aD (bP Shun w0) w0 V w):Apart V (cW Shun):=
 ⟨fun b _ h=>h,fun a h=>by
  rw [hW.wc]at h;exact⟨h.1,id,id⟩,fun a h=>⟨fun x=>by rw [hW.wc]at x;exact x.1 h,fun x=>by rw [hW.ro]at x;exact x,fun x=>(qN yG hg hW x).2 a h rfl⟩,fun a h=>by rw [hW.ro]at h;exact h.elim,fun a h=>h.elim⟩
theorem ES{g:Nat}{l:List UInt8}{cl:Array Value}(hg:prog.globals.size<=w0.heap.size)(yG:cx Shun w0)(hW:aG aI aD (bP Shun w0) w0 V w)(hT:Tidy V w)
  (ho:ops[i]? =some o)(hw:Region.wanted o (yielded ops a.tmps)=true)(hS:fg prog true S)(hd:o.dst=some d)(aU:d<a.tmps.size)(aE:o.op=.call {callee:=.builtin .unsafeString,args:=#[x,y],argTypes:=#[93,3]})(hx:a.eval x=.pointer (some ⟨g,0,none⟩))(hy:a.eval y=.int .i64 l.length)
  (h0:l≠[])(hl:l.length<=1000)(hB:ba V w g (.cells ((l.map fun b=>Value.int .u8 b.toNat).toArray++cl) 5 (0,0)))
  (K:∀w' a',cx Shun w'->prog.globals.size<=w'.heap.size->w.heap.size<=w'.heap.size->(∀b,V.own b->b≠g->nO Shun w' b/\w'.heap[b]? =w.heap[b]?)->a'.tmps.size=a.tmps.size->a'.defers=a.defers->(∀j,d≠j->a'.eval (.tmp j)=a.eval (.tmp j))->a'.eval (.tmp d)=.string ⟨l.toArray⟩->fh Q Shun (bP Shun w') (G (S a' (.inRegion ops rest::k)) cs) w'):
  fh Q Shun V (G (S a (.inRegion ops (i::rest)::k)) cs) w:=by
 refine fh.UM hW.deaf fun w1 hr=>?_;have zx:aG aI aD (bP Shun w0) w0 V w1:=hW.trans (.bk hr);have hT1:=hT.aC (.bk hr);have hB1:=hB.rely hr;refine dy.one (V:=V) hW.deaf (aAc yG hg zx) hT1.low rfl fun dd=>?_;have jz:∀j u,l[j]? =some u->(w1.at dd).cell? ((⟨g,0,none⟩:Addr).add j)=some (.int .u8 u.toNat):=fun j u hj=>by
  have aU:j<l.length:=(List.getElem?_eq_some_iff.1 hj).1;rw [Addr.add_lit];have:(w1.at dd).heap[g]? =some (.cells ((l.map fun b=>Value.int .u8 b.toNat).toArray++cl) 5 (0,0)):=hB1.2;simp only [World.cell?,this,Nat.zero_add];rw [Array.getElem?_append_left (by simpa using aU)]
  simp [hj]
 have hsh:(w1.at dd).shape? g=some (5,((l.map fun b=>Value.int .u8 b.toNat).toArray++cl).size):=by
  have:(w1.at dd).heap[g]? =some (.cells ((l.map fun b=>Value.int .u8 b.toNat).toArray++cl) 5 (0,0)):=hB1.2;simp [World.shape?,this]
 have hc5:prog.cellsOf 5=1:=by kernel_rfl
 have cr:=Lib.run_unsafeString_row (P:=prog) (w:=w1.at dd) 93 3 o.type 5 underlying93 hc5 g _ hsh l h0 (by simp) (by omega) jz
 have e1:(execOp a.eval o).run prog (w1.at dd)=.ok (.value (.string ⟨l.toArray⟩)) ((w1.at dd).freeze ⟨g,0,none⟩ l.length):=by
  simp [execOp,aE,hx,hy,resolve,invoke,builtin,cr]
 obtain⟨es,bF,Wi⟩:=hS.value ops i rest o _ a k cs _ _ ho hw e1;have gN:∀e∈(execOp a.eval o).events prog (w1.at dd) #[],∃j,e=⟨.cell ((⟨g,0,none⟩:Addr).add j),false,false⟩:=fun e he=>by
  have hlb:=Lib.run_loadBytes (P:=prog) (w1.at dd) l ⟨g,0,none⟩ .empty jz;have UW:=Lib.liesAt_bytes (P:=prog) hc5 (((l.map fun b=>Value.int .u8 b.toNat).toArray++cl).size/prog.cellsOf 5) l.length (by rw [hc5];simp)
  have Xn:¬(9223372036854775807:Int)<(l.length:Int):=by omega
  have a09:¬(l.length:Int)<0:=by omega
  have hl0:l.length≠0:=by simpa using h0
  have a1a:IntKind.i64.max=9223372036854775807:=rfl;have aN5:Builtin.unsafeString_ #[93,3] o.type #[.pointer (some ⟨g,0,none⟩),.int .i64 l.length]=(asInt (.int .i64 l.length)>>=_):=rfl;have he2:e∈(loadBytes ⟨g,0,none⟩ .empty l.length).events prog (w1.at dd) #[]:=by
   simp [execOp,aE,hx,hy,resolve,invoke,builtin,aN5,asInt,asIntOf,a1a,Xn,a09,hl0,variablesAt,hsh,elemOf,run_underlying underlying93,UW,hlb]at he;exact he.2
  rcases xj l _ _ _ jz e he2 with h|⟨j,_,h⟩
  ·simp at h
  ·exact⟨j,h⟩
 have fO:((w1.at dd).freeze ⟨g,0,none⟩ l.length).heap.size=w1.heap.size:=by
  unfold World.freeze;split
  ·rfl
  ·simp only [Array.size_modify];rfl
 have aWV:∀b,b≠g->((w1.at dd).freeze ⟨g,0,none⟩ l.length).heap[b]? =w1.heap[b]? :=fun b hb=>by
  unfold World.freeze;split
  ·rfl
  ·simp only [Array.getElem?_modify];rw [if_neg (Ne.symm hb)];rfl
 refine⟨_,_,es,_,bF,Nat.le_of_eq fO.symm,rfl,deafBehind_still (fun e he=>?_) 0,fun e he=>?_,?_,?_⟩
 ·obtain⟨j,rfl⟩:=gN e (Wi e he);simp
 ·obtain⟨j,rfl⟩:=gN e (Wi e he);exact .inl ⟨_,_,rfl,.inl (.inl (by rw [Addr.add_lit];exact hB1.1))⟩
 ·have e3:((w1.at dd).freeze ⟨g,0,none⟩ l.length).os=w1.os:=by
   unfold World.freeze;split<;>rfl
  exact⟨by unfold World.freeze;split<;>rfl,by unfold World.freeze;split<;>rfl,by rw [e3];exact .refl _⟩
 ·have u:=bj a o.dst (.string ⟨l.toArray⟩);have hg2:prog.globals.size<=((w1.at dd).freeze ⟨g,0,none⟩ l.length).heap.size:=by rw [fO];exact Nat.le_trans hg zx.size
  have BW:=yG.kind zx.kind;have Hq:∃fr,((w1.at dd).freeze ⟨g,0,none⟩ l.length).heap[g]? =some (.cells ((l.map fun b=>Value.int .u8 b.toNat).toArray++cl) 5 fr):=by
   have hb:(w1.at dd).heap[g]? =some (.cells ((l.map fun b=>Value.int .u8 b.toNat).toArray++cl) 5 (0,0)):=hB1.2;unfold World.freeze;split
   ·exact⟨_,hb⟩
   ·simp only [Array.getElem?_modify,if_true,hb];exact⟨_,rfl⟩
  refine dy.loc hg2 (K _ _ (fun l' hl'=>?_) hg2 ?_ (fun b hb cM=>⟨?_,(aWV b cM).trans (hr.own b hb)⟩) u.size u.defers (fun j hj=>u.ne j (by rw [hd];intro h;exact hj (Option.some.inj h))) (u.eq d hd aU))
  ·obtain⟨ad,c,e,fr,x1,x2,x3⟩:=BW l' hl';by_cases hx:ad.block=g
   ·have h5:=hB1.2;rw [←hx,x2]at h5;cases h5;rcases x3 with x3|x3<;>cases x3
   ·exact⟨ad,c,e,fr,x1,(aWV _ hx).trans x2,x3⟩
  ·rw [fO];exact hr.size
  ·have ho:=qN yG hg zx hb;exact⟨by rw [fO];exact ho.1,ho.2⟩
end
section
variable {d:Nat} {w:World} {rest:List Nat} {o:Oper}
def tz(n:Nat):ByteArray:=(⟨#[48,49,50,51,52,53,54,55,56,57,97,98,99,100,101,102,103,104,105,106,107,108,109,110,111,112,113,114,115,116,117,118,119,120,121,122]⟩:ByteArray).extract n (n+1)
theorem aae(rT:fg prog true S)(ho:ops[i]? =some o)(hdd:o.dst=some d)(aU:d<a0.tmps.size)(hn:n<10){T:Array Value}(mL:T=#[.int .i64 n]++Array.replicate 14 undef)
  (K:∀a',a'.tmps.size=a0.tmps.size->a'.defers=a0.defers->(∀j,d≠j->a'.eval (.tmp j)=a0.eval (.tmp j))->a'.eval (.tmp d)=.string (tz n)->Loc prog true Stop V (G (S a' (.inRegion ops rest::k0)) cs) w):
  Loc prog true Stop V (G ((base 83).at {tmps:=T,defers:=[]} [.code Uf]) (S a0 (.inRegion ops (i::rest)::k0)::cs)) w:=by
 have hS:=bh (P:=prog) (main:=true) (b:=base 83) (by decide)
 generalize ha:({tmps:=T,defers:=[]}:Act)=a;have hs:a.tmps.size=15:=by subst ha;subst mL;simp
 have hd:a.defers=[]:=by subst ha;rfl
 have h0:a.eval (.tmp 0)=.int .i64 n:=by subst ha;subst mL;simp [Act.eval]
 clear ha;refine aj hS aVQ (ag hS aVH (rl [0] rfl) (ay ajS hS hs (ak ajS.o rfl) fun a ae h2=>t1 ae hs hd h0 fun hs hd h0=>?_));refine ai hS (aj hS aVP (aj hS aVO (ag hS aVI (rl [0,1] rfl) (ay ajV hS hs (af ajV.o h0) fun a ae h3=>t1 ae hs hd h0 fun hs hd h0=>?_))));refine ay ajW hS hs (du ajW.o h3 rfl) fun a ae h4=>t1 ae hs hd h0 fun hs hd h0=>?_;have h4:a.eval (.tmp 4)=.bool true:=by rw [h4];simp;omega
 refine ai hS (bY hS aVN h4 (aj hS aVL (ag hS aVJ (rl [0,1,2,3,4] rfl) (ay ajZ hS hs (af ajZ.o h0) fun a ae h5=>t1 ae hs hd h0 fun hs hd h0=>?_))));refine ay aj0 hS hs (af aj0.o h0) fun a ae h6=>t1 ae hs hd h5 fun hs hd h5=>?_;refine ay aj1 hS hs (gQ aj1.o h6 rfl) fun a ae h7=>t1 ae hs hd h5 fun hs hd h5=>?_;have h7:a.eval (.tmp 7)=.int .i64 ((n+1:Nat):Int):=by
  rw [h7,IntWalk.i64_in _ (by omega)];simp
 refine ay aj2 hS hs (awA (l:=n) (h:=n+1) aj2.o rfl h5 h7 (by omega) (by show n+1<=36;omega)) fun a ae h8=>t0 ae hs hd fun hs hd=>?_
 refine ay aj3 hS hs (ak aj3.o h8) fun a ae h2=>t0 ae hs hd fun hs hd=>?_;refine ai hS (dg (b:=base 83) aVK fun todo=>?_);exact dM rT rfl hd func83 rfl ho hdd aU fun a2 s2 d2 n2 e2=>K a2 s2 d2 n2 (by rw [e2];exact h2)
theorem UY(rT:fg prog true S)(ho:ops[i]? =some o)(hdd:o.dst=some d)(aU:d<a0.tmps.size)(hn:n<10){T:Array Value}(mL:T=#[.int .i64 n,.int .i64 10]++Array.replicate 6 undef)
  (K:∀a',a'.tmps.size=a0.tmps.size->a'.defers=a0.defers->(∀j,d≠j->a'.eval (.tmp j)=a0.eval (.tmp j))->a'.eval (.tmp d)=.string (tz n)->Loc prog true Stop V (G (S a' (.inRegion ops rest::k0)) cs) w):
  Loc prog true Stop V (G ((base 33).at {tmps:=T,defers:=[]} [.code Uc]) (S a0 (.inRegion ops (i::rest)::k0)::cs)) w:=by
 have hS:=bh (P:=prog) (main:=true) (b:=base 33) (by decide)
 generalize ha:({tmps:=T,defers:=[]}:Act)=a;have hs:a.tmps.size=8:=by subst ha;subst mL;simp
 have hd:a.defers=[]:=by subst ha;rfl
 have h0:a.eval (.tmp 0)=.int .i64 n:=by subst ha;subst mL;simp [Act.eval]
 have h1:a.eval (.tmp 1)=.int .i64 10:=by subst ha;subst mL;simp [Act.eval]
 clear ha;refine aj hS aVw (ag hS aVs (rl [0] rfl) (ay ajv hS hs (ak ajv.o rfl) fun a ae h4=>t2 ae hs hd h0 h1 fun hs hd h0 h1=>?_));refine ai hS (aj hS aVv (ag hS aVt (rl [0,1,2,3] rfl) (ay ajx hS hs (af ajx.o h0) fun a ae h5=>t2 ae hs hd h0 h1 fun hs hd h0 h1=>?_)));refine ay ajy hS hs (af ajy.o h1) fun a ae h6=>t3 ae hs hd h0 h1 h5 fun hs hd h0 h1 h5=>?_;refine bI wW.a wW.f hS wW.o func68 (by kernel_rfl) aMQ ?_
 have hS2:=bh (P:=prog) (main:=true) (b:=base 68) (by decide)
 have hm:(#[Operand.tmp 5,Operand.tmp 6].map a.eval)=#[.int .i64 n,.int .i64 10]:=by
  simp only [List.map_toArray,List.map_cons,List.map_nil,h5,h6]
 rw [hm];generalize hb:({tmps:=#[.int .i64 n,.int .i64 10]++Array.replicate (Tryz.f68.ntmps-(#[Value.int .i64 n,Value.int .i64 10]:Array Value).size) undef,defers:=[]}:Act)=b;have g0:b.eval (.tmp 0)=.int .i64 n:=by subst hb;simp [Act.eval]
 have g1:b.eval (.tmp 1)=.int .i64 10:=by subst hb;simp [Act.eval]
 have gs:b.tmps.size=54:=by subst hb;simp [show Tryz.f68.ntmps=54 from rfl]
 have gd:b.defers=[]:=by subst hb;rfl
 suffices inner:∀(a:Act),a.tmps.size=54->a.defers=[]->a.eval (.tmp 0)=.int .i64 n->a.eval (.tmp 1)=.int .i64 10->∀(cf:Frame),(∀bb todo,bb.defers=[]->bb.eval (.tmp 4)=.string (tz n)->Loc prog true Stop V (G {(base 68).at bb todo with mode:=.returning} (cf::S a0 (.inRegion ops (i::rest)::k0)::cs)) w)->Loc prog true Stop V (G ((base 68).at a [.code Ue]) (cf::S a0 (.inRegion ops (i::rest)::k0)::cs)) w by
  refine inner b gs gd g0 g1 _ fun bb todo hbd hb4=>?_;refine dM hS rfl hbd func68 rfl wW.a wW.d (by rw [hs];decide) fun a au an ah h7=>t0 ⟨au,an,ah⟩ hs hd fun hs hd=>?_
  rw [hb4]at h7;refine ay ajz hS hs (ak ajz.o h7) fun a ae h4=>t0 ae hs hd fun hs hd=>?_;refine ai hS (dg (b:=base 33) aVu fun todo=>?_);exact dM rT rfl hd func33 rfl ho hdd aU fun a2 s2 d2 n2 e2=>K a2 s2 d2 n2 (by rw [e2];exact h4)
 clear hs hd hm gs gd g0 g1 hb hS K;intro a hs hd h0 h1 cf K;have hS:=hS2;refine aj hS aVG (ag hS aVx (rl [0] rfl) (ay ajA hS hs (ak ajA.o rfl) fun a ae h4=>t2 ae hs hd h0 h1 fun hs hd h0 h1=>?_));refine ai hS (aj hS aVF (aj hS aVE (ag hS aVy (rl [0,1] rfl) (ay ajD hS hs (af ajD.o h1) fun a ae aM=>t1 ae hs hd h0 fun hs hd h0=>?_))));refine ay ajE hS hs (eH ajE.o aM rfl) fun a ae aH=>t1 ae hs hd h0 fun hs hd h0=>?_;have aH:a.eval (.tmp 11)=.bool true:=by rw [aH];simp
 refine ai hS (bY hS aVD aH (aj hS aVC (aj hS aVB (ag hS aVz (rl [0,1,2,3,4,5] rfl) (ay ajI hS hs (af ajI.o h0) fun a ae aJ=>t1 ae hs hd h0 fun hs hd h0=>?_)))));refine ay ajJ hS hs (aRa ajJ.o rfl aJ) fun a ae aK=>t1 ae hs hd h0 fun hs hd h0=>?_;have aK:a.eval (.tmp 13)=.bool true:=by rw [aK];simp
 refine ay ajK hS hs (af ajK.o aK) fun a ae aW=>t1 ae hs hd h0 fun hs hd h0=>?_;refine mo ajL rfl aW hS hs (af ajL.o h0) fun a ae eS=>t2 ae hs hd h0 aW fun hs hd h0 aW=>?_;refine mo ajM rfl aW hS hs (du ajM.o eS rfl) fun a ae fP=>t2 ae hs hd h0 aW fun hs hd h0 aW=>?_;have fP:a.eval (.tmp 16)=.bool true:=by rw [fP];simp;omega
 refine ay ajN hS hs (bn ajN.o aW (v:=.bool true) fP) fun a ae bT=>t1 ae hs hd h0 fun hs hd h0=>?_;refine ai hS (bY hS aVA bT (aj hS aML (ag hS aMJ (rl [0,1,2] rfl) (ay ajQ hS hs (af ajQ.o h0) fun a ae jL=>t0 ae hs hd fun hs hd=>?_))));refine bI wX.a wX.f hS wX.o func83 (by kernel_rfl) aMS (aae (n:=n) hS wX.a wX.d (by rw [hs];decide) hn (by simp only [List.map_toArray,List.map_cons,List.map_nil,jL];rfl) fun a au an ah dz=>?_)
 refine t0 ⟨au,an,ah⟩ hs hd fun hs hd=>?_;refine ay ajR hS hs (ak ajR.o dz) fun a ae h4=>t0 ae hs hd fun hs hd=>?_;exact ai hS (dg (b:=base 68) aMK fun todo=>K _ _ hd h4)
end
theorem Rg.aaf(w:World):Calls prog 34 #[.agg #[.int .i64 2,.int .i64 5]] w fun e w'=>e=.returned (.bool false)/\Rg.Ext w w':=by
 go_enter func34,ntmps34;go_wp2;all_goals go_ret
 all_goals exact⟨by rfl,(Rg.Ext.refl w).alloc _⟩
variable {l:List Rg.Sp}
section
variable {d:Nat} {w:World} {rest:List Nat} {o:Oper}
theorem ame(rT:fg prog true S)(ho:ops[i]? =some o)(hdd:o.dst=some d)(aU:d<a0.tmps.size)(hT:Tidy V w){T:Array Value}(mL:T=#[.agg #[.int .i64 2,.int .i64 5]]++Array.replicate 18 undef)
  (K:∀a' V' w',aG aI aD V w V' w'->Tidy V' w'->a'.tmps.size=a0.tmps.size->a'.defers=a0.defers->(∀j,d≠j->a'.eval (.tmp j)=a0.eval (.tmp j))->a'.eval (.tmp d)=.string (tz 2++⟨#[45]⟩++tz 5)->Loc prog true Stop V' (G (S a' (.inRegion ops rest::k0)) cs) w'):
  Loc prog true Stop V (G ((base 21).at {tmps:=T,defers:=[]} [.code T0]) (S a0 (.inRegion ops (i::rest)::k0)::cs)) w:=by
 have hS:=bh (P:=prog) (main:=true) (b:=base 21) (by decide)
 generalize ha:({tmps:=T,defers:=[]}:Act)=a;have hs:a.tmps.size=19:=by subst ha;subst mL;simp
 have hd:a.defers=[]:=by subst ha;rfl
 have h0:a.eval (.tmp 0)=.agg #[.int .i64 2,.int .i64 5]:=by subst ha;subst mL;simp [Act.eval]
 clear ha;refine aj hS aVm (ag hS aVf (rl [0,1] rfl) (pg Bp.a Bp.f hS Bp.d (by rw [hs];decide) hT Bp.o h0 fun n1 a V1 w1 au an ah h1 W1 g1 B1 T1=>?_))
 have B1:ba V1 w1 n1 (.cells #[.int .i64 2,.int .i64 5] 32 (0,0)):=B1;refine t0 ⟨au,an,ah⟩ hs hd fun hs hd=>?_;refine ay ajc hS hs (ak ajc.o rfl) fun a ae h2=>t1 ae hs hd h1 fun hs hd h1=>?_;refine ai hS (aj hS aVl (aj hS aVk (ag hS aVg (rl [0,1,2] rfl) (ay ajg hS hs (eu ajg.o h1 isAgg32 sizeOf32 (B1.cK rfl) (B1.cK rfl)) fun a ae h4=>t1 ae hs hd h1 fun hs hd h1=>?_))));refine qK Bq.a Bq.f hS Bq.d (by rw [hs];decide) T1 Bq.o (by kernel_rfl) (vl:=.bool (Rg.dJ 2 5)) (fun U n=>?_) (fun w'=>?_) (.bool _) fun a V2 w2 au an ah h5 W2 T2=>?_
 ·simp only [List.map_toArray,List.map_cons,List.map_nil,h4];exact ar1 ((Flat.Ul (.int _ _) (.int _ _)) U n)
 ·simp only [List.map_toArray,List.map_cons,List.map_nil,h4];exact Rg.gT 2 5 w'
 refine t1 ⟨au,an,ah⟩ hs hd h1 fun hs hd h1=>?_;have B2:=B1.go W2;refine ay ajh hS hs (kl ajh.o h5) fun a ae h6=>t1 ae hs hd h1 fun hs hd h1=>?_;have h6:a.eval (.tmp 6)=.bool false:=by rw [h6];rfl
 refine ai hS (aX hS aVj h6 (q_skip hS aVi (aj hS aMG (ag hS aMw (rl [0,1,2,3,4] rfl) (ay ajj hS hs (aB ajj.o h1 underlying32 rfl sizeOf2 (by decide) rfl) fun a ae h7=>t1 ae hs hd h1 fun hs hd h1=>?_)))))
 refine ay ajk hS hs (aL ajk.o h7 isAgg2 (B2.cK rfl)) fun a ae h8=>t1 ae hs hd h1 fun hs hd h1=>?_;refine bI wU.a wU.f hS wU.o func33 (by kernel_rfl) avd (UY (n:=2) hS wU.a wU.d (by rw [hs];decide) (by decide) (by simp only [List.map_toArray,List.map_cons,List.map_nil,h8];rfl) fun a au an ah h9=>?_)
 refine t1 ⟨au,an,ah⟩ hs hd h1 fun hs hd h1=>?_;refine ay ajl hS hs (US ajl.o h9 rfl (by decide)) fun a ae aM=>t1 ae hs hd h1 fun hs hd h1=>?_
 refine ay ajm hS hs (ak ajm.o aM) fun a ae h3=>t1 ae hs hd h1 fun hs hd h1=>?_;refine ai hS (aj hS aMF (aj hS aMB (ag hS aMx (rl [0,1] rfl) (ay ajn hS hs (eu ajn.o h1 isAgg32 sizeOf32 (B2.cK rfl) (B2.cK rfl)) fun a ae aH=>t2 ae hs hd h1 h3 fun hs hd h1 h3=>?_))));refine qK Br.a Br.f hS Br.d (by rw [hs];decide) T2 Br.o (by kernel_rfl) (vl:=.bool false) (fun U n=>?_) (fun w'=>?_) (.bool _) fun a V3 w3 au an ah aJ W3 T3=>?_
 ·simp only [List.map_toArray,List.map_cons,List.map_nil,aH];exact ar1 ((Flat.Ul (.int _ _) (.int _ _)) U n)
 ·simp only [List.map_toArray,List.map_cons,List.map_nil,aH];exact Rg.aaf w'
 refine t2 ⟨au,an,ah⟩ hs hd h1 h3 fun hs hd h1 h3=>?_;have B3:=B2.go W3;refine ai hS (aX hS aMA aJ (q_skip hS aMz (aj hS aME (ag hS aMC (rl [0,1,2,3,4,5] rfl) (ay ajo hS hs (af ajo.o h3) fun a ae aW=>t1 ae hs hd h1 fun hs hd h1=>?_)))));refine ay ajp hS hs (aB ajp.o h1 underlying32 rfl sizeOf2 (by decide) rfl) fun a ae eS=>t1 ae hs hd aW fun hs hd aW=>?_
 refine ay ajq hS hs (aL ajq.o eS isAgg2 (B3.cK rfl)) fun a ae fP=>t1 ae hs hd aW fun hs hd aW=>?_;refine bI wV.a wV.f hS wV.o func33 (by kernel_rfl) avd (UY (n:=5) hS wV.a wV.d (by rw [hs];decide) (by decide) (by simp only [List.map_toArray,List.map_cons,List.map_nil,fP];rfl) fun a au an ah bT=>?_)
 refine t1 ⟨au,an,ah⟩ hs hd aW fun hs hd aW=>?_;refine ay ajr hS hs (US ajr.o aW bT (by decide)) fun a ae jL=>t0 ae hs hd fun hs hd=>?_
 refine ay ajs hS hs (ak ajs.o jL) fun a ae h2=>t0 ae hs hd fun hs hd=>?_;refine ai hS (dg (b:=base 21) aMD fun todo=>?_);exact dM rT rfl hd func21 rfl ho hdd aU fun a2 s2 d2 n2 e2=>K a2 V3 w3 ((W1.trans W2).trans W3) T3 s2 d2 n2 (by rw [e2];exact h2)
end
section
variable {d g:Nat} {w:World} {a:Act} {rest:List Nat} {o:Oper} {f:FuncId} {fn:Func} {gY:Array TypeId} {x:Operand}
theorem aN6(v:Value){e:Array Value->Sem Value}(ho:ops[i]? =some o)(hw:Region.wanted o (yielded ops a.tmps)=true)(hk:b.kind≠.early)(hd:o.dst=some d)(aU:d<a.tmps.size)
  (aE:o.op=.call {callee:=.value (.func f),args:=#[x],argTypes:=gY})(hf:prog.funcs[f]? =some fn)(jq:(fn.name== "runtime.NumGoroutine")=false)(hb:fn.body.isNone=true)(hn:Extern.findNext fn=none)
  (he:Extern.find fn=some e)(gN:e #[a.eval x]=pure v)
  (K:∀a',a'.tmps.size=a.tmps.size->a'.defers=a.defers->(∀j,d≠j->a'.eval (.tmp j)=a.eval (.tmp j))->a'.eval (.tmp d)=v->Loc prog true Stop V (G (b.at a' (.inRegion ops rest::k)) cs) w):
  Loc prog true Stop V (G (b.at a (.inRegion ops (i::rest)::k)) cs) w:=by
 refine Loc.step rfl fun w₁ hr=>?_;have u:=bj a o.dst v;exact⟨_,_,_,V,stepG_entry (v:=v) (w':=w₁) (evs:=#[]) ho hw hk aE hf jq hb hn he (by simp [gN]) (by simp [gN]) (by simp),aY V w₁,(K _ u.size u.defers (fun j hj=>u.ne j (by rw [hd];intro h;exact hj (Option.some.inj h))) (u.eq d hd aU)).rely hr⟩
theorem aAd{b:Frame}{ab:Act}{todo:List Item}(hS:fg prog true S)(hn:b.kind=.normal)(hd:ab.defers=[])(hf:prog.funcs[b.fn]? =some fn)(hr:fn.results=#[])(ho:ops[i]? =some o)(hdd:o.dst=some d)
  (K:∀a',a'.tmps.size=a.tmps.size->a'.defers=a.defers->(∀j,d≠j->a'.eval (.tmp j)=a.eval (.tmp j))->Loc prog true Stop V (G (S a' (.inRegion ops rest::k)) cs) w):
  Loc prog true Stop V (G {b.at ab todo with mode:=.returning} (S a (.inRegion ops (i::rest)::k)::cs)) w:=by
 refine Loc.ctl rfl (fun w₁=>stepG_leave hn hd hf (results_none hr _ prog w₁) (events_results_none hr _ _)) ?_;rw [hS.finish,ho];have u:=bj a o.dst (.tuple #[]);exact K _ u.size u.defers (fun j hj=>u.ne j (by rw [hdd];intro h;exact hj (Option.some.inj h)))
theorem aN7:liesAt prog prog.depth 70 (2/prog.cellsOf 70) 0 70 1=true:=by kernel_rfl
theorem aAe(n off:Nat)(hn:n=2)(ho:off=0):liesAt prog prog.depth 70 (n/prog.cellsOf 70) off 70 1=true:=by
 rw [hn,ho];exact aN7
theorem awD:(prog.info? 70).map (fun i=>decide (i.size=0))=some false:=by kernel_rfl
theorem amf(rT:fg prog true S)(ho:ops[i]? =some o)(hdd:o.dst=some d)(aU:d<a0.tmps.size)(hT:Tidy V w)(hB:ba V w g (.cells #[.pointer none,.slice none 0 0] 70 (0,0))){T:Array Value}(mL:T=#[.pointer (some ⟨g,0,none⟩)]++Array.replicate 19 undef)
  (K:∀a' w',aG (· =g) aD V w V w'->Tidy V w'->ba V w' g (.cells #[.pointer (some ⟨g,0,none⟩),.slice none 0 0] 70 (0,0))->a'.tmps.size=a0.tmps.size->a'.defers=a0.defers->(∀j,d≠j->a'.eval (.tmp j)=a0.eval (.tmp j))->Loc prog true Stop V (G (S a' (.inRegion ops rest::k0)) cs) w'):
  Loc prog true Stop V (G ((base 32).at {tmps:=T,defers:=[]} [.code Ug]) (S a0 (.inRegion ops (i::rest)::k0)::cs)) w:=by
 have hS:=bh (P:=prog) (main:=true) (b:=base 32) (by decide)
 generalize ha:({tmps:=T,defers:=[]}:Act)=a;have hs:a.tmps.size=20:=by subst ha;subst mL;simp
 have hd:a.defers=[]:=by subst ha;rfl
 have h0:a.eval (.tmp 0)=.pointer (some ⟨g,0,none⟩):=by subst ha;subst mL;simp [Act.eval]
 clear ha;refine aj hS aVV (ag hS aVR (rl [0,1,2,3,4] rfl) (ay aj4 hS hs (af aj4.o h0) fun a ae h2=>t1 ae hs hd h0 fun hs hd h0=>?_));refine ay aj5 hS hs (bE aj5.o h2) fun a ae h3=>t1 ae hs hd h0 fun hs hd h0=>?_;refine ay aj6 hS hs (aB aj6.o h3 underlying70 rfl sizeOf68 (by decide) rfl) fun a ae h4=>t1 ae hs hd h0 fun hs hd h0=>?_
 refine ay aj7 hS hs (aL aj7.o h4 isAgg68 (hB.cK rfl)) fun a ae h5=>t1 ae hs hd h0 fun hs hd h0=>?_;refine ay aj8 hS hs (aAa aj8.o h5 rfl) fun a ae h6=>t1 ae hs hd h0 fun hs hd h0=>?_;refine ai hS (bY hS aVU h6 (ag hS aVS (rl [0,1,2,3,4,5,6,7] rfl) (ay aka hS hs (af aka.o h0) fun a ae h7=>t1 ae hs hd h0 fun hs hd h0=>?_)));refine ay akb hS hs (af akb.o h0) fun a ae h8=>t1 ae hs hd h7 fun hs hd h7=>?_;refine ay akc hS hs (jm akc.o h8 underlying68 underlying96 awD hB.2 (show 0<2 by decide) rfl) fun a ae h9=>t1 ae hs hd h7 fun hs hd h7=>?_
 obtain⟨j70,a1b⟩:∃j,prog.info? 70=some j:=by
  have:=awD;cases h:prog.info? 70 with
  |none=>rw [h]at this;cases this
  |some j=>exact⟨j,rfl⟩
 refine aN6 (b:=base 32) (.pointer (some ⟨g,0,none⟩)) Bs.a Bs.f (by decide) Bs.d (by rw [hs];decide) Bs.o func67 (by kernel_rfl) (by kernel_rfl) (by kernel_rfl) (e:=Extern.AbiNoEscape.same) (by kernel_rfl) (by rw [h9];rfl) fun a au an ah aM=>t1 ⟨au,an,ah⟩ hs hd h7 fun hs hd h7=>?_
 refine ay akd hS hs (NG akd.o aM underlying96 underlying68 a1b hB.2 (aAe _ _ rfl rfl)) fun a ae aH=>t1 ae hs hd h7 fun hs hd h7=>?_;refine ay ake hS hs (bE ake.o h7) fun a ae aJ=>t1 ae hs hd aH fun hs hd aH=>?_;refine ay akf hS hs (aB akf.o aJ underlying70 rfl sizeOf68 (by decide) rfl) fun a ae aK=>t1 ae hs hd aH fun hs hd aH=>?_
 have aK:a.eval (.tmp 13)=.pointer (some ⟨g,0,none⟩):=aK;refine gg Bt.a Bt.f hS Bt.d Bt.o aK aH (vs:=[.pointer (some ⟨g,0,none⟩)]) rfl sizeOf68 (fun u hu=>by simp at hu;subst hu;rfl) hB (by simp) hT fun w3 W3 B3 T3 z3=>?_
 exact ai hS (rX (b:=base 32) (aAd rT rfl hd func32 rfl ho hdd fun a2 s2 d2 n2=>K a2 w3 W3 T3 B3 s2 d2 n2))
end
section
variable {d g r c:Nat} {w:World} {a:Act} {rest:List Nat} {o:Oper}
theorem aag(rT:fg prog true S)(ho:ops[i]? =some o)(hdd:o.dst=some d)(aU:d<a0.tmps.size)(hT:Tidy V w)(hB:ba V w g (.cells #[.pointer none,.slice none 0 0] 70 (0,0)))(h0s:0<s.size)(h1s:s.size<=1000){T:Array Value}(mL:T=#[.pointer (some ⟨g,0,none⟩),.string s]++Array.replicate 17 undef)
  (K:∀a' V' w' r c cl,aG (· =g) aD V w V' w'->Tidy V' w'->ba V' w' g (.cells #[.pointer (some ⟨g,0,none⟩),.slice (some ⟨r,0,none⟩) s.size c] 70 (0,0))->ba V' w' r (.cells (s.data.map (fun b=>Value.int .u8 b.toNat)++cl) 5 (0,0))->w.heap.size<=r->s.size<=c->a'.tmps.size=a0.tmps.size->a'.defers=a0.defers->(∀j,d≠j->a'.eval (.tmp j)=a0.eval (.tmp j))->Loc prog true Stop V' (G (S a' (.inRegion ops rest::k0)) cs) w'):
  Loc prog true Stop V (G ((base 20).at {tmps:=T,defers:=[]} [.code TY]) (S a0 (.inRegion ops (i::rest)::k0)::cs)) w:=by
 have hS:=bh (P:=prog) (main:=true) (b:=base 20) (by decide)
 generalize ha:({tmps:=T,defers:=[]}:Act)=a;have hs:a.tmps.size=19:=by subst ha;subst mL;simp
 have hd:a.defers=[]:=by subst ha;rfl
 have h0:a.eval (.tmp 0)=.pointer (some ⟨g,0,none⟩):=by subst ha;subst mL;simp [Act.eval]
 have h1:a.eval (.tmp 1)=.string s:=by subst ha;subst mL;simp [Act.eval]
 clear ha;refine aj hS aVe (ag hS aU6 (rl [0,1] rfl) (ay aiU hS hs (ak aiU.o rfl) fun a ae h4=>t2 ae hs hd h0 h1 fun hs hd h0 h1=>?_));refine ay aiV hS hs (ak aiV.o rfl) fun a ae h5=>t3 ae hs hd h0 h1 h4 fun hs hd h0 h1 h4=>?_;refine ai hS (aj hS aVd (ag hS aU7 (rl [0,1] rfl) (ay aiX hS hs (af aiX.o h0) fun a ae h6=>t2 ae hs hd h0 h1 fun hs hd h0 h1=>?_)));refine bI wT.a wT.f hS wT.o func32 (by kernel_rfl) aMT (amf (g:=g) hS wT.a wT.d (by rw [hs];decide) hT hB (by simp only [List.map_toArray,List.map_cons,List.map_nil,h6];rfl) fun a w1 W1 T1 B1 au an ah=>?_)
 refine t2 ⟨au,an,ah⟩ hs hd h0 h1 fun hs hd h0 h1=>?_;refine ai hS (aj hS aVc (ag hS aU8 (rl [0,1,2,3,4,5,6,7,8,9] rfl) (ay aiZ hS hs (af aiZ.o h0) fun a ae h8=>t2 ae hs hd h0 h1 fun hs hd h0 h1=>?_)));refine ay ai0 hS hs (af ai0.o h0) fun a ae h9=>t2 ae hs hd h1 h8 fun hs hd h1 h8=>?_;refine ay ai1 hS hs (bE ai1.o h9) fun a ae aM=>t2 ae hs hd h1 h8 fun hs hd h1 h8=>?_;refine ay ai2 hS hs (aB ai2.o aM underlying70 rfl sizeOf25 (by decide) rfl) fun a ae aH=>t2 ae hs hd h1 h8 fun hs hd h1 h8=>?_
 refine ay ai3 hS hs (aL ai3.o aH isAgg25 (B1.cK rfl)) fun a ae aJ=>t2 ae hs hd h1 h8 fun hs hd h1 h8=>?_;have aJ:a.eval (.tmp 12)=.slice none 0 0:=aJ;refine ay ai4 hS hs (af ai4.o h1) fun a ae aK=>t3 ae hs hd h1 h8 aJ fun hs hd h1 h8 aJ=>?_;refine UX Bn.a Bn.f hS Bn.d (by rw [hs];decide) T1 Bn.o aJ aK h0s h1s fun r c cl a V2 w2 au an ah aW hsc W2 g2 B2 T2=>t2 ⟨au,an,ah⟩ hs hd h1 h8 fun hs hd h1 h8=>?_
 have B1':=B1.go W2;have hrg:g≠r:=B1'.ne B2 (by intro e;injection e with _ e2 _;cases e2)
 refine ay ai5 hS hs (bE ai5.o h8) fun a ae eS=>t2 ae hs hd h1 aW fun hs hd h1 aW=>?_;refine ay ai6 hS hs (aB ai6.o eS underlying70 rfl sizeOf25 (by decide) rfl) fun a ae fP=>t2 ae hs hd h1 aW fun hs hd h1 aW=>?_
 have fP:a.eval (.tmp 16)=.pointer (some ⟨g,1,none⟩):=fP;refine gg Bo.a Bo.f hS Bo.d Bo.o fP aW (vs:=[.slice (some ⟨r,0,none⟩) s.size c]) rfl sizeOf25 (fun u hu=>by simp at hu;subst hu;rfl) B1' (by simp) T2 fun w3 W3 B3 T3 z3=>?_
 have a1c:aG (· =g) aD V w V2 w3:=(W1.trans (W2.mono (fun _ h=>h.elim) fun _ h=>h.elim)).trans W3;have B3r:=B2.off W3 hrg.symm;refine ai hS (aj hS aVb (ag hS aU9 (rl [0,1,2,3] rfl) (ay ai8 hS hs (af ai8.o h1) fun a ae bT=>t0 ae hs hd fun hs hd=>?_)));refine ay ai9 hS hs (awB ai9.o bT) fun a ae jL=>t0 ae hs hd fun hs hd=>?_;refine ay aja hS hs (ak aja.o jL) fun a ae h4=>t0 ae hs hd fun hs hd=>?_;refine ay ajb hS hs (ak ajb.o rfl) fun a ae h5=>t0 ae hs hd fun hs hd=>?_;refine ai hS (dg (b:=base 20) aVa fun todo=>?_);exact NF rT rfl hd func20 rfl ho hdd aU fun a2 s2 d2 n2 e2=>K a2 V2 w3 r c cl a1c T3 B3 B3r (Nat.le_trans W1.size g2) hsc s2 d2 n2
theorem NH{l:List UInt8}{cl:Array Value}(rT:fg prog true S)(ho:ops[i]? =some o)(hdd:o.dst=some d)(aU:d<a0.tmps.size)(hg:prog.globals.size<=w0.heap.size)(yG:cx Shun w0)(hW:aG aI aD (bP Shun w0) w0 V w)(hT:Tidy V w)
  (hQ:ba V w g (.cells #[.pointer (some ⟨g,0,none⟩),.slice (some ⟨r,0,none⟩) l.length c] 70 (0,0)))(hR:ba V w r (.cells ((l.map fun b=>Value.int .u8 b.toNat).toArray++cl) 5 (0,0)))(h0l:l≠[])(h1l:l.length<=1000)(hc:l.length<=c){T:Array Value}(mL:T=#[.pointer (some ⟨g,0,none⟩)]++Array.replicate 13 undef)
  (K:∀w' a',cx Shun w'->prog.globals.size<=w'.heap.size->w.heap.size<=w'.heap.size->(∀b,V.own b->b≠r->nO Shun w' b/\w'.heap[b]? =w.heap[b]?)->a'.tmps.size=a0.tmps.size->a'.defers=a0.defers->(∀j,d≠j->a'.eval (.tmp j)=a0.eval (.tmp j))->a'.eval (.tmp d)=.string ⟨l.toArray⟩->fh Q Shun (bP Shun w') (G (S a' (.inRegion ops rest::k0)) cs) w'):
  fh Q Shun V (G ((base 22).at {tmps:=T,defers:=[]} [.code Ub]) (S a0 (.inRegion ops (i::rest)::k0)::cs)) w:=by
 have hS:=bh (P:=prog) (main:=true) (b:=base 22) (by decide)
 generalize ha:({tmps:=T,defers:=[]}:Act)=a;have hs:a.tmps.size=14:=by subst ha;subst mL;simp
 have hd:a.defers=[]:=by subst ha;rfl
 have h0:a.eval (.tmp 0)=.pointer (some ⟨g,0,none⟩):=by subst ha;subst mL;simp [Act.eval]
 clear ha;have hl0:l.length≠0:=by simpa using h0l
 refine aj hS aVr (ag hS aVn (rl [0] rfl) (ay ajt hS hs (ak ajt.o rfl) fun a ae h2=>t1 ae hs hd h0 fun hs hd h0=>?_));refine ai hS (aj hS aVq (avW hS aVo [3,4,5,6,7,8,9,10,11,12] [.val (.pointer (some ⟨g,0,none⟩)),.val (.pointer (some ⟨g,0,none⟩)),.val (.pointer (some ⟨g,1,none⟩)),.val (.slice (some ⟨r,0,none⟩) l.length c),.val (.pointer (some ⟨r,0,none⟩)),.val (.pointer (some ⟨g,0,none⟩)),.val (.pointer (some ⟨g,0,none⟩)),.val (.pointer (some ⟨g,1,none⟩)),.val (.slice (some ⟨r,0,none⟩) l.length c),.val (.int .i64 l.length)] [(0,.pointer (some ⟨g,0,none⟩))] 10 rfl (by kernel_rfl) qG.a qH.a (fu:=8) (by kernel_rfl) (by kernel_rfl) rfl rfl (by decide) (by simp) (fun a' V' w'=>V'=bP Shun w'/\cx Shun w'/\prog.globals.size<=w'.heap.size/\w.heap.size<=w'.heap.size/\(∀b,V.own b->b≠r->nO Shun w' b/\w'.heap[b]? =w.heap[b]?)/\a'.tmps.size=14/\a'.defers=[]/\a'.eval (.tmp 13)=.string ⟨l.toArray⟩) (fun a' V' w'=>V'=bP Shun w'/\cx Shun w'/\prog.globals.size<=w'.heap.size/\w.heap.size<=w'.heap.size/\(∀b,V.own b->b≠r->nO Shun w' b/\w'.heap[b]? =w.heap[b]?)/\a'.defers=[]/\a'.eval (.tmp 2)=.string ⟨l.toArray⟩) (by simp [h0]) hT ?_ ?_ ?_ ?_))
 ·intro i d s o rest hi aV aZ ho aa VV ww hB hI K;match i,hi with
  |0,_=>
   cases aV;cases aZ;obtain rfl:=Ng.w ho;have h0:=hB.sl 0 rfl;exact cU Ng hS hB hs (af Ng.o h0) K
  |1,_=>
   cases aV;cases aZ;obtain rfl:=Nh.w ho;have h3:=hI.av 0;exact cU Nh hS hB hs (bE Nh.o h3) K
  |2,_=>
   cases aV;cases aZ;obtain rfl:=Ni.w ho;have h4:=hI.av 1;exact cU Ni hS hB hs (aB Ni.o h4 underlying70 rfl sizeOf25 (by decide) rfl) K
  |3,_=>
   cases aV;cases aZ;obtain rfl:=Nj.w ho;have h5:=hI.av 2;exact cU Nj hS hB hs (aL Nj.o h5 isAgg25 ((hQ.go hB.aC).cK rfl)) K
  |4,_=>
   cases aV;cases aZ;obtain rfl:=Nk.w ho;have h6:=hI.av 3;exact cU Nk hS hB hs (UU Nk.o h6 (by omega)) K
  |5,_=>
   cases aV;cases aZ;obtain rfl:=Nl.w ho;have h0:=hB.sl 0 rfl;exact cU Nl hS hB hs (af Nl.o h0) K
  |6,_=>
   cases aV;cases aZ;obtain rfl:=Nn.w ho;have h8:=hI.av 5;exact cU Nn hS hB hs (bE Nn.o h8) K
  |7,_=>
   cases aV;cases aZ;obtain rfl:=Np.w ho;have h9:=hI.av 6;exact cU Np hS hB hs (aB Np.o h9 underlying70 rfl sizeOf25 (by decide) rfl) K
  |8,_=>
   cases aV;cases aZ;obtain rfl:=Nq.w ho;have aM:=hI.av 7;exact cU Nq hS hB hs (aL Nq.o aM isAgg25 ((hQ.go hB.aC).cK rfl)) K
  |9,_=>
   cases aV;cases aZ;obtain rfl:=Nr.w ho;have aH:=hI.av 8;exact cU Nr hS hB hs (dk Nr.o aH underlying25) K
  |n+10,hn=>exact absurd hn (by omega)
 ·intro rest aa VV ww hB hI K;have h7:aa.eval (.tmp 7)=(.pointer (some ⟨r,0,none⟩)):=hI.all 4 7 (.val (.pointer (some ⟨r,0,none⟩))) (by decide) rfl rfl
  have aJ:aa.eval (.tmp 12)=(.int .i64 l.length):=hI.all 9 12 (.val (.int .i64 l.length)) (by decide) rfl rfl
  refine ES (w0:=w0) (g:=r) (l:=l) (cl:=cl) hg yG (hW.trans hB.aC) hB.tidy qG.a qG.f hS qG.d (by rw [hB.size,hs];decide) qG.o h7 aJ h0l h1l (hR.go hB.aC) fun w5 a5 k1 k2 k3 k4 s5 d5 n5 e5=>K a5 _ w5 ⟨rfl,k1,k2,Nat.le_trans hB.aC.size k3,fun b hb cM=>?_,s5.trans (hB.size.trans hs),d5.trans (hB.defers.trans hd),e5⟩
  obtain⟨z1,z2⟩:=k4 b (hB.aC.mine b hb) cM;exact⟨z1,z2.trans (hB.aC.own b hb id)⟩
 ·intro rest aa VV ww hM K;obtain⟨m1,m2,m3,m4,m5,m6,m7,m8⟩:=hM;refine zw qH.a qH.f hS qH.d (by rw [m6];decide) (ak qH.o m8) fun a6 s6 d6 n6 e6=>K a6 _ ww ⟨m1,m2,m3,m4,m5,d6.trans m7,e6⟩
 ·skip;rintro a7 V7 w7 ⟨rfl,m2,m3,m4,m5,m7,m8⟩;refine dg (b:=base 22) aVp fun todo=>?_;exact dM rT rfl m7 func22 rfl ho hdd aU fun a2 s2 d2 n2 e2=>K w7 a2 m2 m3 m4 m5 s2 d2 n2 (by rw [e2];exact m8)
end
def yj:ByteArray:=⟨#[50,45,53]⟩
theorem amg:tz 2++⟨#[45]⟩++tz 5=yj:=by kernel_rfl
theorem awE:Instr.fill (fun i=>some (i*2,2)) ((Array.range (2*2)).map fun i=>(Value.agg #[.int .i64 0,.int .i64 0]).cells[i % (Value.agg #[.int .i64 0,.int .i64 0]).cells.size]!) [(0,.agg #[.int .i64 2,.int .i64 4]),(1,.agg #[.int .i64 4,.int .i64 5])]=some #[.int .i64 2,.int .i64 4,.int .i64 4,.int .i64 5]:=by
 simp [go_sem,Instr.fill]
theorem aah{V:View}{w:World}{g:Nat}(hgl:prog.globals.size<=g)(h:ba V w g (.cells #[.int .i64 2,.int .i64 4,.int .i64 4,.int .i64 5] 32 (0,0))):Closed V w (· =g):=Closed.one hgl h fun i hi=>by
 rcases i with _|_|_|_|i
 ·exact .int _ _
 ·exact .int _ _
 ·exact .int _ _
 ·exact .int _ _
 ·simp at hi;omega
theorem aAf{V:View}{w:World}{g:Nat}(h:ba V w g (.cells #[.int .i64 2,.int .i64 4,.int .i64 4,.int .i64 5] 32 (0,0))):Rg.rQ w (some ⟨g,0,none⟩) [⟨2,4⟩,⟨4,5⟩]:=fun j hj=>by
 rcases j with _|_|j
 ·exact⟨g,0,rfl,by simp [World.cell?,h.2],by simp [World.cell?,h.2]⟩
 ·exact⟨g,0,rfl,by simp [World.cell?,h.2],by simp [World.cell?,h.2]⟩
 ·simp at hj;omega
section
variable {d:Nat} {w:World} {a:Act} {rest:List Nat} {o:Oper}
theorem Fv{A:Option Addr}{cA:Nat}(rT:fg prog true S)(ho:ops[i]? =some o)(hdd:o.dst=some d)(aU:d<a0.tmps.size)(hg:prog.globals.size<=w0.heap.size)(yG:cx Shun w0)(hW:aG aI aD (bP Shun w0) w0 V w)(hT:Tidy V w)
  (hA:iC [⟨2,5⟩] A V w){T:Array Value}(mL:T=#[.agg #[.slice A 1 cA]]++Array.replicate 25 undef)
  (K:∀w' a',cx Shun w'->prog.globals.size<=w'.heap.size->w.heap.size<=w'.heap.size->(∀b,V.own b->b<w.heap.size->nO Shun w' b/\w'.heap[b]? =w.heap[b]?)->a'.tmps.size=a0.tmps.size->a'.defers=a0.defers->(∀j,d≠j->a'.eval (.tmp j)=a0.eval (.tmp j))->a'.eval (.tmp d)=.string yj->fh Q Shun (bP Shun w') (G (S a' (.inRegion ops rest::k0)) cs) w'):
  fh Q Shun V (G ((base 10).at {tmps:=T,defers:=[]} [.code TS]) (S a0 (.inRegion ops (i::rest)::k0)::cs)) w:=by
 have hS:=bh (P:=prog) (main:=true) (b:=base 10) (by decide)
 generalize ha:({tmps:=T,defers:=[]}:Act)=a;have hs:a.tmps.size=26:=by subst ha;subst mL;simp
 have hd:a.defers=[]:=by subst ha;rfl
 have h0:a.eval (.tmp 0)=.agg #[.slice A 1 cA]:=by subst ha;subst mL;simp [Act.eval]
 clear ha;refine aj hS aU5 (ag hS aUY (rl [0,1] rfl) (pg Bf.a Bf.f hS Bf.d (by rw [hs];decide) hT Bf.o h0 fun n1 a V1 w1 au an ah h1 W1 g1 B1 T1=>t0 ⟨au,an,ah⟩ hs hd fun hs hd=>?_))
 have B1:ba V1 w1 n1 (.cells #[.slice A 1 cA] 39 (0,0)):=B1;refine ay aiA hS hs (ak aiA.o rfl) fun a ae h2=>t1 ae hs hd h1 fun hs hd h1=>?_;refine ai hS (aj hS aU4 (aj hS aU3 (ag hS aUZ (rl [0,1,2,3] rfl) (ay aiD hS hs (aB aiD.o h1 underlying39 rfl sizeOf37 (by decide) rfl) fun a ae h6=>t1 ae hs hd h1 fun hs hd h1=>?_))))
 refine ay aiE hS hs (aL aiE.o h6 isAgg37 (B1.cK rfl)) fun a ae h7=>t1 ae hs hd h1 fun hs hd h1=>?_;have h7:a.eval (.tmp 7)=.slice A 1 cA:=h7;refine ay aiF hS hs (dk aiF.o h7 underlying37) fun a ae h8=>t1 ae hs hd h1 fun hs hd h1=>?_;refine ay aiG hS hs (eH aiG.o h8 rfl) fun a ae h9=>t1 ae hs hd h1 fun hs hd h1=>?_;have h9:a.eval (.tmp 9)=.bool false:=by rw [h9];rfl
 refine ai hS (aX hS aU2 h9 (q_skip hS aU1 (aj hS aMt (ag hS aL6 (rl [0] rfl) (dN Bh.a Bh.f hS Bh.d (by rw [hs];decide) T1 Bh.o Tryz.zeroValue70 fun g a V2 w2 au an ah h3 W2 g2 B2 T2=>t1 ⟨au,an,ah⟩ hs hd h1 fun hs hd h1=>?_)))))
 have B2:ba V2 w2 g (.cells #[.pointer none,.slice none 0 0] 70 (0,0)):=B2;have B12:=B1.go W2;refine ai hS (aj hS aMs (aj hS aMo (ag hS aL7 (rl [0,1,2,3] rfl) (ay aiI hS hs (aB aiI.o h1 underlying39 rfl sizeOf37 (by decide) rfl) fun a ae aM=>t1 ae hs hd h3 fun hs hd h3=>?_))))
 refine ay aiJ hS hs (aL aiJ.o aM isAgg37 (B12.cK rfl)) fun a ae aH=>t1 ae hs hd h3 fun hs hd h3=>?_;have aH:a.eval (.tmp 11)=.slice A 1 cA:=aH;refine ay aiK hS hs (dk aiK.o aH underlying37) fun a ae aJ=>t2 ae hs hd h3 aH fun hs hd h3 aH=>?_;have aJ:a.eval (.tmp 12)=.int .i64 1:=aJ;refine ay aiL hS hs (af aiL.o rfl) fun a ae aK=>t3 ae hs hd h3 aH aJ fun hs hd h3 aH aJ=>?_;have aK:a.eval (.tmp 13)=.int .i64 ((0:Nat):Int):=aK;refine ai hS (bV hS aMn (iU hS aMm (aj hS auV (ag hS auO aC9 (ay Bi hS hs (du Bi.o aK aJ) fun a ae aW=>t4 ae hs hd h3 aH aJ aK fun hs hd h3 aH aJ aK=>?_)))));have aW:a.eval (.tmp 14)=.bool true:=by rw [aW];rfl
 refine ai hS (aj hS auU (bY hS auR aW (q_skip hS aL8 (aj hS aMl (bV hS aMj (aj hS aMi ?_))))));obtain⟨ab,ao,eA,a1,a2⟩:=hA 0 (by decide)
 subst eA;refine ag hS aMa (rl [0,1,2,3,4,5] rfl) (ay aiM hS hs (af aiM.o aK) fun a ae eS=>t4 ae hs hd h3 aH aJ aK fun hs hd h3 aH aJ aK=>?_);refine ay aiN hS hs (cT (s:=2) aiN.o aH aK underlying37 sizeOf32 (by decide)) fun a ae fP=>t4 ae hs hd h3 aJ aK eS fun hs hd h3 aJ aK eS=>?_
 refine ay aiO hS hs (eu aiO.o fP isAgg32 sizeOf32 ((a1.go W1).go W2) ((a2.go W1).go W2)) fun a ae bT=>t4 ae hs hd h3 aJ aK eS fun hs hd h3 aJ aK eS=>?_;have bT:a.eval (.tmp 17)=.agg #[.int .i64 2,.int .i64 5]:=bT;refine dN Bj.a Bj.f hS Bj.d (by rw [hs];decide) T2 Bj.o Tryz.zeroValue32 fun n5 a V3 w3 au an ah h5 W3 g3 B3 T3=>t5 ⟨au,an,ah⟩ hs hd h3 aJ aK eS bT fun hs hd h3 aJ aK eS bT=>?_
 have B3:ba V3 w3 n5 (.cells #[.int .i64 0,.int .i64 0] 32 (0,0)):=B3;refine ay aiP hS hs (ak aiP.o eS) fun a ae h4=>t5 ae hs hd h3 aJ aK bT h5 fun hs hd h3 aJ aK bT h5=>?_;refine gg Bm.a Bm.f hS Bm.d Bm.o h5 bT (vs:=[.int .i64 2,.int .i64 5]) rfl sizeOf32 (fun u hu=>by simp at hu;rcases hu with rfl|rfl<;>rfl) B3 (by simp) T3 fun w4 W4 B4 T4 z4=>?_
 have W34:=W3.fresh W4 g3 T2;have W14:=(W1.trans W2).trans W34;have Bg:=B2.go W34;refine ai hS (aj hS aMh (aj hS aMf (ag hS aMb (rl [0,1] rfl) (ay aiQ hS hs (af aiQ.o h4) fun a ae jL=>t4 ae hs hd h3 aJ aK h5 fun hs hd h3 aJ aK h5=>?_))));refine ay aiR hS hs (yo aiR.o jL rfl) fun a ae dz=>t4 ae hs hd h3 aJ aK h5 fun hs hd h3 aJ aK h5=>?_;have dz:a.eval (.tmp 19)=.bool false:=by rw [dz];rfl
 refine ai hS (aX hS aMe dz (q_skip hS aMd (ag hS aMg (rl [0,1,2] rfl) (ay aiT hS hs (eu aiT.o h5 isAgg32 sizeOf32 (B4.cK rfl) (B4.cK rfl)) fun a ae cD=>t3 ae hs hd h3 aJ aK fun hs hd h3 aJ aK=>?_))));have cD:a.eval (.tmp 21)=.agg #[.int .i64 2,.int .i64 5]:=cD;refine bI wR.a wR.f hS wR.o func21 (by kernel_rfl) aMH (ame hS wR.a wR.d (by rw [hs];decide) T4 (by simp only [List.map_toArray,List.map_cons,List.map_nil,cD];rfl) fun a V5 w5 W5 T5 au an ah kE=>?_)
 rw [amg]at kE;refine t3 ⟨au,an,ah⟩ hs hd h3 aJ aK fun hs hd h3 aJ aK=>?_;have Bg5:=Bg.go W5;refine bI wS.a wS.f hS wS.o func20 (by kernel_rfl) aMv (aag (g:=g) (s:=yj) hS wS.a wS.d (by rw [hs];decide) T5 Bg5 (by decide) (by decide) (by simp only [List.map_toArray,List.map_cons,List.map_nil,h3,kE];rfl) fun a V6 w6 r c cl W6 T6 B6 R6 gr hc au an ah=>?_)
 refine t3 ⟨au,an,ah⟩ hs hd h3 aJ aK fun hs hd h3 aJ aK=>?_;have aAg:w.heap.size<=g:=Nat.le_trans W1.size g2;have W16:=(W14.trans W5).fresh W6 aAg hT;refine ai hS (c7 hS (ag hS aMk (rl [0,1] rfl) (ay TV hS hs (gQ TV.o aK rfl) fun a ae oi=>t3 ae hs hd h3 aJ aK fun hs hd h3 aJ aK=>?_)));have oi:a.eval (.tmp 24)=.int .i64 1:=by rw [oi];rfl
 refine ay TW hS hs (af TW.o oi) fun a ae aK=>t2 ae hs hd h3 aJ fun hs hd h3 aJ=>?_;refine ai hS (dW hS (aj hS auV (ag hS auO aC9 (ay Bi hS hs (du Bi.o aK aJ) fun a ae aW=>t1 ae hs hd h3 fun hs hd h3=>?_))));have aW:a.eval (.tmp 14)=.bool false:=by rw [aW];rfl
 refine ai hS (aj hS auU (aX hS auR aW (q_exit hS aL9 rfl (aj hS aMr (ag hS aMp (rl [0,1] rfl) ?_)))));have R6':ba V6 w6 r (.cells (([50,45,53].map fun b:UInt8=>Value.int .u8 b.toNat).toArray++cl) 5 (0,0)):=by
  have e:Array.map (fun b:UInt8=>Value.int .u8 b.toNat) yj.data=([50,45,53].map fun b:UInt8=>Value.int .u8 b.toNat).toArray:=by simp [yj]
  rw [e]at R6;exact R6
 refine bI qE.a qE.f hS qE.o func22 (by kernel_rfl) aMI (NH (w0:=w0) (g:=g) (r:=r) (c:=c) (l:=[50,45,53]) (cl:=cl) hS qE.a qE.d (by rw [hs];decide) hg yG (hW.trans W16) T6 B6 R6' (by decide) (by decide) hc (by simp only [List.map_toArray,List.map_cons,List.map_nil,h3];rfl) fun w7 a q1 q2 q3 q4 au an ah o9=>?_)
 refine t0 ⟨au,an,ah⟩ hs hd fun hs hd=>?_;refine ay TX hS hs (ak TX.o o9) fun a ae h2=>t0 ae hs hd fun hs hd=>?_;refine ai hS (dg (b:=base 10) aMq fun todo=>?_);refine dM rT rfl hd func10 rfl ho hdd aU fun a2 s2 d2 n2 e2=>K w7 a2 q1 q2 (Nat.le_trans W16.size q3) (fun b hb hlb=>?_) s2 d2 n2 (by rw [e2];exact h2)
 have hr:w.heap.size<=r:=Nat.le_trans (W14.trans W5).size gr;obtain⟨z1,z2⟩:=q4 b (W16.mine b hb) (by omega)
 exact⟨z1,z2.trans (W16.own b hb id)⟩
theorem lJ(rT:fg prog true S)(ho:ops[i]? =some o)(hdd:o.dst=some d)(aU:d<a0.tmps.size)(hg:prog.globals.size<=w0.heap.size)(yG:cx Shun w0)(hW:aG aI aD (bP Shun w0) w0 V w)(hT:Tidy V w)
  {T:Array Value}(mL:T=#[]++Array.replicate 7 undef)
  (K:∀w' a',cx Shun w'->prog.globals.size<=w'.heap.size->w.heap.size<=w'.heap.size->(∀b,V.own b->b<w.heap.size->nO Shun w' b/\w'.heap[b]? =w.heap[b]?)->a'.tmps.size=a0.tmps.size->a'.defers=a0.defers->(∀j,d≠j->a'.eval (.tmp j)=a0.eval (.tmp j))->a'.eval (.tmp d)=.bool true->fh Q Shun (bP Shun w') (G (S a' (.inRegion ops rest::k0)) cs) w'):
  fh Q Shun V (G ((base 4).at {tmps:=T,defers:=[]} [.code auE]) (S a0 (.inRegion ops (i::rest)::k0)::cs)) w:=by
 have hS:=bh (P:=prog) (main:=true) (b:=base 4) (by decide)
 obtain⟨i32,avM,avN,EE,aV2⟩:=info_parts Rg.dY;generalize ha:({tmps:=T,defers:=[]}:Act)=a;have hs:a.tmps.size=7:=by subst ha;subst mL;simp
 have hd:a.defers=[]:=by subst ha;rfl
 clear ha;refine aj hS aZE (ag hS aZA (rl [0] rfl) (ay auF hS hs (ak auF.o rfl) fun a ae h0=>t0 ae hs hd fun hs hd=>?_));refine ai hS (aj hS aZD (ag hS aZB (rl [0,1,2,3,4,5,6] rfl) (ay auG hS hs (lA auG.o (cells:=#[.int .i64 2,.int .i64 4]) (by kernel_rfl)) fun a ae h1=>t0 ae hs hd fun hs hd=>?_)))
 refine ay auH hS hs (lA auH.o (cells:=#[.int .i64 4,.int .i64 5]) (by kernel_rfl)) fun a ae h2=>t1 ae hs hd h1 fun hs hd h1=>?_
 refine jW MU.a MU.f hS MU.d (by rw [hs];decide) hT MU.o underlying37 avM avN (by rw [EE];decide) (by rw [EE];decide) (cells:=#[.int .i64 2,.int .i64 4,.int .i64 4,.int .i64 5]) (by simp only [List.map_toArray,List.map_cons,List.map_nil,h1,h2,EE];exact awE) fun g a V1 w1 au an ah h3 W1 g1 B1 T1=>t0 ⟨au,an,ah⟩ hs hd fun hs hd=>?_
 refine GI (l:=Rg.nG [⟨2,4⟩,⟨4,5⟩]) (· =g) MW.a MW.f hS MW.d (by rw [hs];decide) T1 MW.o (by kernel_rfl) (aah (Nat.le_trans hT.gl g1) B1) ?_ (fun t=>?_) fun C' a V2 w2 au an ah W2 T2 z6 _ _ z9=>?_
 ·simp only [List.map_toArray,List.map_cons,List.map_nil,h3];exact ar1 (.slice _ _ _ ⟨T1.low.own g B1.1,.inl rfl⟩)
 ·simp only [List.map_toArray,List.map_cons,List.map_nil,h3];exact Rg.EB _ 2 [⟨2,4⟩,⟨4,5⟩] _ (gA (aAf B1) fun ad e=>by cases e;rfl) (by simp)
 rw [show Rg.nG [⟨2,4⟩,⟨4,5⟩]=[⟨2,5⟩] by decide]at z9
 obtain⟨A,cA,h4,hA⟩:=z9.cK z6;refine t0 ⟨au,an,ah⟩ hs hd fun hs hd=>?_;have h4:a.eval (.tmp 4)=.agg #[.slice A 1 cA]:=h4;refine bI Er.a Er.f hS Er.o func10 (by kernel_rfl) aMu (Fv (w0:=w0) (A:=A) (cA:=cA) hS Er.a Er.d (by rw [hs];decide) hg yG ((hW.trans W1).trans W2) T2 hA (by simp only [List.map_toArray,List.map_cons,List.map_nil,h4];rfl) fun w3 a q1 q2 q3 q4 au an ah h5=>?_)
 refine t0 ⟨au,an,ah⟩ hs hd fun hs hd=>?_;refine ay auI hS hs (awy auI.o h5 rfl) fun a ae h6=>t0 ae hs hd fun hs hd=>?_;have h6:a.eval (.tmp 6)=.bool true:=by rw [h6,show(⟨#[50,45,53]⟩:ByteArray)=yj from rfl,beq_self_eq_true]
 refine ay auJ hS hs (ak auJ.o h6) fun a ae h0=>t0 ae hs hd fun hs hd=>?_;refine ai hS (dg (b:=base 4) aZC fun todo=>?_);refine dM rT rfl hd func4 rfl ho hdd aU fun a2 s2 d2 n2 e2=>K w3 a2 q1 q2 (Nat.le_trans (W1.trans W2).size q3) (fun b hb hlb=>?_) s2 d2 n2 (by rw [e2];exact h0)
 obtain⟨z1,z2⟩:=q4 b ((W1.trans W2).mine b hb) (Nat.lt_of_lt_of_le hlb (W1.trans W2).size);exact⟨z1,z2.trans ((W1.trans W2).own b hb id)⟩
end
end Go.Proofs.YtmcddajniiaieaaGreatDoor
