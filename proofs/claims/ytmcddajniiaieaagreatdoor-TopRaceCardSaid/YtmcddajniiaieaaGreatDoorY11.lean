/- For every argument and under every schedule TopRace returns true and each argument reads as before: the tied card. -/
import Derived.Test.YtmcddajniiaieaaGreatDoorY10
import Derived.Test.YtmcddajniiaieaaGreatDoorTie
import Derived.Test.YtmcddajniiaieaaGreatDoorCards
import Derived.ProofKit
import Derived.Deep.Slices
import Derived.ChangeArms
import Derived.Lib.SmallJoins
import Derived.OpenShut
import Derived.ShutString
import Derived.ChangeOld
import Derived.LaidMore
import Derived.Stop.Joined
import Derived.SevenTiedAt
import Derived.Clock
import Derived.Conc.HoldsTime
set_option linter.unusedVariables false
set_option linter.unusedSimpArgs false
namespace Go.Proofs.YtmcddajniiaieaaGreatDoor
open Go Go.Conc Go.ConcM Go.Proofs.Tryz
variable {j i oC jC ns N C st ac rI:Nat} {V V' V0 V1:View} {w' w0 w1:World} {oA jA:Option Addr} {L:List (Int×Jb)} {Q:(Go.Loc->Prop)->Goroutine->World->Prop} {Shun:Go.Loc->Prop} {b:Frame} {k:List Item} {cs:List Frame} {Stop:View->Goroutine->World->Prop}
def RD.one(R:RD)(j:Nat):RD:={R with js:=[R.k7 j]}
variable {R:RD}
def RD.aAh(R:RD)(k j:Nat)(no:Int):Prop:=(R.k7 j).1=k/\∃s,1<=s/\s<=R.qL j/\no=R.item j s
def RD.hasB(R:RD)(k i:Nat)(x:Int):Prop:=∃j no,j<i/\R.aAh k j no/\(R.yU (fun _=>0) 0).lo no<=x/\x<(R.yU (fun _=>0) 0).hi k no
structure RD.yI(R:RD)(k i:Nat)(S:List Rg.Sp):Prop where
 norm:Rg.Norm S
 mem:∀x,Rg.Mem S x↔R.hasB k i x
 len:S.length<=1000
section
variable {k:Nat} {S S':List Rg.Sp} {l:List Int}
theorem RD.amh(R:RD)(j:Nat):(R.one j).bytes 0=R.bytes j:=rfl
theorem RD.ami(R:RD)(j:Nat):(R.one j).whole 0=R.whole j:=rfl
theorem RD.awF(R:RD)(j k:Nat)(no:Int):(∃j',j'<(R.one j).js.length/\((R.one j).k7 j').1=k/\∃s,1<=s/\s<=(R.one j).qL j'/\no=(R.one j).item j' s)↔R.aAh k j no:=by
 constructor
 ·rintro⟨j',h1,h2⟩;have:j'=0:=by
   have:(R.one j).js.length=1:=rfl;omega
  subst this;exact h2
 ·intro h;exact⟨0,by show 0<1;omega,h⟩
theorem ET(h:R.Ok)(hl:R.InS k l)(x:Int):Rg.Mem (R.cX k l) x↔∃no∈l,(R.yU (fun _=>0) 0).lo no<=x/\x<(R.yU (fun _=>0) 0).hi k no:=
 rF (h.yU (yg 0 (fun _=>0) 0 0)) l hl x
theorem qP:Rg.Norm (R.cX k l):=kZ _
theorem EU(h:R.Ok)(hl:R.InS k l):(R.cX k l).length<=60:=GL (h.yU (yg 0 (fun _=>0) 0 0)) hl
theorem aAi(R:RD)(k:Nat):R.yI k 0 []:=⟨Rg.kT,fun x=>⟨fun h=>absurd h (Rg.rC x),fun⟨j,no,h,_⟩=>absurd h (Nat.not_lt_zero _)⟩,by simp⟩
theorem amj(h:R.Ok)(hl:R.InS k l)(hm:∀no,no∈l↔∃j,j<R.js.length/\(R.k7 j).1=k/\∃s,1<=s/\s<=R.qL j/\no=R.item j s):R.yI k R.js.length (R.cX k l):=by
 refine⟨qP,fun x=>?_,by have:=EU h hl;omega⟩
 rw [ET h hl];constructor
 ·rintro⟨no,hn,h1,h2⟩;obtain⟨j,hj,hx⟩:=(hm no).1 hn;exact⟨j,no,hj,hx,h1,h2⟩
 ·rintro⟨j,no,hj,hx,h1,h2⟩;exact⟨no,(hm no).2 ⟨j,hj,hx⟩,h1,h2⟩
theorem awG(h:R.Ok)(ha:R.yI k i S)(hl:R.InS k l)(hm:∀no,no∈l↔R.aAh k i no):R.yI k (i+1) (Rg.yT S (R.cX k l)):=by
 have Cd:∀x,Rg.Mem (Rg.yT S (R.cX k l)) x↔R.hasB k (i+1) x:=fun x=>by
  rw [Rg.avq ha.norm qP,ha.mem,ET h hl];constructor
  ·rintro(⟨j,no,hj,hx⟩|⟨no,hn,h1,h2⟩)
   ·exact⟨j,no,by omega,hx⟩
   ·exact⟨i,no,by omega,(hm no).1 hn,h1,h2⟩
  ·rintro⟨j,no,hj,hx,h1,h2⟩;by_cases e:j=i
   ·subst e;exact .inr ⟨no,(hm no).2 hx,h1,h2⟩
   ·exact .inl ⟨j,no,by omega,hx,h1,h2⟩
 refine⟨Rg.Nu _ _,Cd,?_⟩;have hn:=Rg.Nu S (R.cX k l);have rn:=h.len k;have e:(R.yU (fun _=>0) 0).len k=((R.iH k).length:Int):=rfl;have:=tw (Rg.yT S (R.cX k l)) 0 60 hn (fun s hs=>by
  have ok:=hn.1 s hs;have o1:0<=s.f:=ok.1;have o2:s.f<s.t:=ok.2.1;refine⟨o1,?_⟩;have hx:Rg.Mem (Rg.yT S (R.cX k l)) (s.t-1):=⟨s,hs,by omega,by omega⟩
  obtain⟨j,no,_,_,_,y⟩:=(Cd _).1 hx;have:(R.yU (fun _=>0) 0).hi k no<=(R.yU (fun _=>0) 0).len k:=Int.min_le_right _ _;omega) (by omega)
 omega
theorem aN8(h:R.yI k i S)(h':R.yI k i S'):S=S':=Rg.qI h.norm h'.norm fun x=>by rw [h.mem,h'.mem]
end
structure dD(V:View)(w:World)(V':View)(w':World):Prop where
 size:w.heap.size<=w'.heap.size
 own:∀b,V.own b->V'.own b/\w'.heap[b]? =w.heap[b]?
section
variable {dq:View} {w cO:World} {ad:Addr} {v:Value} {b:Nat} {o:Obj}
theorem dD.refl(V:View)(w:World):dD V w V w:=⟨Nat.le_refl _,fun b h=>⟨h,rfl⟩⟩
theorem dD.aC(k:aG aI aD V w V' w'):dD V w V' w':=⟨k.size,fun b h=>⟨k.mine b h,k.own b h id⟩⟩
theorem dD.trans(h:dD V w V' w')(k:dD V' w' dq cO):dD V w dq cO:=⟨Nat.le_trans h.size k.size,fun b hb=>⟨(k.own b (h.own b hb).1).1,(k.own b (h.own b hb).1).2.trans (h.own b hb).2⟩⟩
theorem gX.keep(h:gX V w ad v)(k:dD V w V' w'):gX V' w' ad v:=⟨(k.own _ h.1).1,by
 have:=h.2;simp only [World.cell?,(k.own _ h.1).2]at this⊢;exact this⟩
theorem ba.keep(h:ba V w b o)(k:dD V w V' w'):ba V' w' b o:=⟨(k.own _ h.1).1,(k.own _ h.1).2.trans h.2⟩
theorem Row.keep{e:TypeId}{size n:Nat}{xs:List Value}(h:Row V w e size v n xs)(k:dD V w V' w'):Row V' w' e size v n xs:=⟨ew h.1 fun g hg=>(k.own g (h.2 g hg)).2,fun g hg=>(k.own g (h.2 g hg)).1⟩
theorem Closed.keep{C:Nat->Prop}(h:Closed V w C)(k:dD V w V' w'):Closed V' w' C:=⟨h.tt,fun b hb=>by
 obtain⟨h1,o,h2,h3⟩:=h b hb;exact⟨(k.own b h1).1,o,(k.own b h1).2.trans h2,OR.gF h3 (fun _=>id) k.size⟩⟩
theorem gI.keep{C:Nat->Prop}{l:List Rg.Sp}(h:gI w C v l)(hC:Closed V w C)(k:dD V w V' w'):gI w' C v l:=h.blocks fun b hb=>⟨hb,(k.own b (hC b hb).1).2⟩
theorem Ran.keep{R:RD}{C st:Nat}{bc:Go.Loc->Prop}{w1:World}(h:Ran R C st V w bc w1 V' w')(hT:Tidy V w):dD V w V' w':=
 ⟨Nat.le_trans h.size h.aC.size,fun b hb=>by
  obtain⟨x,y⟩:=h.old b hb (hT.low.own b hb);exact⟨h.aC.mine b x,(h.aC.own b x id).trans y⟩⟩
theorem aN2.keep{R:RD}{bc:Go.Loc->Prop}{w1:World}(h:aN2 R V w bc w1)(hT:Tidy V w):dD V w (bP bc w1) w1:=⟨h.size,fun b hb=>h.old b hb (hT.low.own b hb)⟩
structure yk(R:RD)(oA:Option Addr)(V:View)(w:World):Prop where
 l9:∀k,k<R.ns->∃ob oo,oA=some ⟨ob,oo,none⟩/\gX V w ⟨ob,oo+k,none⟩ (.slice (R.bs k) (R.iH k).length (R.cp k))
 low:∀k,k<R.ns->R.iH k≠[]->∀b o,R.bs k=some ⟨b,o,none⟩->b<w.heap.size
 byt:∀k,k<R.ns->∀b o,R.bs k=some ⟨b,o,none⟩->∀j x,(R.iH k)[j]? =some x->gX V w ⟨b,o+j,none⟩ (dG x)
def mM(L:List (Int×Jb))(A:Option Addr)(V:View)(w:World):Prop:=
 ∀j (hj:j<L.length),∃jb jo,A=some ⟨jb,jo,none⟩/\gX V w ⟨jb,jo+j*4,none⟩ (.int .i64 L[j].1)/\gX V w ⟨jb,jo+j*4+1,none⟩ (.int .i64 L[j].2.f)/\gX V w ⟨jb,jo+j*4+2,none⟩ (.int .i64 L[j].2.t)/\gX V w ⟨jb,jo+j*4+3,none⟩ (.int .i64 L[j].2.q)
theorem yk.keep(h:yk R oA V w)(k:dD V w V' w'):yk R oA V' w':=⟨fun x hx=>by
 obtain⟨ob,oo,e,z⟩:=h.l9 x hx;exact⟨ob,oo,e,z.keep k⟩,fun x hx cM b o e=>Nat.lt_of_lt_of_le (h.low x hx cM b o e) k.size,fun x hx b o e j y hj=>(h.byt x hx b o e j y hj).keep k⟩
theorem yk.at_(h:yk R oA V w):yH R oA V w:=⟨fun x hx=>by
 obtain⟨ob,oo,e,z⟩:=h.l9 x hx;exact⟨ob,oo,e,z.cK⟩,fun x hx b o e=>⟨fun cM=>h.low x hx cM b o e,fun j y hj=>h.byt x hx b o e j y hj⟩⟩
theorem mM.keep(h:mM L jA V w)(k:dD V w V' w'):mM L jA V' w':=fun j hj=>by
 obtain⟨jb,jo,e,x0,x1,x2,x3⟩:=h j hj;exact⟨jb,jo,e,x0.keep k,x1.keep k,x2.keep k,x3.keep k⟩
theorem mM.in_(h:mM L jA V w):l4 L jA V w:=fun j hj=>by
 obtain⟨jb,jo,e,x0,x1,x2,x3⟩:=h j hj;exact⟨jb,jo,e,x0.cK,x1.cK,x2.cK,x3.cK⟩
theorem mM.own(h:mM L jA V w)(jb jo:Nat)(e:jA=some ⟨jb,jo,none⟩)(hl:0<L.length):V.own jb:=by
 obtain⟨jb',jo',e',x0,_⟩:=h 0 hl;rw [e]at e';cases e';exact x0.1
end
structure mN(Shun:Go.Loc->Prop)(w0:World)(V:View)(w:World):Prop where
 hg:prog.globals.size<=w0.heap.size
 so:cx Shun w0
 aC:aG aI aD (bP Shun w0) w0 V w
 tidy:Tidy V w
def aai(Q:(Go.Loc->Prop)->Goroutine->World->Prop)(b:Frame)(cs:List Frame)(V0:View)(w0:World):Prop:=
 ∀Shun w1 V w a todo,mN Shun w1 V w->dD V0 w0 V w->a.defers=[]->a.eval (.tmp 6)=.bool true->fh Q Shun V (G {b.at a todo with mode:=.returning} cs) w
section
variable {w:World} {a:Act} {x:Int}
theorem mN.go(h:mN Shun w1 V w)(k:aG aI aD V w V' w')(hT:Tidy V' w'):mN Shun w1 V' w':=⟨h.hg,h.so,h.aC.trans k,hT⟩
theorem mN.new(hg:prog.globals.size<=w.heap.size)(so:cx Shun w):mN Shun w (bP Shun w) w:=⟨hg,so,.refl _ _,k8 hg⟩
theorem Ran.here{C st:Nat}(h:Ran R C st V w Shun w1 V' w'):mN Shun w1 V' w':=⟨h.hg,h.so,h.aC,h.tidy⟩
theorem a1d(hk:b.kind≠.early)(hE:aai Q b cs V0 w0)(hH:mN Shun w1 V w)(hK:dD V0 w0 V w)(hs:a.tmps.size=181)(hd:a.defers=[]):fh Q Shun V (G (b.at a (.code Tw::k)) cs) w:=by
 have hS:=ly hk;refine aj hS aTg (ag hS aTe (rl [0,1] rfl) (bI Eg.a Eg.f hS Eg.o func4 (by kernel_rfl) aiz (lJ (w0:=w1) hS Eg.a Eg.d (by rw [hs];decide) hH.hg hH.so hH.aC hH.tidy (by simp only [List.map_toArray,List.map_nil];rfl) fun w2 a q1 q2 q3 q4 au an ah iT=>?_)))
 refine t0 ⟨au,an,ah⟩ hs hd fun hs hd=>?_;refine ay as2 hS hs (ak as2.o iT) fun a ae h6=>t0 ae hs hd fun hs hd=>?_;exact ai hS (dg aTf fun todo=>hE _ _ _ _ _ todo (.new q2 q1) (hK.trans ⟨q3,fun b hb=>q4 b hb (hH.tidy.low.own b hb)⟩) hd h6)
theorem aWW(hk:b.kind≠.early)(hE:aai Q b cs V0 w0)(hH:mN Shun w1 V w)(hK:dD V0 w0 V w)(hs:a.tmps.size=181)(hd:a.defers=[]):fh Q Shun V (G (b.at a (.code asJ::k)) cs) w:=by
 have hS:=ly hk;refine aj hS aZq (ag hS aZo (rl [0,1] rfl) (bI Ef.a Ef.f hS Ef.o func4 (by kernel_rfl) aiz (lJ (w0:=w1) hS Ef.a Ef.d (by rw [hs];decide) hH.hg hH.so hH.aC hH.tidy (by simp only [List.map_toArray,List.map_nil];rfl) fun w2 a q1 q2 q3 q4 au an ah lg=>?_)))
 refine t0 ⟨au,an,ah⟩ hs hd fun hs hd=>?_;refine ay asK hS hs (ak asK.o lg) fun a ae h6=>t0 ae hs hd fun hs hd=>?_;exact ai hS (dg aZp fun todo=>hE _ _ _ _ _ todo (.new q2 q1) (hK.trans ⟨q3,fun b hb=>q4 b hb (hH.tidy.low.own b hb)⟩) hd h6)
structure Lt1(oA:Option Addr)(ns oC:Nat)(jA:Option Addr)(N jC:Nat)(x:Int)(i:Nat)(a:Act):Prop where
 hs:a.tmps.size=181
 hd:a.defers=[]
 h0:a.eval (.tmp 0)=.slice oA ns oC
 h1:a.eval (.tmp 1)=.slice jA N jC
 h2:a.eval (.tmp 2)=.int .u8 x
 bG:a.eval (.tmp 32)=.slice oA ns oC
 bJ:a.eval (.tmp 33)=.int .i64 ns
 cQ:a.eval (.tmp 34)=.int .i64 i
theorem awH(hk:b.kind≠.early)(rS:R.ns<=4)(hE:aai Q b cs V0 w0)(hH:mN Shun w1 V w)(hK:dD V0 w0 V w)(hO:yk R oA V w)
  (K:∀a',(∀k,k<R.ns->(R.iH k).length<=60)->a'.tmps.size=181->a'.defers=[]->a'.eval (.tmp 0)=.slice oA R.ns oC->a'.eval (.tmp 1)=.slice jA N jC->a'.eval (.tmp 2)=.int .u8 x->fh Q Shun V (G (b.at a' k) cs) w):
  ∀(n i:Nat) (a:Act),n=R.ns-i->i<=R.ns->(∀k,k<i->(R.iH k).length<=60)->Lt1 oA R.ns oC jA N jC x i a->fh Q Shun V (G (b.at a (.code Gw::.inLoop Gw::.inBlock 0::k)) cs) w:=by
 have hS:=ly hk;intro n;induction n with
 |zero=>
  intro i a hn hi rn hc;obtain rfl:i=R.ns:=by omega
  obtain⟨hs,hd,h0,h1,h2,bG,bJ,cQ⟩:=hc;refine aj hS aCv (ag hS aCn aS9 (ay LK hS hs (du LK.o cQ bJ) fun a ae iF=>t6 ae hs hd h0 h1 h2 bG bJ cQ fun hs hd h0 h1 h2 bG bJ cQ=>?_));have iF:a.eval (.tmp 35)=.bool false:=by rw [iF];simp
  exact ai hS (aj hS aCu (aX hS aCq iF (q_exit hS aTb rfl (K _ rn hs hd h0 h1 h2))))
 |succ n ih=>
  intro i a hn hi rn hc;have ou:i<R.ns:=by omega
  obtain⟨ob,oo,hA,hob⟩:=hO.l9 i ou;obtain⟨hs,hd,h0,h1,h2,bG,bJ,cQ⟩:=hc;refine aj hS aCv (ag hS aCn aS9 (ay LK hS hs (du LK.o cQ bJ) fun a ae iF=>t6 ae hs hd h0 h1 h2 bG bJ cQ fun hs hd h0 h1 h2 bG bJ cQ=>?_));have iF:a.eval (.tmp 35)=.bool true:=by rw [iF];simp;omega
  refine ai hS (aj hS aCu (bY hS aCq iF (q_skip hS aTa (aj hS aTm (bV hS aTk (aj hS aTj (ag hS aTc (rl [0,1,2] rfl) ?_)))))));rw [hA]at bG;refine ay asU hS hs (cT (s:=1) asU.o bG cQ underlying22 sizeOf25 ou) fun a ae rh=>t6 ae hs hd h0 h1 h2 bG bJ cQ fun hs hd h0 h1 h2 bG bJ cQ=>?_;rw [←hA]at bG;rw [Nat.mul_one]at rh;refine ay asV hS hs (aL asV.o rh isAgg25 hob.cK) fun a ae iI=>t6 ae hs hd h0 h1 h2 bG bJ cQ fun hs hd h0 h1 h2 bG bJ cQ=>?_;refine ay asW hS hs (ak asW.o iI) fun a ae h8=>t6 ae hs hd h0 h1 h2 bG bJ cQ fun hs hd h0 h1 h2 bG bJ cQ=>?_;refine ai hS (aj hS aTi (ag hS aTd (rl [0,1,2] rfl) (ay asY hS hs (af asY.o h8) fun a ae nz=>t6 ae hs hd h0 h1 h2 bG bJ cQ fun hs hd h0 h1 h2 bG bJ cQ=>?_)));refine ay asZ hS hs (dk asZ.o nz underlying25) fun a ae im=>t6 ae hs hd h0 h1 h2 bG bJ cQ fun hs hd h0 h1 h2 bG bJ cQ=>?_;refine ay as0 hS hs (yo as0.o im rfl) fun a ae fQ=>t6 ae hs hd h0 h1 h2 bG bJ cQ fun hs hd h0 h1 h2 bG bJ cQ=>?_;by_cases hb:(R.iH i).length<=60
  ·have fQ:a.eval (.tmp 40)=.bool false:=by rw [fQ];simp;omega
   refine ai hS (aX hS aCt fQ (q_skip hS aTh (c7 hS (ag hS aTl (rl [0,1] rfl) (ay as4 hS hs (gQ as4.o cQ rfl) fun a ae j8=>t6 ae hs hd h0 h1 h2 bG bJ cQ fun hs hd h0 h1 h2 bG bJ cQ=>?_)))));have j8:a.eval (.tmp 42)=.int .i64 ((i+1:Nat):Int):=by
    rw [j8,IntWalk.i64_in _ (by omega)];simp
   refine ay as5 hS hs (af as5.o j8) fun a ae cQ=>t5 ae hs hd h0 h1 h2 bG bJ fun hs hd h0 h1 h2 bG bJ=>?_;refine ai hS (dW hS (ih (i+1) _ (by omega) (by omega) (fun k hk=>?_) ⟨hs,hd,h0,h1,h2,bG,bJ,cQ⟩))
   by_cases e:k=i
   ·rw [e];exact hb
   ·exact rn k (by omega)
  ·have fQ:a.eval (.tmp 40)=.bool true:=by rw [fQ];simp;omega
   exact ai hS (bY hS aCt fQ (a1d hk hE hH hK hs hd))
theorem amk(hk:b.kind≠.early)(hE:aai Q b cs V0 w0)(hH:mN Shun w1 V w)(hK:dD V0 w0 V w)(hO:yk R oA V w)
  (hs:a.tmps.size=181)(hd:a.defers=[])(h0:a.eval (.tmp 0)=.slice oA R.ns oC)(h1:a.eval (.tmp 1)=.slice jA N jC)(h2:a.eval (.tmp 2)=.int .u8 x)
  (K:∀a',R.ns<=4->N<=20->(∀k,k<R.ns->(R.iH k).length<=60)->a'.tmps.size=181->a'.defers=[]->a'.eval (.tmp 0)=.slice oA R.ns oC->a'.eval (.tmp 1)=.slice jA N jC->a'.eval (.tmp 2)=.int .u8 x->fh Q Shun V (G (b.at a' (.code Gx::k)) cs) w):
  fh Q Shun V (G (b.at a (.code YU::k)) cs) w:=by
 have hS:=ly hk;refine aj hS aZu (ag hS aZm (rl [0] rfl) (ay asE hS hs (ak asE.o rfl) fun a ae h6=>t3 ae hs hd h0 h1 h2 fun hs hd h0 h1 h2=>?_));refine ai hS (aj hS aZt (aj hS aZs (ag hS aZn (rl [0,1,2,3,4,5,6,7] rfl) (ay asF hS hs (af asF.o h0) fun a ae ga=>t3 ae hs hd h0 h1 h2 fun hs hd h0 h1 h2=>?_))));refine ay asG hS hs (dk asG.o ga underlying22) fun a ae oi=>t3 ae hs hd h0 h1 h2 fun hs hd h0 h1 h2=>?_;refine ay asH hS hs (yo asH.o oi rfl) fun a ae o9=>t3 ae hs hd h0 h1 h2 fun hs hd h0 h1 h2=>?_;refine ay asI hS hs (af asI.o o9) fun a ae fe=>t3 ae hs hd h0 h1 h2 fun hs hd h0 h1 h2=>?_;by_cases hn:R.ns<=4
 ·have fe:a.eval (.tmp 26)=.bool false:=by rw [fe];simp;omega
  refine mo Ec rfl fe hS hs (af Ec.o h1) fun a ae dT=>t4 ae hs hd h0 h1 h2 fe fun hs hd h0 h1 h2 fe=>?_;refine mo Ed rfl fe hS hs (dk Ed.o dT underlying23) fun a ae cI=>t4 ae hs hd h0 h1 h2 fe fun hs hd h0 h1 h2 fe=>?_;refine mo Ee rfl fe hS hs (yo Ee.o cI rfl) fun a ae fc=>t4 ae hs hd h0 h1 h2 fe fun hs hd h0 h1 h2 fe=>?_;by_cases hm:N<=20
  ·have fc:a.eval (.tmp 29)=.bool false:=by rw [fc];simp;omega
   refine ay xW hS hs (bn xW.o fe (v:=.bool false) fc) fun a ae eK=>t5 ae hs hd h0 h1 h2 fe fc fun hs hd h0 h1 h2 fe fc=>?_;refine ai hS (aX hS aKN eK (q_skip hS aZr (aj hS aUf (aj hS aTp (ag hS aS8 (rl [0,1,2] rfl) (ay asM hS hs (af asM.o h0) fun a ae bG=>t3 ae hs hd h0 h1 h2 fun hs hd h0 h1 h2=>?_))))));refine ay asN hS hs (dk asN.o bG underlying22) fun a ae bJ=>t4 ae hs hd h0 h1 h2 bG fun hs hd h0 h1 h2 bG=>?_;refine ay asO hS hs (af asO.o rfl) fun a ae cQ=>t5 ae hs hd h0 h1 h2 bG bJ fun hs hd h0 h1 h2 bG bJ=>?_;exact ai hS (bV hS aTo (iU hS aTn (awH hk hn hE hH hK hO (fun a' rn s' d' g0 g1 g2=>K a' hn hm rn s' d' g0 g1 g2) R.ns 0 _ (by omega) (by omega) (fun k hk=>by omega) ⟨hs,hd,h0,h1,h2,bG,bJ,cQ⟩)))
  ·have fc:a.eval (.tmp 29)=.bool true:=by rw [fc];simp;omega
   refine ay xW hS hs (bn xW.o fe (v:=.bool true) fc) fun a ae eK=>t1 ae hs hd fe fun hs hd fe=>?_;exact ai hS (bY hS aKN eK (aWW hk hE hH hK hs hd))
 ·have fe:a.eval (.tmp 26)=.bool true:=by rw [fe];simp;omega
  refine xr Ec.a (ax (x:=true) Ec.g rfl fe) hS Ec.d fun a au an ah=>t1 ⟨au,an,ah⟩ hs hd fe fun hs hd fe=>?_;refine xr Ed.a (ax (x:=true) Ed.g rfl fe) hS Ed.d fun a au an ah=>t1 ⟨au,an,ah⟩ hs hd fe fun hs hd fe=>?_;refine xr Ee.a (ax (x:=true) Ee.g rfl fe) hS Ee.d fun a au an ah=>t1 ⟨au,an,ah⟩ hs hd fe fun hs hd fe=>?_;refine ay xW hS hs (bn xW.o fe (v:=.bool true) rfl) fun a ae eK=>t0 ae hs hd fun hs hd=>?_;exact ai hS (bY hS aKN eK (aWW hk hE hH hK hs hd))
end
theorem aWX{P:Program}{V:View}{w:World}{o:Oper}{a:Act}{x y:Operand}{t yt:TypeId}{k:IntKind}{m n:Int}(aE:o.op=.binOp .rem t x y yt)(hx:a.eval x=.int k m)(hy:a.eval y=.int k n)(hn:n≠0):Yl P V w o a (.int k (m.tmod n)):=.pure fun w₁=>by
 constructor<;>simp [execOp,aE,hx,hy,eqGuard,binOp,Op.intDiv,hn]
def iD(R:RD)(st i:Nat)(V:View)(w:World):Prop:=
 ∃arr,ba V w st (.cells arr 39 (0,0))/\arr.size=R.ns/\∀k,k<R.ns->∃Cs v S,arr[k]? =some v/\Closed V w Cs/\gI w Cs (.agg #[v]) S/\R.yI k i S/\¬Cs st
def EV(R:RD)(C:Nat)(V:View)(w:World):Prop:=
 ∀j,j<R.js.length->∃vo,gX V w ⟨C,j*2,none⟩ vo/\gX V w ⟨C,j*2+1,none⟩ (.bool (R.whole j))/\Row V w 5 1 vo (R.bytes j).length (R.bytes j)
section
variable {w:World} {a:Act} {x:Int}
theorem iD.keep(h:iD R st i V w)(k:dD V w V' w'):iD R st i V' w':=by
 obtain⟨arr,h1,h2,h3⟩:=h;refine⟨arr,h1.keep k,h2,fun x hx=>?_⟩;obtain⟨Cs,v,S,z1,z2,z3,z4,z5⟩:=h3 x hx;exact⟨Cs,v,S,z1,z2.keep k,z3.keep z2 k,z4,z5⟩
theorem EV.keep(h:EV R C V w)(k:dD V w V' w'):EV R C V' w':=fun j hj=>by
 obtain⟨vo,h1,h2,h3⟩:=h j hj;exact⟨vo,h1.keep k,h2.keep k,h3.keep k⟩
theorem aAj{n0:Nat}(h:R.Ok)(hG:aww R st R.ns n0 V w):iD R st R.js.length V w:=by
 obtain⟨arr,h1,h2,h3⟩:=hG.blk;refine⟨arr,h1,h2,fun x hx=>?_⟩;obtain⟨Cs,v,l,z1,z2,z3,z4,z5,z6,z7⟩:=h3 x hx;exact⟨Cs,v,_,z1,z2,z3,amj h z7 z4,z6⟩
def j6(V:View)(ac:Nat):View:=⟨fun b=>V.own b/\b≠ac,V.ro,V.wc,V.deaf⟩
theorem BE(V:View)(ac:Nat)(w:World):dD (j6 V ac) w V w:=⟨Nat.le_refl _,fun b hb=>⟨hb.1,rfl⟩⟩
theorem rH(h:dD V w V' w')(ac:Nat):dD (j6 V ac) w (j6 V' ac) w':=⟨h.size,fun b hb=>⟨⟨(h.own b hb.1).1,hb.2⟩,(h.own b hb.1).2⟩⟩
theorem dD.but(h:aG (· =ac) aD V w V' w'):dD (j6 V ac) w (j6 V' ac) w':=⟨h.size,fun b hb=>⟨⟨h.mine b hb.1,hb.2⟩,h.own b hb.1 hb.2⟩⟩
theorem dD.fresh(h:dD V w V' w')(hT:Tidy V w)(hac:w.heap.size<=ac):dD V w (Go.Proofs.YtmcddajniiaieaaGreatDoor.j6 V' ac) w':=⟨h.size,fun b hb=>⟨⟨(h.own b hb).1,by have:=hT.low.own b hb;omega⟩,(h.own b hb).2⟩⟩
structure UZ(R:RD)(L:List (Int×Jb))(oA jA:Option Addr)(C st:Nat)(V0:View)(w0:World)(V:View)(w:World):Prop where
 obj:yk R oA V w
 nM:mM L jA V w
 rows:EV R C V w
 awx:iD R st R.js.length V w
 old:dD V0 w0 V w
theorem UZ.keep(h:UZ R L oA jA C st V0 w0 V w)(k:dD V w V' w'):UZ R L oA jA C st V0 w0 V' w':=⟨h.obj.keep k,h.nM.keep k,h.rows.keep k,h.awx.keep k,h.old.trans k⟩
structure Lt2(R:RD)(oA:Option Addr)(oC:Nat)(jA:Option Addr)(jC C st ac j:Nat)(a:Act):Prop where
 hs:a.tmps.size=181
 hd:a.defers=[]
 h0:a.eval (.tmp 0)=.slice oA R.ns oC
 h1:a.eval (.tmp 1)=.slice jA R.js.length jC
 h9:a.eval (.tmp 9)=.int .i64 R.u
 aM:a.eval (.tmp 10)=.slice (some ⟨C,0,none⟩) R.js.length R.js.length
 aH:a.eval (.tmp 11)=.slice (some ⟨st,0,none⟩) R.ns R.ns
 aK:a.eval (.tmp 13)=.slice (some ⟨ac,0,none⟩) R.ns R.ns
 c9:a.eval (.tmp 82)=.slice jA R.js.length jC
 dI:a.eval (.tmp 83)=.int .i64 R.js.length
 dQ:a.eval (.tmp 84)=.int .i64 j
theorem aAk(hk:b.kind≠.early)(hE:aai Q b cs V0 w0)(hH:mN Shun w1 V w)(hK:dD V0 w0 V w)(BC:qO R L)(hx:0<=x)(hu:R.u=(2:Int)^(x.toNat % 5))(hO:yk R oA V w)(hJ:mM L jA V w)(rS:R.ns<=4)(hL:L.length<=20)
  (hs:a.tmps.size=181)(hd:a.defers=[])(h0:a.eval (.tmp 0)=.slice oA R.ns oC)(h1:a.eval (.tmp 1)=.slice jA L.length jC)(h2:a.eval (.tmp 2)=.int .u8 x)
  (K:∀bc w2 V' w' a' C st ac,L.all (fN R.ns)=true->mN bc w2 V' w'->UZ R L oA jA C st V0 w0 (j6 V' ac) w'->iD R ac 0 V' w'->Lt2 R oA oC jA jC C st ac 0 a'->fh Q bc V' (G (b.at a' (.code wu::.inLoop wu::.inBlock 2::.code TG::k)) cs) w'):
  fh Q Shun V (G (b.at a (.code Gx::k)) cs) w:=by
 have hS:=ly hk;obtain⟨i39,aNX,aNY,aNZ,aN0⟩:=info_parts awv;have Us:R.js.length=L.length:=by rw [BC.js];simp
 refine aj hS aUe (ag hS aTq (rl [0,1,2,3] rfl) (ay as8 hS hs (af as8.o h2) fun a ae zz=>t2 ae hs hd h0 h1 fun hs hd h0 h1=>?_));refine ay as9 hS hs (aWX as9.o zz rfl (by decide)) fun a ae mS=>t2 ae hs hd h0 h1 fun hs hd h0 h1=>?_
 have mS:a.eval (.tmp 44)=.int .u8 ((x.toNat % 5:Nat):Int):=by
  have e:x.tmod 5=((x.toNat % 5:Nat):Int):=by rw [Int.tmod_eq_emod_of_nonneg hx];omega
  rw [mS,e]
 refine ay ata hS hs (aDz (n:=x.toNat % 5) ata.o rfl mS (by show x.toNat % 5<64;omega)) fun a ae xu=>t2 ae hs hd h0 h1 fun hs hd h0 h1=>?_
 have hux:R.u<=16/\1<=R.u:=by
  rw [hu];have:x.toNat % 5<5:=Nat.mod_lt _ (by decide)
  generalize x.toNat % 5=e at this;rcases e with _|_|_|_|_|e
  ·decide
  ·decide
  ·decide
  ·decide
  ·decide
  ·omega
 have Vb:Rg.fv R.u=true:=(Rg.rD _).2 ⟨x.toNat % 5,by have:x.toNat % 5<5:=Nat.mod_lt _ (by decide);omega,hu⟩
 have xu:a.eval (.tmp 45)=.int .i64 R.u:=by
  rw [xu,Int.one_mul,←hu,IntWalk.i64_in _ (by omega)]
 refine ay atb hS hs (ak atb.o xu) fun a ae h9=>t2 ae hs hd h0 h1 fun hs hd h0 h1=>?_;refine ai hS (aj hS aUd (ag hS aTr (rl [0,1,2,3,4,5,6,7,8,9,10] rfl) (ay afK hS hs (af afK.o h0) fun a ae lV=>t3 ae hs hd h0 h1 h9 fun hs hd h0 h1 h9=>?_)));refine ay afL hS hs (af afL.o h1) fun a ae E0=>t4 ae hs hd h0 h1 h9 lV fun hs hd h0 h1 h9 lV=>?_;refine ay afM hS hs (af afM.o h9) fun a ae yQ=>t5 ae hs hd h0 h1 h9 lV E0 fun hs hd h0 h1 h9 lV E0=>?_;refine bI wm.a wm.f hS wm.o func5 (by kernel_rfl) aCe (GW (R:=R) (L:=L) (oA:=oA) (jA:=jA) (oC:=oC) (jC:=jC) (w0:=w1) hS wm.a wm.d (by rw [hs];decide) BC Vb hL rS hH.hg hH.so hH.aC hH.tidy hO.at_ hJ.in_ hJ.own (by simp only [List.map_toArray,List.map_cons,List.map_nil,lV,E0,yQ];rfl) (fun a V2 w2 ayg W2 T2 au an ah sf=>?_) (fun bc w2 V2 w3 C st a awI hR au an ah sf=>?_))
 ·have U0:=hH.go W2 T2;refine t3 ⟨au,an,ah⟩ hs hd h0 h1 h9 fun hs hd h0 h1 h9=>?_;refine ay Ay hS hs (af Ay.o sf) fun a ae jZ=>t4 ae hs hd h0 h1 h9 sf fun hs hd h0 h1 h9 sf=>?_;refine ay Az hS hs (bR Az.o jZ rfl) fun a ae rP=>t5 ae hs hd h0 h1 h9 sf jZ fun hs hd h0 h1 h9 sf jZ=>?_;refine ay AB hS hs (bR AB.o jZ rfl) fun a ae tA=>t6 ae hs hd h0 h1 h9 sf jZ rP fun hs hd h0 h1 h9 sf jZ rP=>?_;refine ay AD hS hs (bR AD.o jZ rfl) fun a ae xK=>t7 ae hs hd h0 h1 h9 sf jZ rP tA fun hs hd h0 h1 h9 sf jZ rP tA=>?_;refine ay AE hS hs (ak AE.o rP) fun a ae aM=>t8 ae hs hd h0 h1 h9 sf jZ rP tA xK fun hs hd h0 h1 h9 sf jZ rP tA xK=>?_;refine ay AF hS hs (ak AF.o tA) fun a ae aH=>t9 ae hs hd h0 h1 h9 sf jZ rP tA xK aM fun hs hd h0 h1 h9 sf jZ rP tA xK aM=>?_;refine ay wo hS hs (ak wo.o xK) fun a ae aJ=>t10 ae hs hd h0 h1 h9 sf jZ rP tA xK aM aH fun hs hd h0 h1 h9 sf jZ rP tA xK aM aH=>?_;refine ai hS (aj hS aCT (aj hS aCB (ag hS aCw aCx (ay AG hS hs (af AG.o aJ) fun a ae NM=>t3 ae hs hd aM aH aJ fun hs hd aM aH aJ=>?_))));refine ay AH hS hs (eI AH.o NM rfl) fun a ae Fe=>t4 ae hs hd aM aH aJ NM fun hs hd aM aH aJ NM=>?_;have Fe:a.eval (.tmp 55)=.bool true:=by rw [Fe];rfl
  refine ai hS (bY hS aCA Fe (aj hS aTu (ag hS aTs (rl [0,1,2,3,4,5,6,7,8,9,10,11] rfl) (ay afS hS hs (af afS.o aM) fun a ae Ff=>t2 ae hs hd aM aH fun hs hd aM aH=>?_))));refine ay afT hS hs (dk afT.o Ff underlying26) fun a ae h57=>t2 ae hs hd aM aH fun hs hd aM aH=>?_;refine ay afU hS hs (eH afU.o h57 rfl) fun a ae Fg=>t2 ae hs hd aM aH fun hs hd aM aH=>?_;have Fg:a.eval (.tmp 58)=.bool true:=by rw [Fg];rfl
  refine ay afV hS hs (af afV.o Fg) fun a ae CZ=>t2 ae hs hd aM aH fun hs hd aM aH=>?_;refine mo afW rfl CZ hS hs (af afW.o aH) fun a ae rn=>t3 ae hs hd aM aH CZ fun hs hd aM aH CZ=>?_;refine mo afX rfl CZ hS hs (dk afX.o rn underlying27) fun a ae kJ=>t3 ae hs hd aM aH CZ fun hs hd aM aH CZ=>?_;refine mo afY rfl CZ hS hs (eH afY.o kJ rfl) fun a ae zy=>t3 ae hs hd aM aH CZ fun hs hd aM aH CZ=>?_;have zy:a.eval (.tmp 62)=.bool true:=by rw [zy];rfl
  refine ay afZ hS hs (bn afZ.o CZ (v:=.bool true) zy) fun a ae CW=>t2 ae hs hd aM aH fun hs hd aM aH=>?_;refine ay af0 hS hs (af af0.o CW) fun a ae Va=>t2 ae hs hd aM aH fun hs hd aM aH=>?_;refine bI wq.a (ax (x:=true) wq.g rfl Va) hS wq.o func4 (by kernel_rfl) aiz (lJ (w0:=w1) hS wq.a wq.d (by rw [hs];decide) U0.hg U0.so U0.aC U0.tidy (by simp only [List.map_toArray,List.map_nil];rfl) fun w4 a q1 q2 q3 q4 au an ah Xt=>?_)
  refine t1 ⟨au,an,ah⟩ hs hd Va fun hs hd Va=>?_;refine ay Tx hS hs (bn Tx.o Va (v:=.bool true) Xt) fun a ae h66=>t0 ae hs hd fun hs hd=>?_;refine ay Ty hS hs (ak Ty.o h66) fun a ae h6=>t0 ae hs hd fun hs hd=>?_;exact ai hS (dg aTt fun todo=>hE _ _ _ _ _ todo (.new q2 q1) ((hK.trans (.aC W2)).trans ⟨q3,fun b hb=>q4 b hb (T2.low.own b hb)⟩) hd h6)
 ·have U0:=hR.here;have hK2:=hR.keep hH.tidy;have a1e:=BC.ok awI;rw [←Us]at sf h1;refine t3 ⟨au,an,ah⟩ hs hd h0 h1 h9 fun hs hd h0 h1 h9=>?_;refine ay Ay hS hs (af Ay.o sf) fun a ae jZ=>t3 ae hs hd h0 h1 h9 fun hs hd h0 h1 h9=>?_;refine ay Az hS hs (bR Az.o jZ rfl) fun a ae rP=>t4 ae hs hd h0 h1 h9 jZ fun hs hd h0 h1 h9 jZ=>?_;refine ay AB hS hs (bR AB.o jZ rfl) fun a ae tA=>t5 ae hs hd h0 h1 h9 jZ rP fun hs hd h0 h1 h9 jZ rP=>?_;refine ay AD hS hs (bR AD.o jZ rfl) fun a ae xK=>t5 ae hs hd h0 h1 h9 rP tA fun hs hd h0 h1 h9 rP tA=>?_;refine ay AE hS hs (ak AE.o rP) fun a ae aM=>t5 ae hs hd h0 h1 h9 tA xK fun hs hd h0 h1 h9 tA xK=>?_;refine ay AF hS hs (ak AF.o tA) fun a ae aH=>t5 ae hs hd h0 h1 h9 xK aM fun hs hd h0 h1 h9 xK aM=>?_;refine ay wo hS hs (ak wo.o xK) fun a ae aJ=>t5 ae hs hd h0 h1 h9 aM aH fun hs hd h0 h1 h9 aM aH=>?_;refine ai hS (aj hS aCT (aj hS aCB (ag hS aCw aCx (ay AG hS hs (af AG.o aJ) fun a ae NM=>t5 ae hs hd h0 h1 h9 aM aH fun hs hd h0 h1 h9 aM aH=>?_))));refine ay AH hS hs (eI AH.o NM rfl) fun a ae Fe=>t5 ae hs hd h0 h1 h9 aM aH fun hs hd h0 h1 h9 aM aH=>?_;have Fe:a.eval (.tmp 55)=.bool false:=by rw [Fe];rfl
  refine ai hS (aX hS aCA Fe (q_skip hS aTv (aj hS aUc (aj hS aTA (ag hS aTw (rl [0,1,2,3,4,5,6,7,8,9,10,11] rfl) (ay af3 hS hs (af af3.o aM) fun a ae Xu=>t5 ae hs hd h0 h1 h9 aM aH fun hs hd h0 h1 h9 aM aH=>?_))))));refine ay af4 hS hs (dk af4.o Xu underlying26) fun a ae C0=>t5 ae hs hd h0 h1 h9 aM aH fun hs hd h0 h1 h9 aM aH=>?_;refine ay af5 hS hs (af af5.o h1) fun a ae h69=>t6 ae hs hd h0 h1 h9 aM aH C0 fun hs hd h0 h1 h9 aM aH C0=>?_;refine ay af6 hS hs (dk af6.o h69 underlying23) fun a ae U9=>t6 ae hs hd h0 h1 h9 aM aH C0 fun hs hd h0 h1 h9 aM aH C0=>?_;refine ay af7 hS hs (eI af7.o C0 U9) fun a ae h71=>t5 ae hs hd h0 h1 h9 aM aH fun hs hd h0 h1 h9 aM aH=>?_;have h71:a.eval (.tmp 71)=.bool false:=by rw [h71];simp
  refine ay af8 hS hs (af af8.o h71) fun a ae NP=>t5 ae hs hd h0 h1 h9 aM aH fun hs hd h0 h1 h9 aM aH=>?_;refine mo af9 rfl NP hS hs (af af9.o aH) fun a ae h73=>t6 ae hs hd h0 h1 h9 aM aH NP fun hs hd h0 h1 h9 aM aH NP=>?_;refine mo aga rfl NP hS hs (dk aga.o h73 underlying27) fun a ae h74=>t6 ae hs hd h0 h1 h9 aM aH NP fun hs hd h0 h1 h9 aM aH NP=>?_;refine mo agb rfl NP hS hs (af agb.o h0) fun a ae h75=>t7 ae hs hd h0 h1 h9 aM aH NP h74 fun hs hd h0 h1 h9 aM aH NP h74=>?_;refine mo agc rfl NP hS hs (dk agc.o h75 underlying22) fun a ae h76=>t7 ae hs hd h0 h1 h9 aM aH NP h74 fun hs hd h0 h1 h9 aM aH NP h74=>?_;refine mo Tz rfl NP hS hs (eI Tz.o h74 h76) fun a ae F9=>t6 ae hs hd h0 h1 h9 aM aH NP fun hs hd h0 h1 h9 aM aH NP=>?_;have F9:a.eval (.tmp 77)=.bool false:=by rw [F9];simp
  refine ay TA hS hs (bn TA.o NP (v:=.bool false) F9) fun a ae Ga=>t5 ae hs hd h0 h1 h9 aM aH fun hs hd h0 h1 h9 aM aH=>?_;refine ai hS (aX hS aTz Ga (q_skip hS aTy (aj hS aUb (ag hS aTB (rl [0,1,2,3] rfl) (ay agf hS hs (af agf.o h0) fun a ae h79=>t5 ae hs hd h0 h1 h9 aM aH fun hs hd h0 h1 h9 aM aH=>?_)))));refine ay agh hS hs (dk agh.o h79 underlying22) fun a ae NN=>t5 ae hs hd h0 h1 h9 aM aH fun hs hd h0 h1 h9 aM aH=>?_;refine lB (n:=R.ns) AJ.a AJ.f hS AJ.d (by rw [hs];decide) U0.tidy AJ.o NN NN underlying27 aNX aNY (by rw [aN0];omega) (by omega) fun ac a V3 w4 au an ah h81 W3 g3 B3 T3=>?_
  rw [aNZ]at B3;refine t5 ⟨au,an,ah⟩ hs hd h0 h1 h9 aM aH fun hs hd h0 h1 h9 aM aH=>?_;refine ay agi hS hs (ak agi.o h81) fun a ae aK=>t5 ae hs hd h0 h1 h9 aM aH fun hs hd h0 h1 h9 aM aH=>?_;refine ai hS (aj hS aUa (aj hS aT6 (ag hS aTC (rl [0,1,2] rfl) (ay agm hS hs (af agm.o h1) fun a ae c9=>t6 ae hs hd h0 h1 h9 aM aH aK fun hs hd h0 h1 h9 aM aH aK=>?_))));refine ay agn hS hs (dk agn.o c9 underlying23) fun a ae dI=>t7 ae hs hd h0 h1 h9 aM aH aK c9 fun hs hd h0 h1 h9 aM aH aK c9=>?_;refine ay ago hS hs (af ago.o rfl) fun a ae dQ=>t8 ae hs hd h0 h1 h9 aM aH aK c9 dI fun hs hd h0 h1 h9 aM aH aK c9 dI=>?_;refine ai hS (bV hS aT5 (iU hS aT4 ?_));have yZ:∀(cs:Array Value) n,(madeCells cs n).size=n:=fun cs n=>by simp [madeCells]
  have bF:iD R st R.js.length V2 w3:=aAj a1e hR.awx;have aU:st<w3.heap.size:=by
   obtain⟨arr,z,_⟩:=bF;exact U0.tidy.low.own st z.1
  have hkf:dD V2 w3 (j6 V3 ac) w4:=dD.fresh (.aC W3) U0.tidy g3;refine K _ _ _ _ _ C st ac awI (U0.go W3 T3) ⟨hO.keep (hK2.trans hkf),hJ.keep (hK2.trans hkf),EV.keep hR.row hkf,bF.keep hkf,hK.trans (hK2.trans hkf)⟩ ⟨_,B3,by rw [yZ,Nat.mul_one],fun x hx=>?_⟩ ⟨hs,hd,h0,h1,h9,aM,aH,aK,c9,dI,dQ⟩
  refine⟨fun _=>False,.slice none 0 0,[],?_,.none,⟨none,0,rfl,fun j hj=>absurd hj (Nat.not_lt_zero _),fun ad e=>by cases e⟩,aAi R x,id⟩
  rw [Nat.mul_one];simp only [madeCells,Array.getElem?_map,Array.getElem?_range,hx,if_true,Option.map_some];show some ((#[Value.slice none 0 0]:Array Value)[x % 1]!)=_
  rw [Nat.mod_one];rfl
end
def strOf(l:List Int):ByteArray:=l.foldl (fun r n=>r.push (UInt8.ofNat n.toNat)) ByteArray.empty
def RD.raw(R:RD)(j:Nat):List Int:=((R.iH (R.k7 j).1).drop (R.hf j).toNat).take (R.wt j-R.hf j).toNat
theorem RD.GX(R:RD)(j:Nat):R.bytes j=(R.raw j).map dG:=rfl
section
variable {P:Program} {main:Bool} {w:World} {S:Act->List Item->Frame} {a:Act} {ops:Array Oper}
theorem dr{i d:Nat}{s:Spec}{o:Oper}{rest:List Nat}{a:Act}{V:View}{w:World}{v:Value}(ho:ops[i]? =some o)(hw:Region.wanted o (yielded ops a.tmps)=true)(hS:fg P main S)(hd:o.dst=some d)(aU:d<a.tmps.size)(hT:Tidy V w)(hy:Yl P V w o a v)(hs:s.ok v V w)
  (K:∀dA dq cO,dA.tmps.size=a.tmps.size->dA.defers=a.defers->(∀j,d≠j->dA.eval (.tmp j)=a.eval (.tmp j))->aG aI aD V w dq cO->Tidy dq cO->s.ok (dA.eval (.tmp d)) dq cO->Loc P main Stop dq (G (S dA (.inRegion ops rest::k)) cs) cO):
  Loc P main Stop V (G (S a (.inRegion ops (i::rest)::k)) cs) w:=
 zw ho hw hS hd aU hy fun a' e1 e2 e3 e4=>K a' V w e1 e2 e3 (.refl V w) hT (by rw [e4];exact hs)
end
section
variable {w:World} {o:Oper} {a:Act} {x y:Operand} {v:Value}
theorem aN9{p q:Bool}(aE:o.op=.binOp .neq 4 x y 4)(hx:a.eval x=.bool p)(hy:a.eval y=.bool q):Yl prog V w o a (.bool (p !=q)):=.pure fun w₁=>by
 have h1:∀dd w,(Op.equalIn (dd+1) 4 (.bool p) (.bool q)).run prog w=.ok (p==q) w:=fun dd w=>by
  simp [Op.equalIn,run_underlying underlying4]
 have h2:∀dd w es,(Op.equalIn (dd+1) 4 (.bool p) (.bool q)).events prog w es=es:=fun dd w es=>by
  simp [Op.equalIn,run_underlying underlying4]
 constructor
 ·simp [execOp,aE,hx,hy,eqGuard,binOp,Op.equal,Op.maxDepth,h1 9999];cases p<;>cases q<;>rfl
 ·simp [execOp,aE,hx,hy,eqGuard,binOp,Op.equal,Op.maxDepth,h1 9999,h2 9999]
theorem akC{l:List Int}(aE:o.op=.convert 25 9 x)(hx:a.eval x=v)(h:Row V w 5 1 v (l.map dG).length (l.map dG)):Yl prog V w o a (.string (strOf l)):=by
 rcases h.1.2 with ⟨e,hn⟩|⟨g,cap,cur,e,_,hg,hc,hm,hs,ht⟩
 ·have hl:l=[]:=by
   rw [List.length_map]at hn;exact List.eq_nil_of_length_eq_zero hn
  subst hl;exact awC aE (by rw [hx,e])
 ·rw [List.length_map,Nat.mul_one]at ht;have hV:=h.2 g (by rw [e];rfl)
  refine aAb aE (by rw [hx,e,List.length_map]) fun j u hj=>⟨.inl hV,?_⟩
  have aU:j<l.length:=(List.getElem?_eq_some_iff.1 hj).1;have h1:(cur.toList.take l.length)[j]? =some (dG u):=by rw [ht,List.getElem?_map,hj];rfl
  rw [List.getElem?_take_of_lt aU]at h1;simp only [World.cell?,hg,Nat.zero_add];simpa using h1
end
section
variable {C':Nat} {w:World} {a:Act}
structure Lt3(R:RD)(oA:Option Addr)(oC:Nat)(jA:Option Addr)(jC C st ac rI j:Nat)(a:Act):Prop where
 base:Lt2 R oA oC jA jC C st ac j a
 bT:a.eval (.tmp 17)=.slice (some ⟨rI,0,none⟩) R.ns R.ns
theorem awJ(hk:b.kind≠.early)(hT:Tidy V w)(hj:j<R.js.length){vo jQ:Value}{wh:Bool}{l:List Int}
  (r1:gX V w ⟨C,j*2,none⟩ vo)(r2:gX V w ⟨C,j*2+1,none⟩ (.bool wh))(r3:Row V w 5 1 vo (l.map dG).length (l.map dG))
  (s1:gX V w ⟨C',0,none⟩ jQ)(s2:gX V w ⟨C',1,none⟩ (.bool wh))(s3:Row V w 5 1 jQ (l.map dG).length (l.map dG))
  (hc:Lt3 R oA oC jA jC C st ac rI j a)(aW:a.eval (.tmp 14)=.int .i64 j)(fP:a.eval (.tmp 16)=.slice (some ⟨C',0,none⟩) 1 1)(jL:a.eval (.tmp 18)=.int .i64 0)
  (K:∀a' V' w',aG aI aD V w V' w'->Tidy V' w'->Lt3 R oA oC jA jC C st ac rI j a'->Loc prog true Stop V' (G (b.at a' (.code TF::k)) cs) w'):
  Loc prog true Stop V (G (b.at a (.code TE::k)) cs) w:=by
 have hS:=ly hk;obtain⟨⟨hs,hd,h0,h1,h9,aM,aH,aK,c9,dI,dQ⟩,bT⟩:=hc;refine aj hS aTY (aj hS aTL (ye hS aTH [98,99,100,101,102,103,104,105,106,107,108,109,110,111,112,113,114,115,116,117,118,119,120,121,122,123,124,125,126,127,128,129] [.val (.int .i64 0),.val (.bool false),.val (.bool false),.val (.slice (some ⟨C',0,none⟩) 1 1),.val (.int .i64 1),.val (.bool false),.val (.bool false),.val (.bool false),.val (.slice (some ⟨C',0,none⟩) 1 1),.val (.pointer (some ⟨C',0,none⟩)),.val (.pointer (some ⟨C',0,none⟩)),.val jQ,.val (.string (strOf l)),.val (.slice (some ⟨C,0,none⟩) R.js.length R.js.length),.val (.int .i64 j),.val (.pointer (some ⟨C,0+j*2,none⟩)),.val (.pointer (some ⟨C,0+j*2,none⟩)),.val vo,.val (.string (strOf l)),.val (.bool (!((strOf l).toList==(strOf l).toList))),.val (.bool (!((strOf l).toList==(strOf l).toList))),.val (.bool false),.val (.slice (some ⟨C',0,none⟩) 1 1),.val (.pointer (some ⟨C',0,none⟩)),.val (.pointer (some ⟨C',1,none⟩)),.val (.bool wh),.val (.slice (some ⟨C,0,none⟩) R.js.length R.js.length),.val (.int .i64 j),.val (.pointer (some ⟨C,0+j*2,none⟩)),.val (.pointer (some ⟨C,0+j*2+1,none⟩)),.val (.bool wh),.val (.bool (wh !=wh))] [(0,.slice oA R.ns oC),(1,.slice jA R.js.length jC),(9,.int .i64 R.u),(10,.slice (some ⟨C,0,none⟩) R.js.length R.js.length),(11,.slice (some ⟨st,0,none⟩) R.ns R.ns),(13,.slice (some ⟨ac,0,none⟩) R.ns R.ns),(82,.slice jA R.js.length jC),(83,.int .i64 R.js.length),(84,.int .i64 j),(17,.slice (some ⟨rI,0,none⟩) R.ns R.ns),(14,.int .i64 j),(16,.slice (some ⟨C',0,none⟩) 1 1),(18,.int .i64 0)] 32 rfl (by kernel_rfl) qu.a (fu:=40) (by kernel_rfl) rfl rfl (by decide) (by simp) (fun a' V' w'=>aG aI aD V w V' w'/\Tidy V' w'/\Lt3 R oA oC jA jC C st ac rI j a'/\a'.eval (.tmp 130)=.bool false) (by simp [h0,h1,h9,aM,aH,aK,c9,dI,dQ,bT,aW,fP,jL]) hT ?_ ?_ ?_))
 ·intro i d s o rest hi aV aZ ho aa VV ww hB hI K;match i,hi with
  |0,_=>
   cases aV;cases aZ;obtain rfl:=LM.w ho;have jL:=hB.sl 18 rfl;exact cU LM hS hB hs (af LM.o jL) K
  |1,_=>
   cases aV;cases aZ;obtain rfl:=LN.w ho;have h98:=hI.av 0;exact cU LN hS hB hs (eI LN.o h98 rfl) K
  |2,_=>
   cases aV;cases aZ;obtain rfl:=LO.w ho;have h99:=hI.av 1;exact cU LO hS hB hs (af LO.o h99) K
  |3,_=>
   cases aV;cases aZ;obtain rfl:=wx.w ho;have fP:=hB.sl 16 rfl;have fB:aa.eval (.tmp 100)=(.bool false):=hI.at_ 2 100 (.val (.bool false)) (by kernel_rfl) rfl rfl
   exact dr (s:=.val (.slice (some ⟨C',0,none⟩) 1 1)) wx.a (ax (x:=false) wx.g rfl fB) hS wx.d (by rw [hB.size,hs];decide) hB.tidy (af wx.o fP) rfl K
  |4,_=>
   cases aV;cases aZ;obtain rfl:=wy.w ho;have aGO:=hI.av 3;have fB:aa.eval (.tmp 100)=(.bool false):=hI.at_ 2 100 (.val (.bool false)) (by kernel_rfl) rfl rfl
   exact dr (s:=.val (.int .i64 1)) wy.a (ax (x:=false) wy.g rfl fB) hS wy.d (by rw [hB.size,hs];decide) hB.tidy (dk wy.o aGO underlying26) rfl K
  |5,_=>
   cases aV;cases aZ;obtain rfl:=wA.w ho;have aGP:=hI.av 4;have fB:aa.eval (.tmp 100)=(.bool false):=hI.at_ 2 100 (.val (.bool false)) (by kernel_rfl) rfl rfl
   exact dr (s:=.val (.bool false)) wA.a (ax (x:=false) wA.g rfl fB) hS wA.d (by rw [hB.size,hs];decide) hB.tidy (eI wA.o aGP rfl) rfl K
  |6,_=>
   cases aV;cases aZ;obtain rfl:=LQ.w ho;have yR:=hI.av 2;have Xv:=hI.av 5;exact cU LQ hS hB hs (bn LQ.o yR (v:=.bool false) Xv) K
  |7,_=>
   cases aV;cases aZ;obtain rfl:=LS.w ho;have I7:=hI.av 6;exact cU LS hS hB hs (af LS.o I7) K
  |8,_=>
   cases aV;cases aZ;obtain rfl:=wB.w ho;have fP:=hB.sl 16 rfl;have fB:aa.eval (.tmp 105)=(.bool false):=hI.at_ 7 105 (.val (.bool false)) (by kernel_rfl) rfl rfl
   exact dr (s:=.val (.slice (some ⟨C',0,none⟩) 1 1)) wB.a (ax (x:=false) wB.g rfl fB) hS wB.d (by rw [hB.size,hs];decide) hB.tidy (af wB.o fP) rfl K
  |9,_=>
   cases aV;cases aZ;obtain rfl:=wC.w ho;have apj:=hI.av 8;have fB:aa.eval (.tmp 105)=(.bool false):=hI.at_ 7 105 (.val (.bool false)) (by kernel_rfl) rfl rfl
   exact dr (s:=.val (.pointer (some ⟨C',0,none⟩))) wC.a (ax (x:=false) wC.g rfl fB) hS wC.d (by rw [hB.size,hs];decide) hB.tidy (cT (s:=2) (i:=0) wC.o apj rfl underlying26 sizeOf36 (by decide)) rfl K
  |10,_=>
   cases aV;cases aZ;obtain rfl:=pX.w ho;have Xw:=hI.av 9;have fB:aa.eval (.tmp 105)=(.bool false):=hI.at_ 7 105 (.val (.bool false)) (by kernel_rfl) rfl rfl
   exact dr (s:=.val (.pointer (some ⟨C',0,none⟩))) pX.a (ax (x:=false) pX.g rfl fB) hS pX.d (by rw [hB.size,hs];decide) hB.tidy (aB pX.o Xw underlying36 rfl sizeOf25 (by decide) rfl) rfl K
  |11,_=>
   cases aV;cases aZ;obtain rfl:=pY.w ho;have aGR:=hI.av 10;have fB:aa.eval (.tmp 105)=(.bool false):=hI.at_ 7 105 (.val (.bool false)) (by kernel_rfl) rfl rfl
   exact dr (s:=.val jQ) pY.a (ax (x:=false) pY.g rfl fB) hS pY.d (by rw [hB.size,hs];decide) hB.tidy (aL pY.o aGR isAgg25 ((s1.go hB.aC).cK)) rfl K
  |12,_=>
   cases aV;cases aZ;obtain rfl:=pZ.w ho;have aGS:aa.eval (.tmp 109)=jQ:=hI.at_ 11 109 (.val jQ) (by kernel_rfl) rfl rfl
   have fB:aa.eval (.tmp 105)=(.bool false):=hI.at_ 7 105 (.val (.bool false)) (by kernel_rfl) rfl rfl
   exact dr (s:=.val (.string (strOf l))) pZ.a (ax (x:=false) pZ.g rfl fB) hS pZ.d (by rw [hB.size,hs];decide) hB.tidy (akC pZ.o aGS (s3.go hB.aC)) rfl K
  |13,_=>
   cases aV;cases aZ;obtain rfl:=qa.w ho;have aM:=hB.sl 10 rfl;have fB:aa.eval (.tmp 105)=(.bool false):=hI.at_ 7 105 (.val (.bool false)) (by kernel_rfl) rfl rfl
   exact dr (s:=.val (.slice (some ⟨C,0,none⟩) R.js.length R.js.length)) qa.a (ax (x:=false) qa.g rfl fB) hS qa.d (by rw [hB.size,hs];decide) hB.tidy (af qa.o aM) rfl K
  |14,_=>
   cases aV;cases aZ;obtain rfl:=qb.w ho;have aW:=hB.sl 14 rfl;have fB:aa.eval (.tmp 105)=(.bool false):=hI.at_ 7 105 (.val (.bool false)) (by kernel_rfl) rfl rfl
   exact dr (s:=.val (.int .i64 j)) qb.a (ax (x:=false) qb.g rfl fB) hS qb.d (by rw [hB.size,hs];decide) hB.tidy (af qb.o aW) rfl K
  |15,_=>
   cases aV;cases aZ;obtain rfl:=qc.w ho;have yS:=hI.av 13;have aGT:=hI.av 14;have fB:aa.eval (.tmp 105)=(.bool false):=hI.at_ 7 105 (.val (.bool false)) (by kernel_rfl) rfl rfl
   exact dr (s:=.val (.pointer (some ⟨C,0+j*2,none⟩))) qc.a (ax (x:=false) qc.g rfl fB) hS qc.d (by rw [hB.size,hs];decide) hB.tidy (cT (s:=2) qc.o yS aGT underlying26 sizeOf36 hj) rfl K
  |16,_=>
   cases aV;cases aZ;obtain rfl:=qe.w ho;have ay8:=hI.av 15;have fB:aa.eval (.tmp 105)=(.bool false):=hI.at_ 7 105 (.val (.bool false)) (by kernel_rfl) rfl rfl
   exact dr (s:=.val (.pointer (some ⟨C,0+j*2,none⟩))) qe.a (ax (x:=false) qe.g rfl fB) hS qe.d (by rw [hB.size,hs];decide) hB.tidy (aB qe.o ay8 underlying36 rfl sizeOf25 (by decide) rfl) rfl K
  |17,_=>
   cases aV;cases aZ;obtain rfl:=qf.w ho;have ay9:=hI.av 16;have fB:aa.eval (.tmp 105)=(.bool false):=hI.at_ 7 105 (.val (.bool false)) (by kernel_rfl) rfl rfl
   exact dr (s:=.val vo) qf.a (ax (x:=false) qf.g rfl fB) hS qf.d (by rw [hB.size,hs];decide) hB.tidy (aL qf.o ay9 isAgg25 (by rw [Nat.zero_add];exact(r1.go hB.aC).cK)) rfl K
  |18,_=>
   cases aV;cases aZ;obtain rfl:=qg.w ho;have aGU:aa.eval (.tmp 115)=vo:=hI.at_ 17 115 (.val vo) (by kernel_rfl) rfl rfl
   have fB:aa.eval (.tmp 105)=(.bool false):=hI.at_ 7 105 (.val (.bool false)) (by kernel_rfl) rfl rfl
   exact dr (s:=.val (.string (strOf l))) qg.a (ax (x:=false) qg.g rfl fB) hS qg.d (by rw [hB.size,hs];decide) hB.tidy (akC qg.o aGU (r3.go hB.aC)) rfl K
  |19,_=>
   cases aV;cases aZ;obtain rfl:=qh.w ho;have ay7:=hI.av 12;have a1f:=hI.av 18;have fB:aa.eval (.tmp 105)=(.bool false):=hI.at_ 7 105 (.val (.bool false)) (by kernel_rfl) rfl rfl
   exact dr (s:=.val (.bool (!((strOf l).toList==(strOf l).toList)))) qh.a (ax (x:=false) qh.g rfl fB) hS qh.d (by rw [hB.size,hs];decide) hB.tidy (awz qh.o ay7 a1f) rfl K
  |20,_=>
   cases aV;cases aZ;obtain rfl:=Ei.w ho;have api:=hI.av 7;have aGV:=hI.av 19;exact cU Ei hS hB hs (bn Ei.o api (v:=.bool (!((strOf l).toList==(strOf l).toList))) aGV) K
  |21,_=>
   cases aV;cases aZ;obtain rfl:=Ej.w ho;have aGW:=hI.av 20;exact cU Ej hS hB hs (af Ej.o (by rw [aGW];simp)) K
  |22,_=>
   cases aV;cases aZ;obtain rfl:=qi.w ho;have fP:=hB.sl 16 rfl;have fB:aa.eval (.tmp 119)=(.bool false):=hI.at_ 21 119 (.val (.bool false)) (by kernel_rfl) rfl rfl
   exact dr (s:=.val (.slice (some ⟨C',0,none⟩) 1 1)) qi.a (ax (x:=false) qi.g rfl fB) hS qi.d (by rw [hB.size,hs];decide) hB.tidy (af qi.o fP) rfl K
  |23,_=>
   cases aV;cases aZ;obtain rfl:=qj.w ho;have aG0:=hI.av 22;have fB:aa.eval (.tmp 119)=(.bool false):=hI.at_ 21 119 (.val (.bool false)) (by kernel_rfl) rfl rfl
   exact dr (s:=.val (.pointer (some ⟨C',0,none⟩))) qj.a (ax (x:=false) qj.g rfl fB) hS qj.d (by rw [hB.size,hs];decide) hB.tidy (cT (s:=2) (i:=0) qj.o aG0 rfl underlying26 sizeOf36 (by decide)) rfl K
  |24,_=>
   cases aV;cases aZ;obtain rfl:=qk.w ho;have azb:=hI.av 23;have fB:aa.eval (.tmp 119)=(.bool false):=hI.at_ 21 119 (.val (.bool false)) (by kernel_rfl) rfl rfl
   exact dr (s:=.val (.pointer (some ⟨C',1,none⟩))) qk.a (ax (x:=false) qk.g rfl fB) hS qk.d (by rw [hB.size,hs];decide) hB.tidy (aB qk.o azb underlying36 rfl sizeOf4 (by decide) rfl) rfl K
  |25,_=>
   cases aV;cases aZ;obtain rfl:=ql.w ho;have aG1:=hI.av 24;have fB:aa.eval (.tmp 119)=(.bool false):=hI.at_ 21 119 (.val (.bool false)) (by kernel_rfl) rfl rfl
   exact dr (s:=.val (.bool wh)) ql.a (ax (x:=false) ql.g rfl fB) hS ql.d (by rw [hB.size,hs];decide) hB.tidy (aL ql.o aG1 isAgg4 ((s2.go hB.aC).cK)) rfl K
  |26,_=>
   cases aV;cases aZ;obtain rfl:=qm.w ho;have aM:=hB.sl 10 rfl;have fB:aa.eval (.tmp 119)=(.bool false):=hI.at_ 21 119 (.val (.bool false)) (by kernel_rfl) rfl rfl
   exact dr (s:=.val (.slice (some ⟨C,0,none⟩) R.js.length R.js.length)) qm.a (ax (x:=false) qm.g rfl fB) hS qm.d (by rw [hB.size,hs];decide) hB.tidy (af qm.o aM) rfl K
  |27,_=>
   cases aV;cases aZ;obtain rfl:=qn.w ho;have aW:=hB.sl 14 rfl;have fB:aa.eval (.tmp 119)=(.bool false):=hI.at_ 21 119 (.val (.bool false)) (by kernel_rfl) rfl rfl
   exact dr (s:=.val (.int .i64 j)) qn.a (ax (x:=false) qn.g rfl fB) hS qn.d (by rw [hB.size,hs];decide) hB.tidy (af qn.o aW) rfl K
  |28,_=>
   cases aV;cases aZ;obtain rfl:=qo.w ho;have aGX:=hI.av 26;have aza:=hI.av 27;have fB:aa.eval (.tmp 119)=(.bool false):=hI.at_ 21 119 (.val (.bool false)) (by kernel_rfl) rfl rfl
   exact dr (s:=.val (.pointer (some ⟨C,0+j*2,none⟩))) qo.a (ax (x:=false) qo.g rfl fB) hS qo.d (by rw [hB.size,hs];decide) hB.tidy (cT (s:=2) qo.o aGX aza underlying26 sizeOf36 hj) rfl K
  |29,_=>
   cases aV;cases aZ;obtain rfl:=qp.w ho;have aGY:=hI.av 28;have fB:aa.eval (.tmp 119)=(.bool false):=hI.at_ 21 119 (.val (.bool false)) (by kernel_rfl) rfl rfl
   exact dr (s:=.val (.pointer (some ⟨C,0+j*2+1,none⟩))) qp.a (ax (x:=false) qp.g rfl fB) hS qp.d (by rw [hB.size,hs];decide) hB.tidy (aB qp.o aGY underlying36 rfl sizeOf4 (by decide) rfl) rfl K
  |30,_=>
   cases aV;cases aZ;obtain rfl:=qq.w ho;have aGZ:=hI.av 29;have fB:aa.eval (.tmp 119)=(.bool false):=hI.at_ 21 119 (.val (.bool false)) (by kernel_rfl) rfl rfl
   exact dr (s:=.val (.bool wh)) qq.a (ax (x:=false) qq.g rfl fB) hS qq.d (by rw [hB.size,hs];decide) hB.tidy (aL qq.o aGZ isAgg4 (by rw [Nat.zero_add];exact(r2.go hB.aC).cK)) rfl K
  |31,_=>
   cases aV;cases aZ;obtain rfl:=qt.w ho;have Xx:=hI.av 25;have Xy:=hI.av 30;have fB:aa.eval (.tmp 119)=(.bool false):=hI.at_ 21 119 (.val (.bool false)) (by kernel_rfl) rfl rfl
   exact dr (s:=.val (.bool (wh !=wh))) qt.a (ax (x:=false) qt.g rfl fB) hS qt.d (by rw [hB.size,hs];decide) hB.tidy (aN9 qt.o Xx Xy) rfl K
  |n+32,hn=>exact absurd hn (by omega)
 ·intro rest aa VV ww hB hI K;have jD:aa.eval (.tmp 119)=(.bool false):=hI.all 21 119 (.val (.bool false)) (by decide) rfl rfl
  have apk:aa.eval (.tmp 129)=(.bool (wh !=wh)):=hI.all 31 129 (.val (.bool (wh !=wh))) (by decide) rfl rfl
  refine zw qu.a qu.f hS qu.d (by rw [hB.size,hs];decide) (bn qu.o jD (v:=.bool (wh !=wh)) apk) fun a' au an ah aOa=>K a' _ _ ⟨hB.aC,hB.tidy,⟨⟨au.trans (hB.size.trans hs),an.trans (hB.defers.trans hd),(ah 0 (by decide)).trans (hB.slot 0 _ (by simp)),(ah 1 (by decide)).trans (hB.slot 1 _ (by simp)),(ah 9 (by decide)).trans (hB.slot 9 _ (by simp)),(ah 10 (by decide)).trans (hB.slot 10 _ (by simp)),(ah 11 (by decide)).trans (hB.slot 11 _ (by simp)),(ah 13 (by decide)).trans (hB.slot 13 _ (by simp)),(ah 82 (by decide)).trans (hB.slot 82 _ (by simp)),(ah 83 (by decide)).trans (hB.slot 83 _ (by simp)),(ah 84 (by decide)).trans (hB.slot 84 _ (by simp))⟩,(ah 17 (by decide)).trans (hB.slot 17 _ (by simp))⟩,by rw [aOa];simp⟩
 ·skip;rintro a4 V4 w4 ⟨W4,T4,hc4,aOa⟩;exact aX hS aTK aOa (q_skip hS aTJ (K a4 V4 w4 W4 T4 hc4))
end
def j7(R:RD)(st ac j:Nat)(V:View)(w:World):Prop:=
 ∃arr,ba V w st (.cells arr 39 (0,0))/\arr.size=R.ns/\∀k,k<R.ns->∃Cs v l,arr[k]? =some v/\Closed V w Cs/\gI w Cs (.agg #[v]) (R.cX k l)/\(∀no,no∈l↔R.aAh k j no)/\R.InS k l/\¬Cs ac
def EW(R:RD)(ac j i:Nat)(V:View)(w:World):Prop:=
 ∃arr,ba V w ac (.cells arr 39 (0,0))/\arr.size=R.ns/\∀k,k<R.ns->∃Cs v S,arr[k]? =some v/\Closed V w Cs/\gI w Cs (.agg #[v]) S/\R.yI k (if k<i then j+1 else j) S/\¬Cs ac
structure Lt4(R:RD)(oA:Option Addr)(oC:Nat)(jA:Option Addr)(jC C st ac rI j i:Nat)(a:Act):Prop where
 base:Lt3 R oA oC jA jC C st ac rI j a
 iG:a.eval (.tmp 131)=.slice (some ⟨ac,0,none⟩) R.ns R.ns
 iV:a.eval (.tmp 132)=.int .i64 R.ns
 gW:a.eval (.tmp 133)=.int .i64 i
section
variable {q9:Nat} {w:World} {a:Act}
theorem j7.keep(h:j7 R rI ac j V w)(k:dD V w V' w'):j7 R rI ac j V' w':=by
 obtain⟨arr,h1,h2,h3⟩:=h;refine⟨arr,h1.keep k,h2,fun x hx=>?_⟩;obtain⟨Cs,v,l,z1,z2,z3,z4⟩:=h3 x hx;exact⟨Cs,v,l,z1,z2.keep k,z3.keep z2 k,z4⟩
theorem EW.keep(h:EW R ac j i V w)(k:dD V w V' w'):EW R ac j i V' w':=by
 obtain⟨arr,h1,h2,h3⟩:=h;refine⟨arr,h1.keep k,h2,fun x hx=>?_⟩;obtain⟨Cs,v,S,z1,z2,z3,z4⟩:=h3 x hx;exact⟨Cs,v,S,z1,z2.keep k,z3.keep z2 k,z4⟩
theorem aml{Cs:Nat->Prop}(h:Closed V w Cs)(hn:¬Cs ac):Closed (j6 V ac) w Cs:=⟨h.tt,fun b hb=>⟨⟨(h b hb).1,fun e=>hn (e▸hb)⟩,(h b hb).2⟩⟩
set_option maxHeartbeats 1000000 in
theorem amm(hk:b.kind≠.early)(hR:R.Ok)(rS:R.ns<=4)(hq9:q9<R.ns)(hT:Tidy V w)(hac:ac<w.heap.size)(hP:j7 R rI ac j (j6 V ac) w)(hA:EW R ac j q9 V w)(hc:Lt4 R oA oC jA jC C st ac rI j q9 a)
  (K:∀a' V' w',dD (j6 V ac) w (j6 V' ac) w'->aG (· =ac) aD V w V' w'->Tidy V' w'->EW R ac j (q9+1) V' w'->Lt4 R oA oC jA jC C st ac rI j (q9+1) a'->Loc prog true Stop V' (G (b.at a' k) cs) w'):
  Loc prog true Stop V (G (b.at a (.code Ek::k)) cs) w:=by
 have hS:=ly hk;obtain⟨⟨⟨hs,hd,h0,h1,h9,aM,aH,aK,c9,dI,dQ⟩,bT⟩,iG,iV,gW⟩:=hc;obtain⟨arr,A1,A2,A3⟩:=hA;obtain⟨a1g,P1,P2,P3⟩:=hP;obtain⟨Cs,v,S,a1,a2,a3,a4,a5⟩:=A3 q9 hq9;obtain⟨Ds,v',l,p1,p2,p3,p4,p5,p6⟩:=P3 q9 hq9;rw [if_neg (Nat.lt_irrefl q9)]at a4;have hvs:iJ V w ⟨ac,0+q9*1,none⟩ v:=A1.cK (by rw [Nat.zero_add,Nat.mul_one];exact a1)
 have aOb:iJ V w ⟨rI,0+q9*1,none⟩ v':=⟨.inl P1.1.1,by
  have:=P1.2;simp only [World.cell?,this,Nat.zero_add,Nat.mul_one];simpa using p1⟩
 have p2V:Closed V w Ds:=⟨p2.tt,fun b hb=>⟨(p2 b hb).1.1,(p2 b hb).2⟩⟩;refine aj hS aCP (ag hS aCJ aCK (ay AO hS hs (du AO.o gW iV) fun a ae I8=>t13 ae hs hd h0 h1 h9 aM aH aK c9 dI dQ bT iG iV gW fun hs hd h0 h1 h9 aM aH aK c9 dI dQ bT iG iV gW=>?_));have I8:a.eval (.tmp 134)=.bool true:=by rw [I8];simp;omega
 refine ai hS (aj hS aCO (bY hS aCN I8 (q_skip hS aTN (aj hS aTU (bV hS aTS (aj hS aTR (ag hS aTP (rl [0,1] rfl) (ay agR hS hs (af agR.o gW) fun a ae a1h=>t13 ae hs hd h0 h1 h9 aM aH aK c9 dI dQ bT iG iV gW fun hs hd h0 h1 h9 aM aH aK c9 dI dQ bT iG iV gW=>?_))))))));refine ay agS hS hs (ak agS.o a1h) fun a ae dz=>t13 ae hs hd h0 h1 h9 aM aH aK c9 dI dQ bT iG iV gW fun hs hd h0 h1 h9 aM aH aK c9 dI dQ bT iG iV gW=>?_;refine ai hS (ye hS aTQ [136,137,138,139,140,141,142,143,144,145,146,147] [.val (.slice (some ⟨ac,0,none⟩) R.ns R.ns),.val (.int .i64 q9),.val (.slice (some ⟨ac,0,none⟩) R.ns R.ns),.val (.int .i64 q9),.val (.pointer (some ⟨ac,0+q9*1,none⟩)),.val (.agg #[v]),.val (.slice (some ⟨rI,0,none⟩) R.ns R.ns),.val (.int .i64 q9),.val (.pointer (some ⟨rI,0+q9*1,none⟩)),.val (.agg #[v']),.set (fun b=>Cs b\/Ds b) (Rg.yT S (R.cX q9 l)) w.heap.size,.val (.pointer (some ⟨ac,0+q9*1,none⟩))] [(0,.slice oA R.ns oC),(1,.slice jA R.js.length jC),(9,.int .i64 R.u),(10,.slice (some ⟨C,0,none⟩) R.js.length R.js.length),(11,.slice (some ⟨st,0,none⟩) R.ns R.ns),(13,.slice (some ⟨ac,0,none⟩) R.ns R.ns),(82,.slice jA R.js.length jC),(83,.int .i64 R.js.length),(84,.int .i64 j),(17,.slice (some ⟨rI,0,none⟩) R.ns R.ns),(131,.slice (some ⟨ac,0,none⟩) R.ns R.ns),(132,.int .i64 R.ns),(133,.int .i64 q9),(19,.int .i64 q9)] 12 rfl (by kernel_rfl) qw.a (fu:=12) (by kernel_rfl) rfl rfl (by decide) (by simp) (fun a' V' w'=>aG (· =ac) aD V w V' w'/\Tidy V' w'/\EW R ac j (q9+1) V' w'/\Lt4 R oA oC jA jC C st ac rI j q9 a') (by simp [h0,h1,h9,aM,aH,aK,c9,dI,dQ,bT,iG,iV,gW,dz]) hT ?_ ?_ ?_)
 ·intro i d s o rest hi aV aZ ho aa VV ww hB hI K;match i,hi with
  |0,_=>
   cases aV;cases aZ;obtain rfl:=LU.w ho;have aK:=hB.sl 13 rfl;exact cU LU hS hB hs (af LU.o aK) K
  |1,_=>
   cases aV;cases aZ;obtain rfl:=LV.w ho;have dz:=hB.sl 19 rfl;exact cU LV hS hB hs (af LV.o dz) K
  |2,_=>
   cases aV;cases aZ;obtain rfl:=LW.w ho;have aK:=hB.sl 13 rfl;exact cU LW hS hB hs (af LW.o aK) K
  |3,_=>
   cases aV;cases aZ;obtain rfl:=LX.w ho;have dz:=hB.sl 19 rfl;exact cU LX hS hB hs (af LX.o dz) K
  |4,_=>
   cases aV;cases aZ;obtain rfl:=LY.w ho;have a1i:=hI.av 2;have a1j:=hI.av 3;exact cU LY hS hB hs (cT (s:=1) LY.o a1i a1j underlying27 sizeOf39 hq9) K
  |5,_=>
   cases aV;cases aZ;obtain rfl:=LZ.w ho;have a1k:=hI.av 4;exact cU LZ hS hB hs (lz LZ.o a1k isAgg39 sizeOf39 (hvs.go hB.aC)) K
  |6,_=>
   cases aV;cases aZ;obtain rfl:=L0.w ho;have bT:=hB.sl 17 rfl;exact cU L0 hS hB hs (af L0.o bT) K
  |7,_=>
   cases aV;cases aZ;obtain rfl:=L3.w ho;have dz:=hB.sl 19 rfl;exact cU L3 hS hB hs (af L3.o dz) K
  |8,_=>
   cases aV;cases aZ;obtain rfl:=L4.w ho;have a1l:=hI.av 6;have a1m:=hI.av 7;exact cU L4 hS hB hs (cT (s:=1) L4.o a1l a1m underlying27 sizeOf39 hq9) K
  |9,_=>
   cases aV;cases aZ;obtain rfl:=L5.w ho;have a1n:=hI.av 8;exact cU L5 hS hB hs (lz L5.o a1n isAgg39 sizeOf39 (aOb.go hB.aC)) K
  |10,_=>
   cases aV;cases aZ;obtain rfl:=qv.w ho;have aWZ:=hI.av 5;have aW0:=hI.av 9;have c1:=a2.aC hB.aC fun _ _=>id;have c2:=p2V.aC hB.aC fun _ _=>id;have t1:gI ww Cs (.agg #[v]) S:=a3.blocks fun b hb=>⟨hb,hB.aC.own b (a2 b hb).1 id⟩;have t2:gI ww Ds (.agg #[v']) (R.cX q9 l):=p3.blocks fun b hb=>⟨hb,hB.aC.own b (p2V b hb).1 id⟩;obtain⟨X1,x1,f1,s1,k1⟩:=id t1;obtain⟨X2,x2,f2,s2,k2⟩:=id t2;refine GI (l:=Rg.yT S (R.cX q9 l)) (fun b=>Cs b\/Ds b) qv.a qv.f hS qv.d (by rw [hB.size,hs];decide) hB.tidy qv.o (by kernel_rfl) (c1.or c2) ?_ (fun t=>?_) fun C' a' V' w' e1 e2 e3 e4 e5 e6 e7 e8 e9=>K a' V' w' e1 e2 e3 e4 e5 ⟨C',e6,e7,fun b hb=>(e8 b hb).imp id fun x=>Nat.le_trans hB.aC.size x,e9⟩
   ·simp only [List.map_toArray,List.map_cons,List.map_nil,aWZ,aW0];exact ar2 (t1.vr fun b hb=>⟨.inl (.inl hb),hB.tidy.low.own b (c1 b hb).1⟩) (t2.vr fun b hb=>⟨.inl (.inr hb),hB.tidy.low.own b (c2 b hb).1⟩)
   ·simp only [List.map_toArray,List.map_cons,List.map_nil,aWZ,aW0,f1,f2];exact Rg.Uk _ _ _ _ _ _ _ (gA s1 fun ad e=>.inl (k1 ad e)) (gA s2 fun ad e=>.inr (k2 ad e)) a4.norm qP (by have:=a4.len;omega) (by have:=EU hR p5;omega)
  |11,_=>
   cases aV;cases aZ;obtain rfl:=El.w ho;have aGK:=hI.av 0;have aGL:=hI.av 1;exact cU El hS hB hs (cT (s:=1) El.o aGK aGL underlying27 sizeOf39 hq9) K
  |n+12,hn=>exact absurd hn (by omega)
 ·intro rest aa VV ww hB hI K;have a1o:=hI.all 10 146 (.set (fun b=>Cs b\/Ds b) (Rg.yT S (R.cX q9 l)) w.heap.size) (by decide) rfl rfl
  have aOc:aa.eval (.tmp 147)=(.pointer (some ⟨ac,0+q9*1,none⟩)):=hI.all 11 147 (.val (.pointer (some ⟨ac,0+q9*1,none⟩))) (by decide) rfl rfl
  obtain⟨C',d1,d2,d3,d4⟩:=a1o;generalize hx:aa.eval (.tmp 146)=xx at d4;obtain⟨X3,x3,rfl,s3,k3⟩:=id d4;have aOc:aa.eval (.tmp 147)=.pointer (some ⟨ac,q9,none⟩):=by rw [aOc,Nat.zero_add,Nat.mul_one]
  have aOd:¬C' ac:=fun h=>by
   rcases d3 ac h with (y|y)|y
   ·exact a5 y
   ·exact p6 y
   ·omega
  have A1':=A1.go hB.aC;refine gg qw.a qw.f hS qw.d qw.o aOc hx (vs:=[.slice X3 (Rg.yT S (R.cX q9 l)).length x3]) rfl sizeOf39 (fun u hu=>by simp at hu;subst hu;rfl) A1' (by simp;omega) hB.tidy fun w3 W3 B3 T3 z3=>K aa VV w3 ⟨(hB.aC.mono (fun _ h=>h.elim) fun _ h=>h.elim).trans W3,T3,⟨_,B3,by simp [alu,A2],fun x jc=>?_⟩,⟨⟨⟨hB.size.trans hs,hB.defers.trans hd,hB.slot 0 _ (by simp),hB.slot 1 _ (by simp),hB.slot 9 _ (by simp),hB.slot 10 _ (by simp),hB.slot 11 _ (by simp),hB.slot 13 _ (by simp),hB.slot 82 _ (by simp),hB.slot 83 _ (by simp),hB.slot 84 _ (by simp)⟩,hB.slot 17 _ (by simp)⟩,hB.slot 131 _ (by simp),hB.slot 132 _ (by simp),hB.slot 133 _ (by simp)⟩⟩
  by_cases e:x=q9
  ·subst e;refine⟨C',.slice X3 (Rg.yT S (R.cX x l)).length x3,_,?_,d1.aC W3 (fun b hb e=>aOd (e▸hb)),d4.blocks fun b hb=>⟨hb,W3.own b (d1 b hb).1 fun e=>aOd (e▸hb)⟩,?_,aOd⟩
   ·show(arr.setIfInBounds x _)[x]? =_
    simp [Array.getElem?_setIfInBounds_self_of_lt (show x<arr.size by omega)]
   ·rw [if_pos (Nat.lt_succ_self x)];exact awG hR a4 p5 p4
  ·obtain⟨Cs',v2,S',z1,z2,z3',z4,z5⟩:=A3 x jc;have z2':=z2.aC hB.aC fun _ _=>id;have a1p:gI ww Cs' (.agg #[v2]) S':=z3'.blocks fun b hb=>⟨hb,hB.aC.own b (z2 b hb).1 id⟩;refine⟨Cs',v2,S',?_,z2'.aC W3 (fun b hb e=>z5 (e▸hb)),a1p.blocks fun b hb=>⟨hb,W3.own b (z2' b hb).1 fun e=>z5 (e▸hb)⟩,?_,z5⟩
   ·show(arr.setIfInBounds q9 _)[x]? =_
    rw [Array.getElem?_setIfInBounds_ne (Ne.symm e)];exact z1
   ·have e2:(if x<q9+1 then j+1 else j)=if x<q9 then j+1 else j:=by
     by_cases h:x<q9
     ·rw [if_pos h,if_pos (by omega)]
     ·rw [if_neg h,if_neg (by omega)]
    rw [e2];exact z4
 ·skip;rintro a4 V4 w4 ⟨W4,T4,hA4,⟨⟨⟨hs,hd,h0,h1,h9,aM,aH,aK,c9,dI,dQ⟩,bT⟩,iG,iV,gW⟩⟩;generalize a4=a at*;refine c7 hS (ag hS aTT (rl [0,1] rfl) (ay agT hS hs (gQ agT.o gW rfl) fun a ae aOe=>t13 ae hs hd h0 h1 h9 aM aH aK c9 dI dQ bT iG iV gW fun hs hd h0 h1 h9 aM aH aK c9 dI dQ bT iG iV gW=>?_));have aOe:a.eval (.tmp 148)=.int .i64 ((q9+1:Nat):Int):=by
   rw [aOe,IntWalk.i64_in _ (by omega)];simp
  refine ay agU hS hs (af agU.o aOe) fun a ae gW=>t12 ae hs hd h0 h1 h9 aM aH aK c9 dI dQ bT iG iV fun hs hd h0 h1 h9 aM aH aK c9 dI dQ bT iG iV=>?_;exact ai hS (K _ V4 w4 (dD.but W4) W4 T4 hA4 ⟨⟨⟨hs,hd,h0,h1,h9,aM,aH,aK,c9,dI,dQ⟩,bT⟩,iG,iV,gW⟩)
end
section
variable {w:World} {a:Act}
theorem awK(hk:b.kind≠.early)(hR:R.Ok)(rS:R.ns<=4)
  (K:∀a' V' w',dD (j6 V1 ac) w1 (j6 V' ac) w'->aG (· =ac) aD V1 w1 V' w'->Tidy V' w'->iD R ac (j+1) V' w'->Lt4 R oA oC jA jC C st ac rI j R.ns a'->Loc prog true Stop V' (G (b.at a' k) cs) w'):
  ∀(n i:Nat) (a:Act) (V:View) (w:World),n=R.ns-i->i<=R.ns->dD (j6 V1 ac) w1 (j6 V ac) w->aG (· =ac) aD V1 w1 V w->Tidy V w->ac<w.heap.size->j7 R rI ac j (j6 V ac) w->EW R ac j i V w->Lt4 R oA oC jA jC C st ac rI j i a->
   Loc prog true Stop V (G (b.at a (.code Ek::.inLoop Ek::.inBlock 4::k)) cs) w:=by
 have hS:=ly hk;intro n;induction n with
 |zero=>
  intro i a V w hn hi hK hW hT hac hP hA hc;obtain rfl:i=R.ns:=by omega
  obtain⟨⟨⟨hs,hd,h0,h1,h9,aM,aH,aK,c9,dI,dQ⟩,bT⟩,iG,iV,gW⟩:=hc;refine aj hS aCP (ag hS aCJ aCK (ay AO hS hs (du AO.o gW iV) fun a ae I8=>t13 ae hs hd h0 h1 h9 aM aH aK c9 dI dQ bT iG iV gW fun hs hd h0 h1 h9 aM aH aK c9 dI dQ bT iG iV gW=>?_));have I8:a.eval (.tmp 134)=.bool false:=by rw [I8];simp
  refine ai hS (aj hS aCO (aX hS aCN I8 (q_exit hS aTO rfl (K _ V w hK hW hT ?_ ⟨⟨⟨hs,hd,h0,h1,h9,aM,aH,aK,c9,dI,dQ⟩,bT⟩,iG,iV,gW⟩))));obtain⟨arr,A1,A2,A3⟩:=hA;refine⟨arr,A1,A2,fun x hx=>?_⟩;obtain⟨Cs,v,S,z1,z2,z3,z4,z5⟩:=A3 x hx;rw [if_pos hx]at z4;exact⟨Cs,v,S,z1,z2,z3,z4,z5⟩
 |succ n ih=>
  intro i a V w hn hi hK hW hT hac hP hA hc;refine amm hk hR rS (by omega) hT hac hP hA hc fun a' V' w' k' W' T' A' c'=>dW hS (ih (i+1) a' V' w' (by omega) (by omega) (hK.trans k') (hW.trans W') T' (Nat.lt_of_lt_of_le hac W'.size) (hP.keep k') A' c')
theorem aOf(h:R.Ok)(hj:j<R.js.length):(R.one j).Ok:=by
 refine⟨h.u,h.len,h.cap,h.bs,by show 1<31;omega,fun p hp=>?_,fun p hp=>?_⟩
 ·have:p=R.k7 j:=by simpa [RD.one]using hp
  rw [this];exact h.me _ (nN hj)
 ·have:p=R.k7 j:=by simpa [RD.one]using hp
  rw [this];exact h.q _ (nN hj)
theorem aOg(hjs:R.js=L.map fun p=>(p.1.toNat,p.2))(hj:j<L.length):R.k7 j=(L[j].1.toNat,L[j].2):=by
 simp [RD.k7,hjs,List.getD_eq_getElem?_getD,List.getElem?_eq_getElem hj]
theorem awL{n0:Nat}(hG:aww (R.one j) rI R.ns n0 V w)(hac:ac<n0):j7 R rI ac j V w:=by
 obtain⟨arr,h1,h2,h3⟩:=hG.blk;refine⟨arr,h1,h2,fun x hx=>?_⟩;obtain⟨Cs,v,l,z1,z2,z3,z4,z5,z6,z7⟩:=h3 x hx;exact⟨Cs,v,l,z1,z2,z3,fun no=>(z4 no).trans (R.awF j x no),z7,fun hc=>by have:=z5 ac hc;omega⟩
theorem aaj(h:j7 R rI ac j V w)(cM:rI≠ac):j7 R rI ac j (j6 V ac) w:=by
 obtain⟨arr,h1,h2,h3⟩:=h;refine⟨arr,⟨⟨h1.1,cM⟩,h1.2⟩,h2,fun x hx=>?_⟩;obtain⟨Cs,v,l,z1,z2,z3,z4,z5,z6⟩:=h3 x hx;exact⟨Cs,v,l,z1,aml z2 z6,z3,z4,z5,z6⟩
theorem awM(m f t q:Int):Instr.fill (fun i=>some (i*4,4)) ((Array.range (1*4)).map fun i=>(Value.agg #[.int .i64 0,.int .i64 0,.int .i64 0,.int .i64 0]).cells[i % (Value.agg #[.int .i64 0,.int .i64 0,.int .i64 0,.int .i64 0]).cells.size]!) [(0,.agg #[.int .i64 m,.int .i64 f,.int .i64 t,.int .i64 q])]=some #[.int .i64 m,.int .i64 f,.int .i64 t,.int .i64 q]:=by
 simp [go_sem,Instr.fill]
theorem aOh:(prog.info? 34).map (fun i=>(i.zero,i.size,i.bytes))=some (some (.agg #[.int .i64 0,.int .i64 0,.int .i64 0,.int .i64 0]),4,32):=by kernel_rfl
set_option maxHeartbeats 1000000 in
theorem amn(hk:b.kind≠.early)(hR:R.Ok)(hjs:R.js=L.map fun p=>(p.1.toNat,p.2))(fB:L.all (fN R.ns)=true)(Vb:Rg.fv R.u=true)(rS:R.ns<=4)(hL:L.length<=20)(hj:j<R.js.length)(hH:mN Shun w1 V w)(hF:UZ R L oA jA C st V0 w0 (j6 V ac) w)(hA:iD R ac j V w)(hc:Lt2 R oA oC jA jC C st ac j a)
  (K:∀bc w2 V' w' a',mN bc w2 V' w'->UZ R L oA jA C st V0 w0 (j6 V' ac) w'->iD R ac (j+1) V' w'->Lt2 R oA oC jA jC C st ac (j+1) a'->fh Q bc V' (G (b.at a' k) cs) w'):
  fh Q Shun V (G (b.at a (.code wu::k)) cs) w:=by
 have hS:=ly hk;obtain⟨i34,a1q,a1r,aOi,a6h⟩:=info_parts aOh;have Us:R.js.length=L.length:=by rw [hjs];simp
 have hjL:j<L.length:=by omega
 have a1t:ac<w.heap.size:=by
  obtain⟨arr,z,_⟩:=hA;exact hH.tidy.low.own ac z.1
 obtain⟨hs,hd,h0,h1,h9,aM,aH,aK,c9,dI,dQ⟩:=hc;obtain⟨jb,jo,eA,j0,j1,j2,j3⟩:=(hF.nM.keep (BE V ac w)) j hjL;refine aj hS aCR (ag hS aCD aCE (ay AK hS hs (du AK.o dQ dI) fun a ae h85=>t9 ae hs hd h0 h1 h9 aM aH aK c9 dI dQ fun hs hd h0 h1 h9 aM aH aK c9 dI dQ=>?_));have h85:a.eval (.tmp 85)=.bool true:=by rw [h85];simp;omega
 refine ai hS (aj hS aCQ (bY hS aCH h85 (q_skip hS aTD (aj hS aT3 (bV hS aT1 (aj hS aT0 (ag hS aTF (rl [0,1,2,3,4,5] rfl) (ay agu hS hs (af agu.o dQ) fun a ae h86=>t9 ae hs hd h0 h1 h9 aM aH aK c9 dI dQ fun hs hd h0 h1 h9 aM aH aK c9 dI dQ=>?_))))))));rw [eA]at c9;refine ay agv hS hs (cT (s:=4) agv.o c9 dQ underlying23 sizeOf34 hj) fun a ae h87=>t10 ae hs hd h0 h1 h9 aM aH aK c9 dI dQ h86 fun hs hd h0 h1 h9 aM aH aK c9 dI dQ h86=>?_;rw [←eA]at c9;refine ay agw hS hs (vi agw.o h87 isAgg34 sizeOf34 j0.cK j1.cK j2.cK j3.cK) fun a ae h88=>t10 ae hs hd h0 h1 h9 aM aH aK c9 dI dQ h86 fun hs hd h0 h1 h9 aM aH aK c9 dI dQ h86=>?_;refine dN AL.a AL.f hS AL.d (by rw [hs];decide) hH.tidy AL.o Tryz.zeroValue34 fun jl a V2 w2 au an ah eS W2 g2 B2 T2=>t11 ⟨au,an,ah⟩ hs hd h0 h1 h9 aM aH aK c9 dI dQ h86 h88 fun hs hd h0 h1 h9 aM aH aK c9 dI dQ h86 h88=>?_
 have B2:ba V2 w2 jl (.cells #[.int .i64 0,.int .i64 0,.int .i64 0,.int .i64 0] 34 (0,0)):=B2;refine ay agx hS hs (ak agx.o h86) fun a ae aW=>t11 ae hs hd h0 h1 h9 aM aH aK c9 dI dQ h88 eS fun hs hd h0 h1 h9 aM aH aK c9 dI dQ h88 eS=>?_;refine gg AM.a AM.f hS AM.d AM.o eS h88 (vs:=[.int .i64 L[j].1,.int .i64 L[j].2.f,.int .i64 L[j].2.t,.int .i64 L[j].2.q]) rfl sizeOf34 (fun u hu=>by simp at hu;rcases hu with rfl|rfl|rfl|rfl<;>rfl) B2 (by simp) T2 fun w3 W3 B3 T3 z3=>?_
 have NB:=W2.fresh W3 g2 hH.tidy;have B3:ba V2 w3 jl (.cells #[.int .i64 L[j].1,.int .i64 L[j].2.f,.int .i64 L[j].2.t,.int .i64 L[j].2.q] 34 (0,0)):=B3;refine ai hS (aj hS aTZ (ag hS aTG (rl [0,1,2,3,4,5,6,7,8,9,10,11] rfl) (ay agz hS hs (af agz.o h0) fun a ae h90=>t11 ae hs hd h0 h1 h9 aM aH aK c9 dI dQ aW eS fun hs hd h0 h1 h9 aM aH aK c9 dI dQ aW eS=>?_)));refine ay agA hS hs (vi agA.o eS isAgg34 sizeOf34 (B3.cK rfl) (B3.cK rfl) (B3.cK rfl) (B3.cK rfl)) fun a ae C3=>t11 ae hs hd h0 h1 h9 aM aH aK c9 dI dQ aW h90 fun hs hd h0 h1 h9 aM aH aK c9 dI dQ aW h90=>?_;have C3:a.eval (.tmp 91)=.agg #[.int .i64 L[j].1,.int .i64 L[j].2.f,.int .i64 L[j].2.t,.int .i64 L[j].2.q]:=C3;refine jW AN.a AN.f hS AN.d (by rw [hs];decide) T3 AN.o underlying23 a1q a1r (by rw [aOi];decide) (by rw [aOi];decide) (cells:=#[.int .i64 L[j].1,.int .i64 L[j].2.f,.int .i64 L[j].2.t,.int .i64 L[j].2.q]) (by simp only [List.map_toArray,List.map_cons,List.map_nil,C3,aOi];exact awM _ _ _ _) fun g a V4 w4 au an ah h92 W4 g4 B4 T4=>t11 ⟨au,an,ah⟩ hs hd h0 h1 h9 aM aH aK c9 dI dQ aW h90 fun hs hd h0 h1 h9 aM aH aK c9 dI dQ aW h90=>?_
 refine ay agB hS hs (af agB.o h9) fun a ae h93=>t12 ae hs hd h0 h1 h9 aM aH aK c9 dI dQ aW h90 h92 fun hs hd h0 h1 h9 aM aH aK c9 dI dQ aW h90 h92=>?_;have W14:=NB.trans W4;have hH4:=hH.go W14 T4;have k14:dD (j6 V ac) w (j6 V4 ac) w4:=rH (.aC W14) ac;have hF4:=hF.keep k14;have hA4:=hA.keep (.aC W14);have aW2:ac<w4.heap.size:=Nat.lt_of_lt_of_le a1t W14.size;have hj1:l4 [L[j]] (some ⟨g,0,none⟩) V4 w4:=fun i hi=>by
  obtain rfl:i=0:=by simpa using hi
  exact⟨g,0,rfl,B4.cK rfl,B4.cK rfl,B4.cK rfl,B4.cK rfl⟩
 have hgj:[L[j]].all (fN R.ns)=true:=by
  have:=List.all_eq_true.1 fB L[j] (List.getElem_mem hjL);simp [this]
 have hO4:yH (R.one j) oA V4 w4:=by
  have:=(hF4.obj.keep (BE V4 ac w4)).at_;exact⟨this.l9,this.byt⟩
 have hjo:qO (R.one j) [L[j]]:=⟨by show [R.k7 j]=_;rw [aOg hjs hjL];rfl,fun _=>aOf hR hj⟩
 refine bI wv.a wv.f hS wv.o func5 (by kernel_rfl) aCe (GW (R:=R.one j) (L:=[L[j]]) (oA:=oA) (jA:=some ⟨g,0,none⟩) (oC:=oC) (jC:=1) (w0:=w1) hS wv.a wv.d (by rw [hs];decide) hjo Vb (by show 1<=20;omega) rS hH4.hg hH4.so hH4.aC hH4.tidy hO4 hj1 (fun jb jo e _=>by cases e;exact B4.1) (by simp only [List.map_toArray,List.map_cons,List.map_nil,h90,h92,h93];rfl) (fun a V5 w5 ayg W5 T5 au an ah h94=>?_) (fun bc w5 V6 w6 C' rI a awI hRn au an ah h94=>?_))
 ·have:[L[j]].all (fN R.ns)=false:=ayg;rw [hgj]at this;cases this
 ·have hH6:=hRn.here;have k6:=hRn.keep hH4.tidy;have hF6:=hF4.keep (rH k6 ac);have hA6:=hA4.keep k6;have rN:rI≠ac:=by have:=hRn.new;omega
  have a1u:ac<w6.heap.size:=Nat.lt_of_lt_of_le aW2 k6.size;have hP6:j7 R rI ac j V6 w6:=awL hRn.awx aW2;obtain⟨jQ,s1,s2,s3⟩:=hRn.row 0 (by show 0<1;omega)
  obtain⟨vo,r1,r2,r3⟩:=(hF6.rows.keep (BE V6 ac w6)) j hj;rw [R.ami]at s2;rw [R.amh,RD.GX]at s3;rw [RD.GX]at r3;refine t10 ⟨au,an,ah⟩ hs hd h0 h1 h9 aM aH aK c9 dI dQ aW fun hs hd h0 h1 h9 aM aH aK c9 dI dQ aW=>?_;refine ay agC hS hs (af agC.o h94) fun a ae h89=>t10 ae hs hd h0 h1 h9 aM aH aK c9 dI dQ aW fun hs hd h0 h1 h9 aM aH aK c9 dI dQ aW=>?_;refine ay agD hS hs (bR agD.o h89 rfl) fun a ae nU=>t11 ae hs hd h0 h1 h9 aM aH aK c9 dI dQ aW h89 fun hs hd h0 h1 h9 aM aH aK c9 dI dQ aW h89=>?_;refine ay agE hS hs (bR agE.o h89 rfl) fun a ae h96=>t12 ae hs hd h0 h1 h9 aM aH aK c9 dI dQ aW h89 nU fun hs hd h0 h1 h9 aM aH aK c9 dI dQ aW h89 nU=>?_;refine ay agF hS hs (bR agF.o h89 rfl) fun a ae h97=>t12 ae hs hd h0 h1 h9 aM aH aK c9 dI dQ aW nU h96 fun hs hd h0 h1 h9 aM aH aK c9 dI dQ aW nU h96=>?_;refine ay agG hS hs (ak agG.o nU) fun a ae fP=>t12 ae hs hd h0 h1 h9 aM aH aK c9 dI dQ aW h96 h97 fun hs hd h0 h1 h9 aM aH aK c9 dI dQ aW h96 h97=>?_;refine ay TC hS hs (ak TC.o h96) fun a ae bT=>t12 ae hs hd h0 h1 h9 aM aH aK c9 dI dQ aW h97 fP fun hs hd h0 h1 h9 aM aH aK c9 dI dQ aW h97 fP=>?_;refine ay TD hS hs (ak TD.o h97) fun a ae jL=>t12 ae hs hd h0 h1 h9 aM aH aK c9 dI dQ aW fP bT fun hs hd h0 h1 h9 aM aH aK c9 dI dQ aW fP bT=>?_;refine ai hS (awJ (C':=C') (rI:=rI) (l:=R.raw j) hk hH6.tidy hj r1 r2 r3 s1 s2 s3 ⟨⟨hs,hd,h0,h1,h9,aM,aH,aK,c9,dI,dQ⟩,bT⟩ aW fP jL fun a7 V7 w7 W7 T7 hc7=>?_);have hH7:=hH6.go W7 T7;have hF7:=hF6.keep (rH (.aC W7) ac);have hA7:=hA6.keep (.aC W7);have hP7:=aaj (hP6.keep (.aC W7)) rN;obtain⟨⟨hs,hd,h0,h1,h9,aM,aH,aK,c9,dI,dQ⟩,bT⟩:=hc7;generalize a7=a at*;refine aj hS aTX (ag hS aTM (rl [0,1,2] rfl) (ay agK hS hs (af agK.o aK) fun a ae iG=>t10 ae hs hd h0 h1 h9 aM aH aK c9 dI dQ bT fun hs hd h0 h1 h9 aM aH aK c9 dI dQ bT=>?_));refine ay agL hS hs (dk agL.o iG underlying27) fun a ae iV=>t11 ae hs hd h0 h1 h9 aM aH aK c9 dI dQ bT iG fun hs hd h0 h1 h9 aM aH aK c9 dI dQ bT iG=>?_;refine ay agM hS hs (af agM.o rfl) fun a ae gW=>t12 ae hs hd h0 h1 h9 aM aH aK c9 dI dQ bT iG iV fun hs hd h0 h1 h9 aM aH aK c9 dI dQ bT iG iV=>?_;refine ai hS (bV hS aTW (iU hS aTV (awK (V1:=V7) (w1:=w7) (rI:=rI) hk hR rS (fun a8 V8 w8 K8 W8 T8 A8 hc8=>?_) R.ns 0 _ V7 w7 (by omega) (by omega) (.refl _ _) ((aG.refl V7 w7).mono (fun _ h=>h.elim) fun _ h=>h.elim) T7 (Nat.lt_of_lt_of_le a1u W7.size) hP7 ?_ ⟨⟨⟨hs,hd,h0,h1,h9,aM,aH,aK,c9,dI,dQ⟩,bT⟩,iG,iV,gW⟩)))
  ·obtain⟨⟨⟨hs,hd,h0,h1,h9,aM,aH,aK,c9,dI,dQ⟩,bT⟩,iG,iV,gW⟩:=hc8;generalize a8=a at*;refine c7 hS (ag hS aT2 (rl [0,1] rfl) (ay agV hS hs (gQ agV.o dQ rfl) fun a ae aOj=>t9 ae hs hd h0 h1 h9 aM aH aK c9 dI dQ fun hs hd h0 h1 h9 aM aH aK c9 dI dQ=>?_));have aOj:a.eval (.tmp 149)=.int .i64 ((j+1:Nat):Int):=by
    rw [aOj,IntWalk.i64_in _ (by omega)];simp
   refine ay agW hS hs (af agW.o aOj) fun a ae dQ=>t8 ae hs hd h0 h1 h9 aM aH aK c9 dI fun hs hd h0 h1 h9 aM aH aK c9 dI=>?_;have WW:aG (· =ac) aD (bP bc w5) w5 V8 w8:=(hH7.aC.mono (fun _ h=>h.elim) fun _ h=>h.elim).trans W8;refine ai hS (fh.UM WW.deaf fun w9 hr=>?_);have W9:aG (· =ac) aD (bP bc w5) w5 V8 w9:=WW.trans ((aG.bk hr).mono (fun _ h=>h.elim) fun _ h=>h.elim);have hg9:prog.globals.size<=w9.heap.size:=Nat.le_trans hH7.hg W9.size;have k89:dD V8 w8 V8 w9:=.aC (.bk hr);have k9:dD V8 w9 (bP bc w9) w9:=⟨Nat.le_refl _,fun b hb=>⟨qN hH7.so hH7.hg W9 hb,rfl⟩⟩;have k:=k89.trans k9;exact dy.loc hg9 (K bc w9 _ w9 _ (.new hg9 (hH7.so.kind W9.kind)) ((hF7.keep K8).keep (rH k ac)) (A8.keep k) ⟨hs,hd,h0,h1,h9,aM,aH,aK,c9,dI,dQ⟩)
  ·obtain⟨arr,A1,A2,A3⟩:=hA7;refine⟨arr,A1,A2,fun x hx=>?_⟩;obtain⟨Cs,v,S,z1,z2,z3,z4,z5⟩:=A3 x hx;exact⟨Cs,v,S,z1,z2,z3,by rw [if_neg (Nat.not_lt_zero x)];exact z4,z5⟩
end
structure Lt6(R:RD)(oA:Option Addr)(oC:Nat)(jA:Option Addr)(jC st ac j:Nat)(a:Act):Prop where
 hs:a.tmps.size=181
 hd:a.defers=[]
 h0:a.eval (.tmp 0)=.slice oA R.ns oC
 h1:a.eval (.tmp 1)=.slice jA R.js.length jC
 h9:a.eval (.tmp 9)=.int .i64 R.u
 aH:a.eval (.tmp 11)=.slice (some ⟨st,0,none⟩) R.ns R.ns
 gm:a.eval (.tmp 150)=.slice (some ⟨ac,0,none⟩) R.ns R.ns
 gJ:a.eval (.tmp 151)=.int .i64 R.ns
 gK:a.eval (.tmp 152)=.int .i64 j
section
variable {w:World} {a:Act}
theorem amo(hk:b.kind≠.early)(hR:R.Ok)(hjs:R.js=L.map fun p=>(p.1.toNat,p.2))(fB:L.all (fN R.ns)=true)(Vb:Rg.fv R.u=true)(rS:R.ns<=4)(hL:L.length<=20)
  (K:∀bc w2 V' w' a',mN bc w2 V' w'->UZ R L oA jA C st V0 w0 (j6 V' ac) w'->iD R ac R.js.length V' w'->Lt2 R oA oC jA jC C st ac R.js.length a'->fh Q bc V' (G (b.at a' k) cs) w'):
  ∀(n j:Nat) (a:Act) (Shun:Go.Loc->Prop) (w1:World) (V:View) (w:World),n=R.js.length-j->j<=R.js.length->mN Shun w1 V w->UZ R L oA jA C st V0 w0 (j6 V ac) w->iD R ac j V w->Lt2 R oA oC jA jC C st ac j a->
   fh Q Shun V (G (b.at a (.code wu::.inLoop wu::.inBlock 2::k)) cs) w:=by
 have hS:=ly hk;intro n;induction n with
 |zero=>
  intro j a Shun w1 V w hn hj hH hF hA hc;obtain rfl:j=R.js.length:=by omega
  obtain⟨hs,hd,h0,h1,h9,aM,aH,aK,c9,dI,dQ⟩:=hc;refine aj hS aCR (ag hS aCD aCE (ay AK hS hs (du AK.o dQ dI) fun a ae h85=>t9 ae hs hd h0 h1 h9 aM aH aK c9 dI dQ fun hs hd h0 h1 h9 aM aH aK c9 dI dQ=>?_));have h85:a.eval (.tmp 85)=.bool false:=by rw [h85];simp
  exact ai hS (aj hS aCQ (aX hS aCH h85 (q_exit hS aTE rfl (K Shun w1 V w _ hH hF hA ⟨hs,hd,h0,h1,h9,aM,aH,aK,c9,dI,dQ⟩))))
 |succ n ih=>
  intro j a Shun w1 V w hn hj hH hF hA hc;exact amn hk hR hjs fB Vb rS hL (by omega) hH hF hA hc fun bc w2 V' w' a' hH' OE hA' BQ=>dW hS (ih (j+1) a' bc w2 V' w' (by omega) (by omega) hH' OE hA' BQ)
theorem amp(hk:b.kind≠.early)(rS:R.ns<=4)(hg:iD R ac N V1 w1)(rj:iD R st N V1 w1)
  (K:∀a' V' w',aG aI aD V1 w1 V' w'->Tidy V' w'->Lt6 R oA oC jA jC st ac R.ns a'->Loc prog true Stop V' (G (b.at a' k) cs) w'):
  ∀(n q9:Nat) (a:Act) (V:View) (w:World),n=R.ns-q9->q9<=R.ns->aG aI aD V1 w1 V w->Tidy V w->Lt6 R oA oC jA jC st ac q9 a->
   Loc prog true Stop V (G (b.at a (.code xX::.inLoop xX::.inBlock 6::k)) cs) w:=by
 have hS:=ly hk;intro n;induction n with
 |zero=>
  intro q9 a V w hn hj hW hT hc;obtain rfl:q9=R.ns:=by omega
  obtain⟨hs,hd,h0,h1,h9,aH,gm,gJ,gK⟩:=hc;refine aj hS atN (ag hS atG aCS (ay AP hS hs (du AP.o gK gJ) fun a ae aak=>t7 ae hs hd h0 h1 h9 aH gm gJ gK fun hs hd h0 h1 h9 aH gm gJ gK=>?_));have aak:a.eval (.tmp 153)=.bool false:=by rw [aak];simp
  exact ai hS (aj hS atM (aX hS atJ aak (q_exit hS aKS rfl (K _ V w hW hT ⟨hs,hd,h0,h1,h9,aH,gm,gJ,gK⟩))))
 |succ n ih=>
  intro q9 a V w hn hj hW hT hc;have hq9:q9<R.ns:=by omega
  obtain⟨arr,A1,A2,A3⟩:=hg.keep (.aC hW);obtain⟨a1g,P1,P2,P3⟩:=rj.keep (.aC hW);obtain⟨Cs,v,Sp,a1,a2,a3,a4,a5⟩:=A3 q9 hq9;obtain⟨Ds,v',Sp',p1,p2,p3,p4,p5⟩:=P3 q9 hq9;obtain rfl:=aN8 a4 p4;have hlen:=a4.len;obtain⟨X1,x1,f1,y1⟩:=a3.cK a2;obtain⟨X2,x2,f2,y2⟩:=p3.cK p2;obtain rfl:v=.slice X1 Sp.length x1:=by simpa using f1
  obtain rfl:v'=.slice X2 Sp.length x2:=by simpa using f2
  have hvs:iJ V w ⟨ac,0+q9*1,none⟩ (.slice X1 Sp.length x1):=A1.cK (by rw [Nat.zero_add,Nat.mul_one];exact a1)
  have aOb:iJ V w ⟨st,0+q9*1,none⟩ (.slice X2 Sp.length x2):=P1.cK (by rw [Nat.zero_add,Nat.mul_one];exact p1)
  obtain⟨hs,hd,h0,h1,h9,aH,gm,gJ,gK⟩:=hc;refine aj hS atN (ag hS atG aCS (ay AP hS hs (du AP.o gK gJ) fun a ae aak=>t7 ae hs hd h0 h1 h9 aH gm gJ gK fun hs hd h0 h1 h9 aH gm gJ gK=>?_));have aak:a.eval (.tmp 153)=.bool true:=by rw [aak];simp;omega
  refine ai hS (aj hS atM (bY hS atJ aak (q_skip hS aKR (aj hS aK2 (bV hS aK0 (aj hS aKZ (ag hS aKT (rl [0,1,2,3,4,5] rfl) (ay ag2 hS hs (af ag2.o gK) fun a ae aal=>t7 ae hs hd h0 h1 h9 aH gm gJ gK fun hs hd h0 h1 h9 aH gm gJ gK=>?_))))))));refine ay ag3 hS hs (cT (s:=1) ag3.o gm gK underlying27 sizeOf39 hq9) fun a ae a1w=>t8 ae hs hd h0 h1 h9 aH gm gJ gK aal fun hs hd h0 h1 h9 aH gm gJ gK aal=>?_;refine ay ag4 hS hs (lz ag4.o a1w isAgg39 sizeOf39 hvs) fun a ae awN=>t8 ae hs hd h0 h1 h9 aH gm gJ gK aal fun hs hd h0 h1 h9 aH gm gJ gK aal=>?_;refine dN AQ.a AQ.f hS AQ.d (by rw [hs];decide) hT AQ.o Tryz.zeroValue39 fun n21 a V2 w2 au an ah cD W2 g2 B2 T2=>t9 ⟨au,an,ah⟩ hs hd h0 h1 h9 aH gm gJ gK aal awN fun hs hd h0 h1 h9 aH gm gJ gK aal awN=>?_
  have B2:ba V2 w2 n21 (.cells #[.slice none 0 0] 39 (0,0)):=B2;refine ay ag5 hS hs (ak ag5.o aal) fun a ae dE=>t9 ae hs hd h0 h1 h9 aH gm gJ gK awN cD fun hs hd h0 h1 h9 aH gm gJ gK awN cD=>?_;refine gg AT.a AT.f hS AT.d AT.o cD awN (vs:=[.slice X1 Sp.length x1]) rfl sizeOf39 (fun u hu=>by simp at hu;subst hu;rfl) B2 (by simp) T2 fun w3 W3 B3 T3 z3=>?_
  have B3:ba V2 w3 n21 (.cells #[.slice X1 Sp.length x1] 39 (0,0)):=B3;have NB:=W2.fresh W3 g2 hT;have hv3:=aOb.go NB;have y13:=y1.go NB;have y23:=y2.go NB;have hT:=T3;refine ai hS (aj hS aKY (ye hS aKU [157,158,159,160,161,162] [.val (.agg #[.slice X1 Sp.length x1]),.val (.slice (some ⟨st,0,none⟩) R.ns R.ns),.val (.int .i64 q9),.val (.pointer (some ⟨st,0+q9*1,none⟩)),.val (.agg #[.slice X2 Sp.length x2]),.val (.bool true)] [(0,.slice oA R.ns oC),(1,.slice jA R.js.length jC),(9,.int .i64 R.u),(11,.slice (some ⟨st,0,none⟩) R.ns R.ns),(150,.slice (some ⟨ac,0,none⟩) R.ns R.ns),(151,.int .i64 R.ns),(152,.int .i64 q9),(20,.int .i64 q9),(21,.pointer (some ⟨n21,0,none⟩))] 6 rfl (by kernel_rfl) wD.a (fu:=8) (by kernel_rfl) rfl rfl (by decide) (by simp) (fun a' V' w'=>aG aI aD V2 w3 V' w'/\Tidy V' w'/\Lt6 R oA oC jA jC st ac q9 a'/\a'.eval (.tmp 163)=.bool false) (by simp [h0,h1,h9,aH,gm,gJ,gK,dE,cD]) hT ?_ ?_ ?_))
  ·intro i d s o rest hi aV aZ ho aa VV ww hB hI K;match i,hi with
   |0,_=>
    cases aV;cases aZ;obtain rfl:=Md.w ho;have cD:=hB.sl 21 rfl;exact cU Md hS hB hs (lz Md.o cD isAgg39 sizeOf39 ((B3.go hB.aC).cK rfl)) K
   |1,_=>
    cases aV;cases aZ;obtain rfl:=Me.w ho;have aH:=hB.sl 11 rfl;exact cU Me hS hB hs (af Me.o aH) K
   |2,_=>
    cases aV;cases aZ;obtain rfl:=Mf.w ho;have dE:=hB.sl 20 rfl;exact cU Mf hS hB hs (af Mf.o dE) K
   |3,_=>
    cases aV;cases aZ;obtain rfl:=Mg.w ho;have a1x:=hI.av 1;have a1y:=hI.av 2;exact cU Mg hS hB hs (cT (s:=1) Mg.o a1x a1y underlying27 sizeOf39 hq9) K
   |4,_=>
    cases aV;cases aZ;obtain rfl:=Mh.w ho;have a1z:=hI.av 3;exact cU Mh hS hB hs (lz Mh.o a1z isAgg39 sizeOf39 (hv3.go hB.aC)) K
   |5,_=>
    cases aV;cases aZ;obtain rfl:=rz.w ho;have a1A:=hI.av 0;have a1B:=hI.av 4;refine bI rz.a rz.f hS rz.o func7 (by kernel_rfl) aUN (amd (l:=Sp) (A:=X1) (B:=X2) (cA:=x1) (cB:=x2) hS rz.a rz.d (by rw [hB.size,hs];decide) hB.tidy (by omega) (y13.go hB.aC) (y23.go hB.aC) (by simp only [List.map_toArray,List.map_cons,List.map_nil,a1A,a1B];rfl) fun a' V' w' W' T' e1 e2 e3 e4=>K a' V' w' e1 e2 e3 W' T' e4)
   |n+6,hn=>exact absurd hn (by omega)
  ·intro rest aa VV ww hB hI K;have a1C:aa.eval (.tmp 162)=(.bool true):=hI.all 5 162 (.val (.bool true)) (by decide) rfl rfl
   refine zw wD.a wD.f hS wD.d (by rw [hB.size,hs];decide) (kl wD.o a1C) fun a' au an ah aOk=>K a' _ _ ⟨hB.aC,hB.tidy,⟨au.trans (hB.size.trans hs),an.trans (hB.defers.trans hd),(ah 0 (by decide)).trans (hB.slot 0 _ (by simp)),(ah 1 (by decide)).trans (hB.slot 1 _ (by simp)),(ah 9 (by decide)).trans (hB.slot 9 _ (by simp)),(ah 11 (by decide)).trans (hB.slot 11 _ (by simp)),(ah 150 (by decide)).trans (hB.slot 150 _ (by simp)),(ah 151 (by decide)).trans (hB.slot 151 _ (by simp)),(ah 152 (by decide)).trans (hB.slot 152 _ (by simp))⟩,aOk⟩
  ·skip;rintro a4 V4 w4 ⟨W4,T4,⟨hs,hd,h0,h1,h9,aH,gm,gJ,gK⟩,aOk⟩;generalize a4=a at*;refine aX hS aKX aOk (q_skip hS aKW (c7 hS (ag hS aK1 (rl [0,1] rfl) (ay ag6 hS hs (gQ ag6.o gK rfl) fun a ae aOl=>t7 ae hs hd h0 h1 h9 aH gm gJ gK fun hs hd h0 h1 h9 aH gm gJ gK=>?_))));have aOl:a.eval (.tmp 164)=.int .i64 ((q9+1:Nat):Int):=by
    rw [aOl,IntWalk.i64_in _ (by omega)];simp
   refine ay ag7 hS hs (af ag7.o aOl) fun a ae gK=>t6 ae hs hd h0 h1 h9 aH gm gJ fun hs hd h0 h1 h9 aH gm gJ=>?_;exact ai hS (dW hS (ih (q9+1) _ V4 w4 (by omega) (by omega) ((hW.trans NB).trans W4) T4 ⟨hs,hd,h0,h1,h9,aH,gm,gJ,gK⟩))
end
section
variable {w:World} {a:Act} {x:Int}
theorem aAl(hk:b.kind≠.early)(hE:aai Q b cs V0 w0)(BC:qO R L)(fB:L.all (fN R.ns)=true)(Vb:Rg.fv R.u=true)(rS:R.ns<=4)(hL:L.length<=20)(hH:mN Shun w1 V w)(hO:yk R oA V w)(hJ:mM L jA V w)(hK:dD V0 w0 V w)
  (hs:a.tmps.size=181)(hd:a.defers=[])(h0:a.eval (.tmp 0)=.slice oA R.ns oC)(h1:a.eval (.tmp 1)=.slice jA R.js.length jC)(h9:a.eval (.tmp 9)=.int .i64 R.u):
  fh Q Shun V (G (b.at a (.code Eo::k)) cs) w:=by
 have hS:=ly hk;have Us:R.js.length=L.length:=by rw [BC.js];simp
 refine aj hS aK9 (ag hS aK5 (rl [0,1,2,3,4,5,6,7,8] rfl) (ay ag8 hS hs (af ag8.o h0) fun a ae awO=>t2 ae hs hd h1 h9 fun hs hd h1 h9=>?_));refine ay ag9 hS hs (af ag9.o h1) fun a ae aAm=>t2 ae hs hd h9 awO fun hs hd h9 awO=>?_;refine ay aha hS hs (af aha.o h9) fun a ae a1D=>t2 ae hs hd awO aAm fun hs hd awO aAm=>?_;rw [Us]at aAm;refine bI wF.a wF.f hS wF.o func8 (by kernel_rfl) aS4 (UR (R:=R) (L:=L) (oA:=oA) (jA:=jA) (oC:=oC) (jC:=jC) (w0:=w1) hS wF.a wF.d (by rw [hs];decide) BC Vb hL rS hH.hg hH.so hH.aC hH.tidy hO.at_ hJ.in_ hJ.own fB (by simp only [List.map_toArray,List.map_cons,List.map_nil,awO,aAm,a1D];rfl) fun bc w2 a hR au an ah a1E=>?_)
 have hK2:=hK.trans (hR.keep hH.tidy);have U0:mN bc w2 (bP bc w2) w2:=.new hR.hg hR.so;refine t0 ⟨au,an,ah⟩ hs hd fun hs hd=>?_;refine ay ahb hS hs (af ahb.o a1E) fun a ae aAn=>t0 ae hs hd fun hs hd=>?_;refine ay ahc hS hs (bR ahc.o aAn rfl) fun a ae aOm=>t1 ae hs hd aAn fun hs hd aAn=>?_;refine ay ahd hS hs (bR ahd.o aAn rfl) fun a ae aOn=>t1 ae hs hd aOm fun hs hd aOm=>?_;refine ay ahe hS hs (ak ahe.o aOm) fun a ae kE=>t1 ae hs hd aOn fun hs hd aOn=>?_;refine ay ahf hS hs (ak ahf.o aOn) fun a ae aJ=>t1 ae hs hd kE fun hs hd kE=>?_;refine ai hS (aj hS aK8 (ag hS aK6 (rl [0,1,2,3,4,5,6,7,8,9] rfl) (ay ahg hS hs (af ahg.o kE) fun a ae a1F=>t1 ae hs hd aJ fun hs hd aJ=>?_)));refine ay ahh hS hs (eH ahh.o a1F rfl) fun a ae aOo=>t1 ae hs hd aJ fun hs hd aJ=>?_;have aOo:a.eval (.tmp 173)=.bool true:=by rw [aOo];rfl
 refine ay ahi hS hs (af ahi.o aOo) fun a ae aam=>t1 ae hs hd aJ fun hs hd aJ=>?_;refine mo ahj rfl aam hS hs (af ahj.o aJ) fun a ae a1G=>t1 ae hs hd aam fun hs hd aam=>?_;refine mo ahk rfl aam hS hs (eH ahk.o a1G rfl) fun a ae aOp=>t1 ae hs hd aam fun hs hd aam=>?_;have aOp:a.eval (.tmp 176)=.bool true:=by rw [aOp];rfl
 refine ay ahl hS hs (bn ahl.o aam (v:=.bool true) aOp) fun a ae a1H=>t0 ae hs hd fun hs hd=>?_;refine ay ahm hS hs (af ahm.o a1H) fun a ae aAo=>t0 ae hs hd fun hs hd=>?_;refine bI wG.a (ax (x:=true) wG.g rfl aAo) hS wG.o func4 (by kernel_rfl) aiz (lJ (w0:=w2) hS wG.a wG.d (by rw [hs];decide) U0.hg U0.so U0.aC U0.tidy (by simp only [List.map_toArray,List.map_nil];rfl) fun w4 a q1 q2 q3 q4 au an ah a1I=>?_)
 refine t1 ⟨au,an,ah⟩ hs hd aAo fun hs hd aAo=>?_;refine ay ahn hS hs (bn ahn.o aAo (v:=.bool true) a1I) fun a ae a1J=>t0 ae hs hd fun hs hd=>?_;refine ay aho hS hs (ak aho.o a1J) fun a ae h6=>t0 ae hs hd fun hs hd=>?_;exact ai hS (dg aK7 fun todo=>hE _ _ _ _ _ todo (.new q2 q1) (hK2.trans ⟨q3,fun b hb=>q4 b hb (U0.tidy.low.own b hb)⟩) hd h6)
theorem amq(hk:b.kind≠.early)(hE:aai Q b cs V w)(hH:mN Shun w1 V w)(BC:R.ns<=4->L.length<=20->(∀k,k<R.ns->(R.iH k).length<=60)->qO R L)(hx:0<=x)(hu:R.u=(2:Int)^(x.toNat % 5))(hO:yk R oA V w)(hJ:mM L jA V w)
  (hs:a.tmps.size=181)(hd:a.defers=[])(h0:a.eval (.tmp 0)=.slice oA R.ns oC)(h1:a.eval (.tmp 1)=.slice jA L.length jC)(h2:a.eval (.tmp 2)=.int .u8 x):
  fh Q Shun V (G (b.at a (.code YU::k)) cs) w:=by
 have hS:=ly hk;refine amk hk hE hH (.refl V w) hO hs hd h0 h1 h2 fun a rS hL rn hs hd h0 h1 h2=>?_;have BC:=BC rS hL rn;have Us:R.js.length=L.length:=by rw [BC.js];simp
 have Vb:Rg.fv R.u=true:=(Rg.rD _).2 ⟨x.toNat % 5,by have:x.toNat % 5<5:=Nat.mod_lt _ (by decide);omega,hu⟩
 refine aAk hk hE hH (.refl V w) BC hx hu hO hJ rS hL hs hd h0 h1 h2 fun bc w2 V2 w3 a C st ac fB U0 hF2 hA2 hc2=>?_;have hR:=BC.ok fB;refine amo hk hR BC.js fB Vb rS hL (fun bc w4 V4 w5 a hH4 hF4 hA4 hc4=>?_) R.js.length 0 a bc w2 V2 w3 (by omega) (by omega) U0 hF2 hA2 hc2
 obtain⟨hs,hd,h0,h1,h9,aM,aH,aK,c9,dI,dQ⟩:=hc4;have hF5:=hF4.keep (BE V4 ac w5);refine aj hS aT9 (aj hS aT8 (ag hS aT7 (rl [0,1,2] rfl) (ay agZ hS hs (af agZ.o aK) fun a ae gm=>t4 ae hs hd h0 h1 h9 aH fun hs hd h0 h1 h9 aH=>?_)));refine ay ag0 hS hs (dk ag0.o gm underlying27) fun a ae gJ=>t5 ae hs hd h0 h1 h9 aH gm fun hs hd h0 h1 h9 aH gm=>?_;refine ay ag1 hS hs (af ag1.o rfl) fun a ae gK=>t6 ae hs hd h0 h1 h9 aH gm gJ fun hs hd h0 h1 h9 aH gm gJ=>?_;refine ai hS (bV hS aK4 (iU hS aK3 (amp hk rS hA4 hF5.awx (fun a V6 w6 W6 T6 hc6=>?_) R.ns 0 _ V4 w5 (by omega) (by omega) (.refl _ _) hH4.tidy ⟨hs,hd,h0,h1,h9,aH,gm,gJ,gK⟩)))
 obtain⟨hs,hd,h0,h1,h9,aH,gm,gJ,gK⟩:=hc6;have hF6:=hF5.keep (.aC W6);exact aAl hk hE BC fB Vb rS hL (hH4.go W6 T6) hF6.obj hF6.nM hF6.old hs hd h0 h1 h9
end
theorem NI{b:Frame}{a:Act}{todo:List Item}{w:World}(hn:b.kind=.normal)(hd:a.defers=[])(h3:b.fn=3):
  stepG prog true (G {b.at a todo with mode:=.returning} []) w=.ended (.done (a.eval (.tmp 6))) w #[]:=by
 have hr3:Tryz.f3.results=#[.tmp 6]:=rfl;simp [G,stepG,unwind,doReturn,Frame.at,hn,hd,h3,func3,results_tmp hr3,events_results_tmp hr3,seen,GStep.after,Act.eval]
theorem awP{R:RD}{L:List (Int×Jb)}{oA jA:Option Addr}{oC jC:Nat}{x:Int}{W:World}(hg:prog.globals.size<=W.heap.size)(BC:R.ns<=4->L.length<=20->(∀k,k<R.ns->(R.iH k).length<=60)->qO R L)(hx:0<=x)(hu:R.u=(2:Int)^(x.toNat % 5))
  (hO:yk R oA (bP (fun _=>False) W) W)(hJ:mM L jA (bP (fun _=>False) W) W):
  ∃N last o w' t',runNT prog (N+1) (solo (G (Frame.enter prog 3 #[.slice oA R.ns oC,.slice jA L.length jC,.int .u8 x] .normal) []) W) #[]=(.ended o w',t')/\
   runN prog N (solo (G (Frame.enter prog 3 #[.slice oA R.ns oC,.slice jA L.length jC,.int .u8 x] .normal) []) W)=.next last/\step prog last=.ended o w'/\
   Go.Conc.Good prog (fun v W'=>v=.bool true/\(W.heap.size<=W'.heap.size/\∀b,b<W.heap.size->W'.heap[b]? =W.heap[b]?)/\jy W W') last o w' t':=by
 rw [enter_at _ func3 aUg,solo_eq_crowd];have hso:cx (fun _=>False) W:=fun l h=>h.elim;refine(fun h=>?_) (Wb (w:=W) (a:=G ((base 3).at {tmps:=#[.slice oA R.ns oC,.slice jA L.length jC,.int .u8 x]++Array.replicate (Tryz.f3.ntmps-(#[.slice oA R.ns oC,.slice jA L.length jC,.int .u8 x]:Array Value).size) undef,defers:=[]} [.code YU]) []) (Post:=fun v W'=>v=.bool true/\(W.heap.size<=W'.heap.size/\∀b,b<W.heap.size->W'.heap[b]? =W.heap[b]?)) ?_)
 ·obtain⟨N,last,o,w',t',h1,h2,h3,h4⟩:=h;refine⟨N,last,o,w',t',h1,h2,h3,?_⟩;obtain⟨v,e,hp,rest⟩:=h4;exact⟨v,e,⟨hp.1.1,hp.1.2,hp.2⟩,rest⟩
 ·refine dy.loc hg (amq (b:=base 3) (k:=[]) (cs:=[]) (w1:=W) (R:=R) (L:=L) (oA:=oA) (jA:=jA) (oC:=oC) (jC:=jC) (x:=x) (by decide) ?_ (.new hg hso) BC hx hu hO hJ (by simp [show Tryz.f3.ntmps=181 from rfl]) rfl (by simp [Act.eval]) (by simp [Act.eval]) (by simp [Act.eval]))
  intro Shun w1 V w a todo hH hK hd h6;refine fh.UM hH.aC.deaf fun w2 hr=>dy.here ⟨rfl,fun d=>⟨_,NI (b:=base 3) rfl hd rfl,h6,?_,fun b h2=>?_⟩⟩
  ·exact Nat.le_trans hK.size hr.size
  ·obtain⟨z1,z2⟩:=hK.own b ⟨h2,fun ad h=>h.elim⟩;exact(hr.own b z1).trans z2
end Go.Proofs.YtmcddajniiaieaaGreatDoor
namespace Go.Proofs.YtmcddajniiaieaaGreatDoor
open Go.ChangeShapes Go.WideShapes Go.ChangeAt Go.RowKit Go.Deep Go.Proofs.Tryz
theorem awQ:prog.cellsOf 2=1:=by kernel_rfl
theorem aOq:prog.cellsOf 3=1:=by kernel_rfl
theorem aOr:prog.cellsOf 5=1:=by kernel_rfl
theorem aAp:prog.cellsOf 25=1:=by kernel_rfl
theorem akD:prog.cellsOf 32=2:=by kernel_rfl
theorem akE:prog.cellsOf 34=4:=by kernel_rfl
def I64(n:Int):Prop:=-9223372036854775808<=n/\n<=9223372036854775807
theorem aW5{α:Type}{l:List α}(h:l.length=2):∃a b,l=[a,b]:=match l,h with|[a,b],_=>⟨a,b,rfl⟩
theorem aW6{α:Type}{l:List α}(h:l.length=4):∃a b c d,l=[a,b,c,d]:=match l,h with|[a,b,c,d],_=>⟨a,b,c,d,rfl⟩
theorem rJ{α:Type}{l:List α}{n i:Nat}(h:l.length=n)(hi:i<n):∃x,l[i]? =some x:=⟨_,List.getElem?_eq_getElem (by omega)⟩
theorem awR(a:Addr)(i:Nat)(h:a.spot=none):a.add i=⟨a.block,a.off+i,none⟩:=by
 obtain⟨b,o,s⟩:=a;simp only at h;subst h;unfold Addr.add;split<;>simp_all
section
variable {H:Type} {enc:TypeId×Value->H} {w:World} {base:Nat} {spare:Nat->Bool} {held:Bool}
theorem NJ{T:Type}(cells:T->List Value)(aOs:T->Prop)(d:T){S E:TypeId}{size:Nat}(fO:0<size)(hu:prog.underlying S=some (.slice E))(hc:prog.cellsOf E=size)(hlen:∀t,(cells t).length=size)
  (read:∀{n:Nat} {cs:List Value} {x:DataW H×List MemPlace},DataW.trod enc prog w base spare held n E cs=some x->∃t,cs=cells t/\aOs t)
  {fuel:Nat}{a:Option Addr}{len cap:Nat}{x:DataW H×List MemPlace}(hf:DataW.trod enc prog w base spare held fuel S [.slice a len cap]=some x):
  ∃l:List T,l.length=len/\(len<=cap/\cap<=9223372036854775807)/\∀k (hk:k<l.length),aOs l[k]/\∃b o,a=some ⟨b,o,none⟩/\∀j,j<size->w.cell? ⟨b,o+k*size+j,none⟩=(cells l[k])[j]? :=by
 rcases open_slice hu hf with ⟨oe,_⟩|⟨x,a1L,Nx,m,n,D,Pl,oe,_,hl,hcm,hm,_,hi⟩
 ·simp at oe;obtain⟨rfl,rfl,rfl⟩:=oe;exact⟨[],rfl,⟨Nat.le_refl _,by omega⟩,fun k hk=>absurd hk (by simp)⟩
 ·simp at oe;obtain⟨rfl,rfl,rfl⟩:=oe;have hlm:len<=m:=by rw [hm];split<;>omega
  rw [hc]at hi;have hex:∀i,i<len->∃t:T,aOs t/\x.spot=none/\∀j,j<size->w.cell? ⟨x.block,x.off+i*size+j,none⟩=(cells t)[j]? :=fun i hil=>by
   have hsp:x.spot=none:=by
    obtain⟨cs0,g1,g2⟩:=hi 0 (by omega)
    obtain⟨t0,rfl,_⟩:=read g2;obtain⟨_,_,gat⟩:=World.cells?_some g1;have g0:=gat 0 fO;obtain⟨u,hu0⟩:=rJ (hlen t0) fO;rw [hu0]at g0;have:=World.cell?_spot (v:=u) (by simpa [Addr.add]using g0)
    simpa [Addr.add]using this
   obtain⟨cL,h1,h2⟩:=hi i (by omega)
   obtain⟨t,rfl,hg⟩:=read h2;obtain⟨_,_,jf⟩:=World.cells?_some h1;refine⟨t,hg,hsp,fun j hj=>?_⟩;have:=jf j hj;rw [awR x _ hsp,awR _ _ rfl]at this;exact this
  refine⟨(List.range len).map fun i=>if h:i<len then Classical.choose (hex i h)else d,by simp,⟨hl,by unfold maxLen at hcm;omega⟩,fun k hk=>?_⟩
  simp only [List.length_map,List.length_range]at hk;have hsp:=Classical.choose_spec (hex k hk);have e:((List.range len).map fun i=>if h:i<len then Classical.choose (hex i h)else d)[k]'(by simpa using hk)=Classical.choose (hex k hk):=by
   simp only [List.getElem_map,List.getElem_range,hk,dif_pos]
  rw [e];refine⟨hsp.1,x.block,x.off,?_,hsp.2.2⟩;obtain⟨b,o,s⟩:=x;simp only at hsp;rw [hsp.2.1]
theorem aOt{n:Int}(h:(Lit.int .i64 n).wf=true):I64 n:=by
 have e1:IntKind.i64.min=-9223372036854775808:=by decide
 have e2:IntKind.i64.max=9223372036854775807:=by decide
 simp [Lit.wf]at h;unfold I64;omega
theorem aDK{n:Int}(h:(Lit.int .u8 n).wf=true):0<=n/\n<=255:=by
 have e1:IntKind.u8.min=0:=by decide
 have e2:IntKind.u8.max=255:=by decide
 simp [Lit.wf]at h;omega
theorem EX{n:Nat}{cs:List Value}{x:DataW H×List MemPlace}(h:DataW.trod enc prog w base spare held n 2 cs=some x):∃t:Int,cs=[.int .i64 t]/\I64 t:=by
 obtain⟨f,h2,_,g2⟩:=DataW.trod_int underlying2 h;exact⟨f,h2,aOt g2⟩
theorem U1{n:Nat}{S E:TypeId}{cs:List Value}{x:DataW H×List MemPlace}(hu:prog.underlying S=some (.slice E))(h:DataW.trod enc prog w base spare held n S cs=some x):∃a len cap,cs=[.slice a len cap]:=by
 rcases open_slice hu h with ⟨rfl,_⟩|⟨x,a1L,Nx,m,n,D,Pl,rfl,_⟩
 ·exact⟨_,_,_,rfl⟩
 ·exact⟨_,_,_,rfl⟩
theorem aAq{n:Nat}{cs:List Value}{x:DataW H×List MemPlace}(h:DataW.trod enc prog w base spare held n 5 cs=some x):∃t:Int,cs=[dG t]/\(0<=t/\t<=255):=by
 obtain⟨f,h2,_,g2⟩:=DataW.trod_int underlying5 h;exact⟨f,h2,aDK g2⟩
theorem awS{n:Nat}{cs:List Value}{x:DataW H×List MemPlace}(h:DataW.trod enc prog w base spare held n 3 cs=some x):∃t:Int,cs=[.int .i64 t]:=by
 obtain⟨f,h2,_,g2⟩:=DataW.trod_int underlying3 h;exact⟨f,h2⟩
theorem amr{n:Nat}{cs:List Value}{x:DataW H×List MemPlace}(h:DataW.trod enc prog w base spare held n 32 cs=some x):∃f t:Int,cs=[.int .i64 f,.int .i64 t]:=by
 obtain⟨xs,m,_,_,hl,hlen,hf⟩:=DataW.trod_struct underlying32 h;rw [akD]at hl;have h0:DataW.trod enc prog w base spare held m 2 ((cs.drop 0).take (prog.cellsOf 2))=xs[0]? :=hf 0 _ rfl;have h1:DataW.trod enc prog w base spare held m 2 ((cs.drop 1).take (prog.cellsOf 2))=xs[1]? :=hf 1 _ rfl;rw [awQ]at h0 h1;obtain⟨c0,c1,rfl⟩:=aW5 hl;obtain⟨y0,e0⟩:=rJ (i:=0) hlen (by decide)
 obtain⟨y1,e1⟩:=rJ (i:=1) hlen (by decide)
 rw [e0]at h0;rw [e1]at h1;obtain⟨v0,k0,_⟩:=EX h0;obtain⟨v1,k1,_⟩:=EX h1;simp at k0 k1;exact⟨v0,v1,by rw [k0,k1]⟩
def xk(p:Int×Jb):List Value:=[.int .i64 p.1,.int .i64 p.2.f,.int .i64 p.2.t,.int .i64 p.2.q]
theorem awT{n:Nat}{cs:List Value}{x:DataW H×List MemPlace}(h:DataW.trod enc prog w base spare held n 34 cs=some x):∃p:Int×Jb,cs=xk p/\True:=by
 obtain⟨xs,m,_,_,hl,hlen,hf⟩:=DataW.trod_struct underlying34 h;rw [akE]at hl;have h0:DataW.trod enc prog w base spare held m 3 ((cs.drop 0).take (prog.cellsOf 3))=xs[0]? :=hf 0 _ rfl;have h1:DataW.trod enc prog w base spare held m 32 ((cs.drop 1).take (prog.cellsOf 32))=xs[1]? :=hf 1 _ rfl;have h2:DataW.trod enc prog w base spare held m 2 ((cs.drop 3).take (prog.cellsOf 2))=xs[2]? :=hf 2 _ rfl;rw [aOq]at h0;rw [akD]at h1;rw [awQ]at h2;obtain⟨c0,c1,c2,c3,rfl⟩:=aW6 hl;obtain⟨y0,e0⟩:=rJ (i:=0) hlen (by decide)
 obtain⟨y1,e1⟩:=rJ (i:=1) hlen (by decide)
 obtain⟨y2,e2⟩:=rJ (i:=2) hlen (by decide)
 rw [e0]at h0;rw [e1]at h1;rw [e2]at h2;obtain⟨v0,k0⟩:=awS h0;obtain⟨v1,v2,k1⟩:=amr h1;obtain⟨v3,k3,_⟩:=EX h2;simp at k0 k1 k3;exact⟨(v0,⟨v1,v2,v3⟩),by rw [k0,k1.1,k1.2,k3];rfl,trivial⟩
structure Ob where
 a:Option Addr
 l:List Int
 c:Nat
def Ob.cells(o:Ob):List Value:=[.slice o.a o.l.length o.c]
def Ob.ok(w:World)(o:Ob):Prop:=o.l.length<=o.c/\∀k (hk:k<o.l.length),∃b f,o.a=some ⟨b,f,none⟩/\w.cell? ⟨b,f+k,none⟩=some (dG o.l[k])
theorem awU{n:Nat}{cs:List Value}{x:DataW H×List MemPlace}(h:DataW.trod enc prog w base spare held n 25 cs=some x):∃o:Ob,cs=o.cells/\o.ok w:=by
 obtain⟨a,len,cap,rfl⟩:=U1 underlying25 h;obtain⟨l,h1,h2,h3⟩:=NJ (w:=w) (fun t:Int=>[dG t]) (fun t=>0<=t/\t<=255) 0 (by decide) underlying25 aOr (fun _=>rfl) (fun h=>aAq h) h
 refine⟨⟨a,l,cap⟩,by rw [Ob.cells,h1],by show l.length<=cap;omega,fun k hk=>?_⟩
 obtain⟨_,b,o,e,jf⟩:=h3 k hk;exact⟨b,o,e,by have:=jf 0 (by decide);simpa using this⟩
theorem aAr{fuel:Nat}{a:Option Addr}{len cap:Nat}{x:DataW H×List MemPlace}(hf:DataW.trod enc prog w base spare held fuel 22 [.slice a len cap]=some x):
  ∃l:List Ob,l.length=len/\∀k (hk:k<l.length),(l[k]).ok w/\∃b o,a=some ⟨b,o,none⟩/\w.cell? ⟨b,o+k,none⟩=some (.slice l[k].a l[k].l.length l[k].c):=by
 obtain⟨l,h1,h2,h3⟩:=NJ (w:=w) Ob.cells (Ob.ok w) ⟨none,[],0⟩ (by decide) underlying22 aAp (fun _=>rfl) (fun h=>awU h) hf
 refine⟨l,h1,fun k hk=>?_⟩;obtain⟨g,b,o,e,jf⟩:=h3 k hk;exact⟨g,b,o,e,by have:=jf 0 (by decide);simpa [Ob.cells]using this⟩
theorem aAs{fuel:Nat}{a:Option Addr}{len cap:Nat}{x:DataW H×List MemPlace}(hf:DataW.trod enc prog w base spare held fuel 23 [.slice a len cap]=some x):
  ∃L:List (Int×Jb),L.length=len/\∀k (hk:k<L.length),∃b o,a=some ⟨b,o,none⟩/\∀j,j<4->w.cell? ⟨b,o+k*4+j,none⟩=(xk L[k])[j]? :=by
 obtain⟨l,h1,h2,h3⟩:=NJ (w:=w) xk (fun _=>True) (0,⟨0,0,0⟩) (by decide) underlying23 akE (fun _=>rfl) (fun h=>awT h) hf
 exact⟨l,h1,fun k hk=>(h3 k hk).2⟩
end
end Go.Proofs.YtmcddajniiaieaaGreatDoor
namespace Go.Proofs.YtmcddajniiaieaaGreatDoor
open Go.ChangeShapes Go.WideShapes Go.ChangeAt Go.RowKit Go.Conc Go.ConcM
namespace FrTopRace
theorem own:ownKnob Tryz.prog.godebug=none:=by kernel_rfl
theorem laidOut:laidOutB Tryz.prog=true:=by kernel_rfl
abbrev akF{H:Type}:List (String×DataW H):=[("math/bits.deBruijn32tab",Rows.laid_math_bits_deBruijn32tab),("math/bits.deBruijn64tab",Rows.laid_math_bits_deBruijn64tab),("internal/strconv.uint64pow10",Rows.laid_internal_strconv_uint64pow10)]
set_option maxRecDepth 100000 in
theorem awV(os:Os)(args:Array Value):laidMetH Tryz.prog akF ((World.doorLaid Tryz.prog 400 os).forCall (fun _ _=>0) ⟨#[],args,[]⟩).memory:=
 laidMetH_of_parts3 (fuel:=80) (laidMet_of_run' 80 (by kernel_rfl) (by kernel_rfl)) (by kernel_rfl) (by kernel_rfl)
theorem U2{H:Type}{enc:TypeId×Value->H}{a:Assume}{C:Checked}{os:Os}{f:FuncId}{fn:Func}{s:ChangeSpec}{F:Stop.Interp}{conds:List PathCond}{apart fresh handsOn:Bool}{X:World->Array Value->Prop}
  (own:ownKnob C.prog.godebug=none)(started:os.Started)(qY:C.prog.funcs[f]? =some fn)
  (witness:∃(w:World) (tape:Tape) (i:Input),w.os=os/\(w.forCall tape i).Shaped C.prog/\i.vars=[]/\Input.okWide C.prog (w.forCall tape i) .any w.heap.size f i/\
   ((s.pre enc C.prog fn conds apart (w.forCall tape i).memory i.args/\X (w.forCall tape i).memory i.args)/\sizedMet enc C.prog fn (OpenSpec.ofChange s) apart (w.forCall tape i).memory i.args)/\a.holds C.prog (lone (Frame.enter C.prog f i.args .normal) [] (w.forCall tape i)))
  (runs:∀(W:World) (base:Nat) (args:Array Value) (ds gs:List (DataW H)) (before:List MemPlace),
   W.ShapedOpen C.prog->
   (∀(j:Nat) t v,fn.params[j]? =some t->args[j]? =some v->Value.okWide C.prog W .any base t v)->
   DataW.Whole enc C.prog fn.params.toList s.vars apart W args.toList ds gs before->
   ∃M last o w' t',runNT C.prog (M+1) (solo (G (Frame.enter C.prog f args .normal) []) W) #[]=(.ended o w',t')/\runN C.prog M (solo (G (Frame.enter C.prog f args .normal) []) W)=.next last/\
    step C.prog last=.ended o w'/\Go.Conc.Good C.prog (fun v W'=>s.post enc C.prog fn apart fresh handsOn false W args v {W' with os:=W.os}/\OsLater W.os W'.os) last o w' t'):
  ReturnsInLeavingWide a C os f .any (fun w args=>(s.pre enc C.prog fn conds apart w args/\X w args)/\sizedMet enc C.prog fn (OpenSpec.ofChange s) apart w args) ((OpenSpec.ofChange s).postWith enc C.prog fn F (outsideKept [.timePasses]) apart fresh handsOn):=by
 refine returnsInLeavingWide_of_good own started witness ?_;intro w tape i _ hsh _ dH a1M a1N;obtain⟨_,_,_,fn',a1O,_,_,_,_,ams⟩:=dH;have e:fn'=fn:=Option.some.inj (a1O.symm.trans qY);subst e;obtain⟨⟨⟨ds,gs,before,hw,hc⟩,_⟩,hz⟩:=a1M;have hw':=DataW.Whole.of_heap (w':=w.forCall tape i) (by rfl) hw
 obtain⟨M,last,o,w',t',h1,h2,h3,h4⟩:=runs (w.forCall tape i) w.heap.size i.args ds gs before hsh ams hw';obtain⟨v,e,hp,r1,r2,r3,r4⟩:=h4;exact⟨M,last,o,w',t',h1,h2,h3,v,e,postWith_blind (postWith_of_post hp.1 hp.2),r1,r2,r3,r4⟩
def rd(l:List Ob)(L:List (Int×Jb))(x:Int):RD:=
 ⟨l.length,fun k=>(l.getD k ⟨none,[],0⟩).l,fun k=>(l.getD k ⟨none,[],0⟩).a,fun k=>(l.getD k ⟨none,[],0⟩).c,(2:Int)^(x.toNat % 5),L.map fun p=>(p.1.toNat,p.2)⟩
theorem U3{l:List Ob}{k:Nat}(h:k<l.length):l.getD k ⟨none,[],0⟩=l[k]:=by simp [List.getD_eq_getElem?_getD,h]
theorem aan{l:List Ob}{k:Nat}(h:¬k<l.length):l.getD k ⟨none,[],0⟩=⟨none,[],0⟩:=by
 rw [List.getD_eq_getElem?_getD,List.getElem?_eq_none (by omega)];rfl
theorem a1P(n:Nat)(h:n<5):(2:Int)^n=1\/(2:Int)^n=2\/(2:Int)^n=4\/(2:Int)^n=8\/(2:Int)^n=16:=by
 rcases n with _|_|_|_|_|n<;>first|omega|simp
theorem aAt{W:World}{l:List Ob}{L:List (Int×Jb)}{x:Int}(hl:∀k (hk:k<l.length),(l[k]).ok W)(hL:L.length<=20)(rn:∀k,k<(rd l L x).ns->((rd l L x).iH k).length<=60):qO (rd l L x) L:=by
 refine⟨rfl,fun hg=>⟨a1P _ (Nat.mod_lt _ (by decide)),fun k=>?_,fun k=>?_,fun k hk=>?_,by show(L.map _).length<31;simp;omega,fun p hp=>?_,fun p hp=>?_⟩⟩
 ·by_cases h:k<l.length
  ·exact rn k h
  ·show(l.getD k _).l.length<=60
   rw [aan h];decide
 ·show(l.getD k _).l.length<=(l.getD k _).c
  by_cases h:k<l.length
  ·rw [U3 h];exact(hl k h).1
  ·rw [aan h];decide
 ·have cm:(l.getD k ⟨none,[],0⟩).l≠[]:=hk;show ∃b o,(l.getD k _).a=some ⟨b,o,none⟩
  by_cases h:k<l.length
  ·rw [U3 h]at cm⊢;obtain⟨b,f,e,_⟩:=(hl k h).2 0 (List.length_pos_iff.2 cm);exact⟨b,f,e⟩
  ·rw [aan h]at cm;exact absurd rfl cm
 ·obtain⟨q,hq,rfl⟩:=List.mem_map.1 hp;have:=List.all_eq_true.1 hg q hq;simp [fN]at this;show q.1.toNat<l.length
  have h2:q.1<((rd l L x).ns:Int):=this.1.2;have h3:(rd l L x).ns=l.length:=rfl;omega
 ·obtain⟨q,hq,rfl⟩:=List.mem_map.1 hp;have:=List.all_eq_true.1 hg q hq;simp [fN]at this;exact this.2.2
theorem U4{W:World}{a:Addr}{v:Value}(h:W.cell? a=some v):a.block<W.heap.size:=by
 rcases Nat.lt_or_ge a.block W.heap.size with h1|h1
 ·exact h1
 ·have:W.heap[a.block]? =none:=Array.getElem?_eq_none h1;simp [World.cell?,this]at h
theorem yl{W:World}{a:Addr}{v:Value}(h:W.cell? a=some v):gX (bP (fun _=>False) W) W a v:=⟨⟨U4 h,fun ad h=>h.elim⟩,h⟩
theorem aAu{W:World}{l:List Ob}{L:List (Int×Jb)}{x:Int}{oA:Option Addr}(hl:∀k (hk:k<l.length),(l[k]).ok W/\∃b o,oA=some ⟨b,o,none⟩/\W.cell? ⟨b,o+k,none⟩=some (.slice l[k].a l[k].l.length l[k].c)):yk (rd l L x) oA (bP (fun _=>False) W) W:=by
 refine⟨fun k hk=>?_,fun k hk cM b o e=>?_,fun k hk b o e j y hj=>?_⟩
 ·have cm:k<l.length:=hk;obtain⟨_,b,o,e,h⟩:=hl k cm;refine⟨b,o,e,?_⟩;show gX _ _ _ (.slice (l.getD k _).a (l.getD k _).l.length (l.getD k _).c)
  rw [U3 cm];exact yl h
 ·have cm:k<l.length:=hk;have e':(l.getD k ⟨none,[],0⟩).a=some ⟨b,o,none⟩:=e;have aW7:(l.getD k ⟨none,[],0⟩).l≠[]:=cM;rw [U3 cm]at e' aW7;obtain⟨b',f,e2,h3⟩:=(hl k cm).1.2 0 (List.length_pos_iff.2 aW7);rw [e']at e2;obtain⟨rfl,rfl⟩:b=b'/\o=f:=by simpa using e2
  exact U4 h3
 ·have cm:k<l.length:=hk;have e':(l.getD k ⟨none,[],0⟩).a=some ⟨b,o,none⟩:=e;have lO:(l.getD k ⟨none,[],0⟩).l[j]? =some y:=hj;rw [U3 cm]at e' lO;obtain⟨h1,h2⟩:=List.getElem?_eq_some_iff.1 lO;obtain⟨b',f,e2,h3⟩:=(hl k cm).1.2 j h1;rw [e']at e2;obtain⟨rfl,rfl⟩:b=b'/\o=f:=by simpa using e2
  rw [h2]at h3;exact yl h3
theorem aAv{W:World}{L:List (Int×Jb)}{jA:Option Addr}(hL:∀k (hk:k<L.length),∃b o,jA=some ⟨b,o,none⟩/\∀j,j<4->W.cell? ⟨b,o+k*4+j,none⟩=(xk L[k])[j]?):mM L jA (bP (fun _=>False) W) W:=by
 intro j hj;obtain⟨b,o,e,h⟩:=hL j hj;exact⟨b,o,e,yl (h 0 (by decide)),yl (h 1 (by decide)),yl (h 2 (by decide)),yl (h 3 (by decide))⟩
set_option maxRecDepth 100000 in
theorem aAw:Tryz.prog.globals.size<(begin Tryz.prog (fun _ _=>0) default).world.heap.size:=of_decide_eq_true (by kernel_rfl)
theorem aAx{W:World}(h:W.ShapedOpen Tryz.prog):Tryz.prog.globals.size<=W.heap.size:=by
 obtain⟨o,_,e,_⟩:=h.2 _ (Nat.le_refl _) aAw;exact Nat.le_of_lt (Array.getElem?_eq_some_iff.1 e).1
set_option maxRecDepth 100000 in
theorem lifted(os:Os)(started:os.Started)(H:Type)(enc:TypeId×Value->H)(F:Stop.Interp):
  ReturnsInLeavingWide Rows.topRaceRow.assume Tryz.checked os 3 .any (fun w args=>(Rows.topRaceSpec.pre enc Tryz.prog Tryz.f3 Rows.topRaceRow.domain false w args/\laidMetH Tryz.prog akF w)/\sizedMet enc Tryz.prog Tryz.f3 (OpenSpec.ofChange Rows.topRaceSpec) false w args)
   ((OpenSpec.ofChange Rows.topRaceSpec).postWith enc Tryz.prog Tryz.f3 F (outsideKept [.timePasses]) false true false):=by
 refine U2 (C:=Tryz.checked) (X:=fun w _=>laidMetH Tryz.prog akF w) own started Tryz.func3
  (Clock.witness_at (enc:=enc) (C:=Tryz.checked) (os:=os) (X:=fun w _=>laidMetH Tryz.prog akF w) (World.doorLaid Tryz.prog 400 os) #[.slice none 0 0,.slice none 0 0,.int .u8 0] 8 rfl (World.shaped_of_RefB (by kernel_rfl) (by kernel_rfl)) (by kernel_rfl) (by kernel_rfl) (by kernel_rfl) (awV os _)) ?_
 intro W base args ds gs before hsh aDL hW;have ams:∀(j:Nat) t v,Tryz.f3.params[j]? =some t->args[j]? =some v->Value.okWide Tryz.prog W .any base t v:=aDL;have Xm:=hW;obtain⟨p,q,hA0,hV,rfl,FC,ZP⟩:=hW;have hA:DataW.TrodAll enc Tryz.prog W 0 (fun _=>true) true Tryz.f3.params.toList args.toList ds p:=hA0;rw [Tryz.params3]at hA ams;obtain⟨v0,vs0,d0,ds0,p0,q0,sb,rfl,rfl,h0,r0⟩:=trodAll_cons hA;obtain⟨v1,vs1,d1,ds1,p1,q1,rfl,rfl,rfl,h1,r1⟩:=trodAll_cons r0;obtain⟨v2,vs2,d2,ds2,p2,q2,rfl,rfl,rfl,h2,r2⟩:=trodAll_cons r1;obtain⟨rfl,rfl,rfl⟩:=trodAll_nil r2;obtain rfl:args=#[v0,v1,v2]:=by cases args;simp_all
 obtain⟨rfl,rfl⟩:=trodVars_none hV;have k0:=h0;have k1:=h1;have lt0:∀x∈p0,x.block<W.heap.size:=by obtain⟨m,hm⟩:=k0;exact DataW.trod_lt m _ _ _ hm
 have lt1:∀x∈p1,x.block<W.heap.size:=by obtain⟨m,hm⟩:=k1;exact DataW.trod_lt m _ _ _ hm
 obtain⟨a0,a6F,a1Q,rfl⟩:=okWide_slice Tryz.underlying22 (ams 0 22 v0 rfl rfl);obtain⟨a1,a6G,a1R,rfl⟩:=okWide_slice Tryz.underlying23 (ams 1 23 v1 rfl rfl);obtain⟨x,rfl,rfl,rfl,w2⟩:=open_int Tryz.underlying5 (ams 2 5 v2 rfl rfl) h2;obtain⟨m0,hm0⟩:=h0;obtain⟨m1,hm1⟩:=h1;obtain⟨l,rfl,hl⟩:=aAr hm0;obtain⟨L,rfl,hL⟩:=aAs hm1;clear hA0 aDL;obtain⟨M,last,o,w',t',r1,r2,r3,v,e,hp,g1,g2,g3,g4⟩:=awP (R:=rd l L x) (L:=L) (oA:=a0) (jA:=a1) (oC:=a1Q) (jC:=a1R) (x:=x) (W:=W) (aAx hsh) (fun _ dE rn=>aAt (fun k hk=>(hl k hk).1) dE rn) (aDK w2).1 rfl (aAu hl) (aAv hL);refine⟨M,last,o,w',t',r1,r2,r3,v,e,⟨?_,hp.2.2.os⟩,g1,g2,g3,g4⟩;obtain⟨rfl,⟨fO,hk⟩,hs⟩:=hp;have aOu:Below W.heap.size W {w' with os:=W.os}:=⟨rfl,hs.tape,hs.output,fO,hk⟩
 exact⟨_,_,_,[],_,[],Xm,trodAll_mk1 (shut_bool Tryz.underlying4 _),(trodAll_cons_mk (Below.trod laidOut (by kernel_rfl) (of_decide_eq_true (by kernel_rfl)) k0 aOu lt0) (trodAll_cons_mk (Below.trod laidOut (by kernel_rfl) (of_decide_eq_true (by kernel_rfl)) k1 aOu lt1) (trodAll_cons_mk (shut_int Tryz.underlying5 w2) trodAll_mk0))),rfl,aOu.frame _,fun h=>by cases h⟩
theorem over:Rows.topRaceRow.holds Tryz.pinned (OpenSpec.ofChange Rows.topRaceSpec):=
 OpenClaim.holds_of_wide_leaving_time 3 Tryz.f3 rfl rfl rfl rfl rfl rfl rfl ⟨rfl,rfl,rfl,rfl,rfl⟩ rfl rfl rfl rfl rfl (by kernel_rfl) Tryz.func3 (by kernel_rfl)
  (of_decide_eq_true (by kernel_rfl)) (by unfold Func.isWrapper;first|(rw [if_pos (by decide+kernel)];kernel_rfl)|(rw [if_neg (by decide+kernel)];exact⟨rfl,rfl⟩))
  (fun os started H enc _ F=>lifted os started H enc F)
theorem amt(Lk:Looks){p:Pinned}{s:OpenSpec}{c:OpenClaim}(kinds:List LaidKind)(awW:Bool)(Z2:Bool×String)(lk:Bool)
  (hc:c.holds p s)(hw:c.wfByText s=true)(a1S:c.laidByTextAt Lk p kinds awW)
  (bF:c.start=.entering)(hnb:c.noBlocks=false/\c.again=false)(hm:p.checked.prog.mainIs=some (Z2.1,Z2.2.toList))(hn:(!Z2.1&&Z2.2.isEmpty&&!lk)=false)
  (hl:∀f fn,p.checked.prog.funcNamed c.func=some f->p.checked.prog.funcs[f]? =some fn->lk=p.checked.prog.looks []/\∀(j:Nat) t,fn.params[j]? =some t->p.checked.prog.wantsStandIn t=false)
  (hg:true=c.goesBy p.checked.prog):
  Claim7.holds p (.plain s) {stood:={row:=c,standIns:=[],harness:=Z2,looks:=lk},kinds:=[],alts:=[],goes:=true,laidByText:=true,laidKinds:=kinds,laidTests:=awW,laidLooks:=Lk}:=by
 have h6:∀r:OpenClaim,Claim7.isSixth {stood:={row:=r,standIns:=[],harness:=Z2,looks:=lk},kinds:=[]}=false:=fun r=>by simpa [Claim7.isSixth]using hn
 refine⟨Claim7.tied_new_at Lk kinds awW (Claim7.new_of_sixth hc Z2 lk bF hnb hm (h6 c) hl) hw,fun D hD=>(by cases hD),a1S,(fun h=>by cases h),hg⟩
end FrTopRace
theorem topRace_card:Rows.TopRaceCardSaid:=
 FrTopRace.amt .later [.data,.data,.data] true (true, "2285915c14e4c5ee47770d73428d673cab435cd7702cfe981d9bedd3995e5ad0") false
  FrTopRace.over (by kernel_rfl) topRace_row_tie rfl ⟨rfl,rfl⟩ (by kernel_rfl) rfl
  (fun f fn hf qY=>by
   obtain rfl:f=3:=Option.some.inj ((show Tryz.prog.funcNamed "mandoline/mandolinetop.TopRace" =some 3 by kernel_rfl).symm.trans hf)|>.symm
   obtain rfl:fn=Tryz.f3:=(Option.some.inj (Tryz.func3.symm.trans qY)).symm;exact⟨by kernel_rfl,fun j t ht=>by
    rw [Tryz.params3]at ht;have hm:t∈[22,23,5]:=by simpa using Array.mem_of_getElem? ht
    have a1T:([22,23,5].all fun u=>!Tryz.prog.wantsStandIn u)=true:=by kernel_rfl
    exact(show Tryz.prog.wantsStandIn t=false by simpa using List.all_eq_true.1 a1T t hm)⟩)
  (by kernel_rfl)
#print axioms topRace_card
end Go.Proofs.YtmcddajniiaieaaGreatDoor
