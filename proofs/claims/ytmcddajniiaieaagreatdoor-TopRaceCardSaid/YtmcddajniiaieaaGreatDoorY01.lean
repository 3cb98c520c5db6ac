/- TopRace: a part of the proof that it holds for every input and every schedule. -/
import Derived.Test.YtmcddajniiaieaaGreatDoorY00
import Derived.Test.YtmcddajniiaieaaGreatDoorProg
import Derived.Conc.MuSpec
import GoSem.ClaimLeaving
import Derived.Conc.Own5
import Derived.Conc.DeferLaws
import Derived.Conc.RingWorld
import Derived.Conc.Beside
import Derived.Conc.CompanyDraw
import Derived.Conc.EventLaws2
import Derived.Conc.ClockLaws
import Derived.Conc.MarkLaws
import Derived.Conc.AtomicLaws2
import Derived.Conc.CrowdSpec
import Derived.Conc.CrowdComm
import Derived.Conc.TokenWalk
import Derived.Conc.SmallLaws
import Derived.Orders
import Derived.Tactics
import Derived.Conc.WgGenN2
import Derived.KernelRfl
import Derived.Conc.CrowdTrace
set_option linter.unusedVariables false
set_option linter.unusedSimpArgs false
namespace Go.Proofs.YtmcddajniiaieaaGreatDoor.Sim
open Go Go.Conc
variable {P:Program} {F:FuncId->Bool} {U:Nat->Prop}
def Bad(fr:Frame)(cs:List Frame)(X:GStep):Prop:=
 (∃o w' es,X=.ended o w' es)\/∃(Oa:Frame) (w1:World) (es:Array Event) (chain:List PanicEntry),X=.go (G Oa cs) w1 es/\Oa.mode=.panicking chain/\Oa.defers=[]/\Oa.fn=fr.fn
section
variable {ρ:dF} {n:Nat} {fr eF:Frame} {cs:List Frame} {w w':World}
theorem anc(hG:∀r,U r->P.globals.size<=r)(hF:E6 P F)(hB:lN P F)(h:FR P F U ρ n fr eF)(hw:WR F U ρ n w w')(oe:fr.mode=.returning->cs≠[]):
  (∃Oa cs1 w1,(cz P fr cs).run P w=.ok (some (Oa,cs1)) w1)\/Bad fr cs (stepG P true (G fr cs) w):=by
 obtain⟨fn,tmps,todo,defers,mode,kind,round⟩:=fr;obtain⟨fn',aar,FJ,aas,aAU,aAV,anb⟩:=eF;have he:=h.eq;simp only [Frame.mk.injEq]at he;obtain⟨rfl,-,rfl,rfl,rfl,rfl,rfl⟩:=he;obtain⟨h1,h2,h3,hi,h5,hm⟩:=h.ok;simp only at h1 h2 h3 hi h5 hm;subst h1 h2 h3;rcases hm with rfl|rfl
 ·simp only [cz];cases FJ with
  |nil=>exact .inl ⟨_,_,_,rfl⟩
  |cons it k=>
   simp only [List.mem_cons,forall_eq_or_imp]at hi;obtain⟨tO,Vr⟩:=hi;cases it with
   |inRegion ops l=>
    cases l with
    |nil=>exact .inl ⟨_,_,_,rfl⟩
    |cons j rest=>
     simp only;split
     ·rename_i hwt;cases hoj:ops[j]? with
      |none=>simp [hoj]at hwt
      |some o=>
       simp only;have hoo:N7 P F o.op=true:=by
        obtain⟨hj,rfl⟩:=Array.getElem?_eq_some_iff.1 hoj;exact Array.all_eq_true.1 (show ops.all (fun o=>N7 P F o.op)=true from tO) j hj
       have hs:=N9 (P:=P) hG hF hoo fun x hx=>h.eval x hx;have aD9:Region.wanted o (yielded ops tmps)=true:=by simpa [hoj]using hwt
       cases hx:(execOp (Frame.eval ⟨fn',tmps,.inRegion ops (j::rest)::k,[],.run,.normal,none⟩) o).run P w with
       |ok nx w2=>
        obtain⟨fE,n1,b,w1',_,_,yW,_⟩:=sound hs w w' hw nx w2 hx;refine .inl ?_;rw [Sem.run_bind,hx];cases yW<;>exact⟨_,_,_,rfl⟩
       |halt e w2=>
        have hf:=Vf hs w w' hw e w2 hx;refine .inr ?_;cases e with
        |panic v=>
         refine .inr ⟨Frame.raise ⟨fn',tmps,.inRegion ops (j::rest)::k,[],.run,.normal,none⟩ [{v,recovered:=false}],w2,seen P fn' ((execOp (Frame.eval ⟨fn',tmps,.inRegion ops (j::rest)::k,[],.run,.normal,none⟩) o).events P w #[]),_,?_,rfl,rfl,rfl⟩;simp [G,stepG,stepG.exec,stepG.oper,Frame.oper?,hoj,aD9,stepG.apply,hx,GStep.after]
        |stuck s=>exact .inl ⟨_,_,_,by simp [G,stepG,stepG.exec,stepG.oper,Frame.oper?,hoj,aD9,stepG.apply,hx,GStep.after];exact⟨rfl,rfl,rfl⟩⟩
        |unsupported u=>
         cases u with
         |initOrder g=>cases hf
         |_=>exact .inl ⟨_,_,_,by simp [G,stepG,stepG.exec,stepG.oper,Frame.oper?,hoj,aD9,stepG.apply,hx,GStep.after];exact⟨rfl,rfl,rfl⟩⟩
        |_=>cases hf
     ·exact .inl ⟨_,_,_,rfl⟩
   |code c=>
    cases c with
    |cond c a b=>
     simp only;have hc:=h.eval c (by simp only [lM,bt,Bool.and_eq_true]at tO;exact tO.1.1)
     cases hv:Frame.eval ⟨fn',tmps,.code (.cond c a b)::k,[],.run,.normal,none⟩ c with
     |bool t=>exact .inl ⟨_,_,_,rfl⟩
     |_=>exact .inr (.inl ⟨_,_,_,by simp [G,stepG,stepG.exec,hv];exact⟨rfl,rfl,rfl⟩⟩)
    |exit id=>
     simp only;cases hx:exitTo id k with
     |some k'=>exact .inl ⟨_,_,_,rfl⟩
     |none=>exact .inr (.inl ⟨_,_,_,by simp [G,stepG,stepG.exec,hx];exact⟨rfl,rfl,rfl⟩⟩)
    |region id ops draw=>
     cases draw with
     |false=>exact .inl ⟨_,_,_,rfl⟩
     |true=>
      exact .inl ⟨_,_,_,rfl⟩
    |rangeFunc _ _ _ _=>cases tO
    |goto l=>cases tO
    |refuse s=>cases tO
    |_=>exact .inl ⟨_,_,_,rfl⟩
   |inBlock _=>exact .inl ⟨_,_,_,rfl⟩
   |inLoop _=>exact .inl ⟨_,_,_,rfl⟩
   |inScope _=>exact .inl ⟨_,_,_,rfl⟩
   |inRangeFunc _=>cases tO
   |endRangeFunc _=>cases tO
   |beginRound=>cases tO
   |call _ _ _ _=>cases tO
   |_=>cases tO
 ·simp only [cz];obtain⟨f,c,h1,_,_⟩:=hB fn' h5;simp only [h1];cases cs with
  |nil=>exact absurd rfl (oe rfl)
  |cons c cs=>
   simp only;cases hx:(results f tmps).run P w with
   |ok v w2=>exact .inl ⟨_,_,_,by rw [Sem.run_bind,hx];rfl⟩
   |halt e w2=>
    refine .inr (.inl ?_);cases e<;>exact⟨_,_,_,by simp [G,stepG,unwind,h1,hx,GStep.after];exact⟨rfl,rfl,rfl⟩⟩
def jS:Frame:={fn:=0,tmps:=#[],todo:=[.code (.refuse "")],defers:=[{target:=.nil,args:=#[]}],mode:=.run,kind:=.normal}
theorem runN_ended{m:Machine}{o:Outcome}{w:World}(h:step P m=.ended o w):∀k,runN P (k+1) m=.ended o w:=by
 intro k;simp only [runN,h]
inductive Of(P:Program):List Frame->Prop
 |base:Of P [jS]
 |cons {fr:Frame} {cs:List Frame} (h:fr.defers=[]) (hf:∃fn,P.funcs[fr.fn]? =some fn) (t:Of P cs):Of P (fr::cs)
theorem ane(c:Frame)(vs:List PanicEntry):∃ch,(c.raise vs).mode=.panicking ch/\(c.raise vs).defers=c.defers/\(c.raise vs).fn=c.fn:=by
 unfold Frame.raise;split<;>exact⟨_,rfl,rfl,rfl⟩
theorem akO:∀(cs:List Frame) (fr:Frame) (chain:List PanicEntry) (w:World) (k:Nat) (m:Machine),Of P cs->fr.mode=.panicking chain->fr.defers=[]->(∃fn,P.funcs[fr.fn]? =some fn)->
  runN P k (lone fr cs w)=.next m->∃eF cL w' aEb,m=lone eF cL w'/\eF.mode=.panicking aEb:=by
 intro cs;induction cs with
 |nil=>intro fr chain w k m hb;cases hb
 |cons c cs ih=>
  intro fr chain w k m hb hm hd hf hr;cases k with
  |zero=>simp only [runN]at hr;cases hr;exact⟨_,_,_,_,rfl,hm⟩
  |succ k=>
   obtain⟨fn,hf⟩:=hf;have bF:step P (lone fr (c::cs) w)=.next (lone (c.raise chain) cs w):=step_lone_go (by simp [stepG,unwind,Frame.catches,hm,hd,hf])
   simp only [runN,bF]at hr;cases hb with
   |base=>
    cases k with
    |zero=>simp only [runN]at hr;cases hr;exact⟨_,_,_,chain,rfl,rfl⟩
    |succ k=>
     have:step P (lone (jS.raise chain) [] w)=.ended (.unsupported (.noEntry "machine/Return: a deferred call of a nil function value, made while the frame is unwinding") ({jS.raise chain with defers:=[]}.pos P)) w:=
      step_lone_ended (by simp [stepG,unwind,callDeferred,jS,Frame.raise])
     rw [runN_ended this]at hr;cases hr
   |cons h1 h2 t=>
    obtain⟨ch,r1,r2,r3⟩:=ane c chain;exact ih _ ch w k m t r1 (r2.trans h1) (by rw [r3];exact h2) hr
end
def tp(w:World)(t:Nat->Question->Nat):World:={w with tape:=t}
@[simp] theorem tP(w:World)(t:Nat->Question->Nat):(tp w t).heap=w.heap:=rfl
@[simp] theorem anf(w:World)(t:Nat->Question->Nat):(tp w t).drawn=w.drawn:=rfl
@[simp] theorem aau(w:World)(t:Nat->Question->Nat)(a:Addr):(tp w t).cell? a=w.cell? a:=rfl
@[simp] theorem akP(w:World)(t:Nat->Question->Nat)(a:Addr):(tp w t).frozen? a=w.frozen? a:=rfl
@[simp] theorem ang(w:World)(t:Nat->Question->Nat)(r:Nat):(tp w t).shape? r=w.shape? r:=rfl
theorem aEc(w:World)(t:Nat->Question->Nat)(a:Addr)(v:Value):(tp w t).setCell a v=tp (w.setCell a v) t:=rfl
theorem aPq(w:World)(t u:Nat->Question->Nat):tp (tp w t) u=tp w u:=rfl
theorem Vs{α β:Type}{P:Program}{F:FuncId->Bool}{U:Nat->Prop}{A:dF->Nat->α->β->Prop}{ρ:dF}{n:Nat}{s:Sem α}{s':Sem β}(h:aQ P F U A ρ n s s'):
  ∀(w w':World),WR F U ρ n w w'->∀a w₁,s.run P w=.ok a w₁->
   w.drawn<=w₁.drawn/\w₁.tape=w.tape/\∀t,(∀i,w.drawn<=i->i<w₁.drawn->t i=w.tape i)->s.run P (tp w t)=.ok a (tp w₁ t):=by
 induction h with
 |pure h=>
  intro w w' hw a w₁ hr;simp only [Sem.run]at hr;cases hr;exact⟨Nat.le_refl _,rfl,fun t _=>rfl⟩
 |dead h=>
  intro w w' hw a w₁ hr;obtain⟨e,w2,he,_⟩:=h w hw.plain;rw [he]at hr;cases hr
 |@load ρ n a k k' ha hk ih=>
  intro w w' hw x w₁ hr;cases hc:w.cell? a with
  |none=>
   obtain⟨e,he,_⟩:=hw.noCell ha (P:=P) (b:=false);have hf:(Mode.plain==Mode.atomic)=false:=rfl;simp [Sem.run,hc,hf,he]at hr
  |some v=>
   obtain⟨hs,v',yM,hvr⟩:=hw.cell ha hc;simp only [Sem.run,hc]at hr;obtain⟨h1,h2,h3⟩:=ih v v' hvr w w' hw x w₁ hr;exact⟨h1,h2,fun t ht=>by simp only [Sem.run,aau,hc];exact h3 t ht⟩
 |@store ρ n a v v' k k' ha hv hk ih=>
  intro w w' hw x w₁ hr;by_cases h1:∃c,v=.agg c
  ·obtain⟨c,rfl⟩:=h1;simp [Sem.run]at hr
  by_cases h2:∃c,v=.tuple c
  ·obtain⟨c,rfl⟩:=h2;simp [Sem.run]at hr
  have N0:∀c,v≠.agg c:=fun c e=>h1 ⟨c,e⟩;have h2':∀c,v≠.tuple c:=fun c e=>h2 ⟨c,e⟩;rw [gp P a v k w N0 h2']at hr;cases hc:w.cell? a with
  |none=>
   obtain⟨e,he,_⟩:=hw.G7 ha (P:=P) (b:=false) (v:=v);simp [hc,he]at hr
  |some y=>
   simp only [hc]at hr;by_cases FC:w.frozen? a=true
   ·simp [FC]at hr
   ·simp only [FC,Bool.false_eq_true,if_false]at hr;obtain⟨g1,g2,g3⟩:=ih _ _ (hw.set ha hc hv).1 x w₁ hr;refine⟨g1,g2,fun t ht=>?_⟩;rw [gp P a v k _ N0 h2'];simp only [aau,hc,akP,FC,Bool.false_eq_true,if_false,aEc];exact g3 t ht
 |@new ρ n c c' e k k' ho hk ih=>
  intro w w' hw x w₁ hr;simp only [Sem.run,hw.size]at hr;obtain⟨g1,_⟩:=hw.new (o:=.cells c e) (o':=.cells c' e) (.cells _ _ _ _ _ (ho.ext (.upd _)) (fun i hi=>hi));obtain⟨q1,q2,q3⟩:=ih w'.heap.size (hw.ok n (Nat.le_refl _)) _ _ g1 x w₁ hr;exact⟨q1,q2,fun t ht=>by simp only [Sem.run,tP,hw.size];exact q3 t ht⟩
 |@ow ρ n a l k k' ha hk ih=>
  intro w w' hw x w₁ hr;simp only [Sem.run,hw.size]at hr;obtain⟨g1,_⟩:=hw.new (o:=.number a l) (o':=.number (ra ρ a) l) (by
   rw [←dp (Ext.upd (ρ:=ρ) (n:=n) w'.heap.size) ha];exact .number a l (ha.ext (.upd (ρ:=ρ) w'.heap.size)))
  obtain⟨q1,q2,q3⟩:=ih w'.heap.size (hw.ok n (Nat.le_refl _)) _ _ g1 x w₁ hr;exact⟨q1,q2,fun t ht=>by simp only [Sem.run,tP,hw.size];exact q3 t ht⟩
 |@shape ρ n r k k' hr hU hk ih=>
  intro w w' hw x w₁ cr;simp only [Sem.run]at cr;obtain⟨q1,q2,q3⟩:=ih _ w w' hw x w₁ cr;exact⟨q1,q2,fun t ht=>by simp only [Sem.run,ang];exact q3 t ht⟩
 |@getObj ρ n r k k' hr hU hk ih=>
  intro w w' hw x w₁ cr;obtain⟨o,o',b1,b2,b3⟩:=hw.blk _ hr hU;cases b3 with
  |cells c c' e fr eF _ _=>simp [Sem.run,b1]at cr
  |number a l ha=>
   simp only [Sem.run,b1]at cr;obtain⟨q1,q2,q3⟩:=ih a l ha w w' hw x w₁ cr;exact⟨q1,q2,fun t ht=>by simp only [Sem.run,tP,b1];exact q3 t ht⟩
 |@choose ρ n q k k' hk ih=>
  intro w w' hw x w₁ hr;by_cases hq:q.forced=true
  ·simp only [Sem.run,hq,if_true]at hr;obtain⟨q1,q2,q3⟩:=ih 0 w w' hw x w₁ hr;exact⟨q1,q2,fun t ht=>by simp only [Sem.run,hq,if_true];exact q3 t ht⟩
  ·simp only [Sem.run,hq,Bool.false_eq_true,if_false]at hr;have mO:WR F U ρ n {w with drawn:=w.drawn+1} {w' with drawn:=w'.drawn+1}:=
    ⟨hw.size,hw.inj,hw.lt,hw.mask,hw.ok,hw.blk,fun j=>by have:=hw.tape (j+1);simpa [Nat.add_assoc,Nat.add_comm 1 j]using this⟩
   obtain⟨q1,q2,q3⟩:=ih _ _ _ mO x w₁ hr;simp only at q1 q2;refine⟨by omega,q2,fun t ht=>?_⟩
   simp only [Sem.run,hq,Bool.false_eq_true,if_false,anf];have e:(tp w t).tape w.drawn q=w.tape w.drawn q:=by show t w.drawn q=_;rw [ht w.drawn (Nat.le_refl _) (by omega)]
   rw [e];exact q3 t fun i h1 h2=>ht i (by simp only at h1;omega) h2
 |@program ρ n k k' hk ih=>
  intro w w' hw x w₁ hr;simp only [Sem.run]at hr;obtain⟨q1,q2,q3⟩:=ih w w' hw x w₁ hr;exact⟨q1,q2,fun t ht=>by simp only [Sem.run];exact q3 t ht⟩
 |@noRoom ρ n k k' hk ih=>
  intro w w' hw x w₁ hr;simp only [Sem.run]at hr;obtain⟨q1,q2,q3⟩:=ih w w' hw x w₁ hr;exact⟨q1,q2,fun t ht=>by simp only [Sem.run];exact q3 t ht⟩
structure LSt where
 fr:Frame
 cs:List Frame
 w:World
def Rel(P:Program)(F:FuncId->Bool)(U:Nat->Prop)(s:LSt):Prop:=
 ∃ρ n eF cL w',FR P F U ρ n s.fr eF/\SK P F U ρ n [jS] [] s.cs cL/\WR F U ρ n s.w w'
def AtEnd(s:LSt):Prop:=s.fr.mode=.returning/\s.cs=[jS]
def Suc(P:Program)(s1 s:LSt):Prop:=
 ¬AtEnd s/\∃t,(∀i,i<s.w.drawn->t i=s.w.tape i)/\(cz P s.fr s.cs).run P (tp s.w t)=.ok (some (s1.fr,s1.cs)) s1.w
def Ends(P:Program)(Q:Frame->World->Prop)(fr:Frame)(cs:List Frame)(w:World):Prop:=
 ∃k frE wE,runN P k (lone fr cs w)=.next (lone frE [jS] wE)/\frE.mode=.returning/\Q frE wE
def NT(P:Program)(Q:Frame->World->Prop)(s:LSt):Prop:=∀t,(∀i,i<s.w.drawn->t i=s.w.tape i)->Ends P Q s.fr s.cs (tp s.w t)
theorem l8{fr eF:Frame}{cs cL:List Frame}{w w':World}(h:lone fr cs w=lone eF cL w'):fr=eF/\cs=cL/\w=w':=by
 simp only [lone,Machine.mk.injEq,and_true]at h;obtain⟨h1,h2⟩:=h;have:({frame:=fr,callers:=cs,status:=.running,dying:=none}:Goroutine)={frame:=eF,callers:=cL,status:=.running,dying:=none}:=by
  have:=congrArg (fun a:Array Goroutine=>a[0]?) h2;simpa using this
 simp only [Goroutine.mk.injEq,and_true]at this;exact⟨this.1,this.2,h1⟩
section
variable {Q:Frame->World->Prop} {s s1:LSt}
theorem WR.anh{ρ:dF}{n:Nat}{w w':World}(h:WR F U ρ n w w')(t:Nat->Question->Nat):∃cO,WR F U ρ n (tp w t) cO:=
 ⟨tp w' fun i=>t (w.drawn+(i-w'.drawn)),h.size,h.inj,h.lt,h.mask,h.ok,h.blk,fun j=>by
  show t (w.drawn+j)=t (w.drawn+(w'.drawn+j-w'.drawn));congr 2;omega⟩
theorem Rel.step(hG:∀r,U r->P.globals.size<=r)(hF:E6 P F)(hB:lN P F)(h:Rel P F U s)(hs:Suc P s1 s):
  Rel P F U s1/\s.w.drawn<=s1.w.drawn/\(∀i,i<s.w.drawn->s1.w.tape i=s.w.tape i)/\
  ∀t,(∀i,i<s1.w.drawn->t i=s1.w.tape i)->(cz P s.fr s.cs).run P (tp s.w t)=.ok (some (s1.fr,s1.cs)) (tp s1.w t):=by
 obtain⟨ρ,n,eF,cL,w',h1,h2,h3⟩:=h;obtain⟨cM,t,ht,hr⟩:=hs;obtain⟨cO,h4⟩:=h3.anh t;have hsr:=aat hG hF hB h1 h2 (fun hm=>.inl fun hc=>cM ⟨hm,hc⟩);obtain⟨fE,n1,b,w1',e1,e2,e3,e4,_⟩:=sound hsr _ _ h4 _ _ hr;obtain⟨Oa,cs1,rfl,f1,f2⟩:=e3 _ _ rfl;obtain⟨d1,d2,d3⟩:=Vs hsr _ _ h4 _ _ hr;have d2':s1.w.tape=t:=d2;have d1':s.w.drawn<=s1.w.drawn:=d1;refine⟨⟨fE,n1,Oa,cs1,w1',f1,f2,e4⟩,d1',fun i hi=>by rw [d2'];exact ht i hi,fun u hu=>?_⟩
 have:=d3 u fun i _ h2=>by show u i=t i;rw [hu i h2,d2']
 rw [aPq]at this;exact this
theorem FK(h:FOk P F s.fr){t:Nat->Question->Nat}(hr:(cz P s.fr s.cs).run P (tp s.w t)=.ok (some (s1.fr,s1.cs)) (tp s1.w t)):step P (lone s.fr s.cs (tp s.w t))=.next (lone s1.fr s1.cs (tp s1.w t)):=by
 obtain⟨es,he,_⟩:=tN h true hr;exact step_lone_go (by simp only [G]at he;rw [he];rfl)
theorem NT.step(hG:∀r,U r->P.globals.size<=r)(hF:E6 P F)(hB:lN P F)(h:Rel P F U s)(hN:NT P Q s)(hs:Suc P s1 s):NT P Q s1:=by
 intro t ht;obtain⟨_,r2,r3,r4⟩:=Rel.step hG hF hB h hs;obtain⟨k,frE,wE,e1,e2,e3⟩:=hN t fun i hi=>(ht i (Nat.lt_of_lt_of_le hi r2)).trans (r3 i hi);obtain⟨_,_,_,_,_,h1,_,_⟩:=h;have bF:=FK h1.ok (r4 t ht);cases k with
 |zero=>
  simp only [runN]at e1;obtain⟨rfl,hc,_⟩:=l8 (by simpa using e1)
  exact absurd ⟨e2,hc⟩ hs.1
 |succ k=>
  simp only [runN,bF]at e1;exact⟨k,frE,wE,e1,e2,e3⟩
theorem mU{α:Type}{r:α->α->Prop}{a:α}(h:¬Acc r a):∃b,r b a/\¬Acc r b:=
 Classical.byContradiction fun hn=>h (.intro a fun b hb=>Classical.byContradiction fun FL=>hn ⟨b,hb,FL⟩)
theorem aEd(hG:∀r,U r->P.globals.size<=r)(hF:E6 P F)(hB:lN P F)(h:Rel P F U s)(hN:NT P Q s):Acc (Suc P) s:=by
 apply Classical.byContradiction;intro hna;let oa:{x:LSt//¬Acc (Suc P) x}->{x:LSt//¬Acc (Suc P) x}:=fun x=>⟨Classical.choose (mU x.2),(Classical.choose_spec (mU x.2)).2⟩
 let f:Nat->{x:LSt//¬Acc (Suc P) x}:=fun k=>Nat.rec ⟨s,hna⟩ (fun _ x=>oa x) k
 have fs:∀k,Suc P (f (k+1)).1 (f k).1:=fun k=>(Classical.choose_spec (mU (f k).2)).1;have fR:∀k,Rel P F U (f k).1:=by
  intro k;induction k with
  |zero=>exact h
  |succ k ih=>exact(Rel.step hG hF hB ih (fs k)).1
 have mono:∀d k,(f k).1.w.drawn<=(f (k+d)).1.w.drawn/\∀i,i<(f k).1.w.drawn->(f (k+d)).1.w.tape i=(f k).1.w.tape i:=by
  intro d;induction d with
  |zero=>intro k;exact⟨Nat.le_refl _,fun _ _=>rfl⟩
  |succ d ih=>
   intro k;obtain⟨a1,a2⟩:=ih k;obtain⟨_,b1,b2,_⟩:=Rel.step hG hF hB (fR (k+d)) (fs (k+d));exact⟨Nat.le_trans a1 b1,fun i hi=>(b2 i (Nat.lt_of_lt_of_le hi a1)).trans (a2 i hi)⟩
 have agree:∀k j i,i<(f k).1.w.drawn->i<(f j).1.w.drawn->(f k).1.w.tape i=(f j).1.w.tape i:=by
  intro k j i hk hj;rcases Nat.le_total k j with hle|hle
  ·obtain⟨d,rfl⟩:=Nat.exists_eq_add_of_le hle;exact((mono d k).2 i hk).symm
  ·obtain⟨d,rfl⟩:=Nat.exists_eq_add_of_le hle;exact(mono d j).2 i hj
 classical
 let T:Nat->Question->Nat:=fun i=>if hx:∃k,i<(f k).1.w.drawn then(f (Classical.choose hx)).1.w.tape i else s.w.tape i
 have hT:∀k i,i<(f k).1.w.drawn->T i=(f k).1.w.tape i:=by
  intro k i hi;have hx:∃k,i<(f k).1.w.drawn:=⟨k,hi⟩;show(if hx:∃k,i<(f k).1.w.drawn then(f (Classical.choose hx)).1.w.tape i else s.w.tape i)=_
  rw [dif_pos hx];exact agree _ _ i (Classical.choose_spec hx) hi
 have run:∀k,runN P k (lone s.fr s.cs (tp s.w T))=.next (lone (f k).1.fr (f k).1.cs (tp (f k).1.w T)):=by
  intro k;induction k with
  |zero=>rfl
  |succ k ih=>
   obtain⟨_,_,_,r4⟩:=Rel.step hG hF hB (fR k) (fs k);obtain⟨_,_,_,_,_,h1,_,_⟩:=fR k;have bF:=FK h1.ok (r4 T fun i hi=>hT (k+1) i hi);rw [runN_add,ih];simp only [runN,bF]
 obtain⟨k,frE,wE,e1,e2,_⟩:=hN T fun i hi=>hT 0 i hi;rw [run k]at e1;obtain⟨q1,q2,_⟩:=l8 (by simpa using e1)
 exact(fs k).1 ⟨by rw [q1];exact e2,q2⟩
end
end Go.Proofs.YtmcddajniiaieaaGreatDoor.Sim
namespace Go.Proofs.YtmcddajniiaieaaGreatDoor
open Go Go.Conc Go.ConcM Go.Proofs.Tryz
variable {P:Program} {main:Bool} {b:Frame} {k:List Item} {cs:List Frame} {i m:Nat} {w':World} {gY:Array TypeId}
structure View where
 own:Nat->Prop
 ro:Addr->Prop
 wc:Addr->Prop
 deaf:Nat
variable {Stop:View->Goroutine->World->Prop} {V W V':View}
def eG(w w':World):Prop:=∀(b:Nat) (c:Array Value) (e:TypeId) (fr:Nat×Nat),w.heap[b]? =some (.cells c e fr)->∃c':Array Value,w'.heap[b]? =some (.cells c' e fr)/\c'.size=c.size
theorem eG.refl(w:World):eG w w:=fun _ c _ _ h=>⟨c,h,rfl⟩
theorem eG.trans{a b c:World}(h:eG a b)(k:eG b c):eG a c:=fun x cs e fr hx=>by
 obtain⟨c1,h1,s1⟩:=h x cs e fr hx;obtain⟨c2,h2,s2⟩:=k x c1 e fr h1;exact⟨c2,h2,s2.trans s1⟩
structure aP(V:View)(w w₁:World):Prop where
 tape:w₁.tape=w.tape
 output:w₁.output=w.output
 os:OsLater w.os w₁.os
 size:w.heap.size<=w₁.heap.size
 kind:eG w w₁
 own:∀b,V.own b->w₁.heap[b]? =w.heap[b]?
 cell:∀a,V.ro a\/V.wc a->w₁.cell? a=w.cell? a
theorem aP.refl(V:View)(w:World):aP V w w:=⟨rfl,rfl,.refl _,Nat.le_refl _,.refl w,fun _ _=>rfl,fun _ _=>rfl⟩
theorem aP.trans{V:View}{a b c:World}(h:aP V a b)(k:aP V b c):aP V a c:=
 ⟨k.tape.trans h.tape,k.output.trans h.output,h.os.trans k.os,Nat.le_trans h.size k.size,h.kind.trans k.kind,fun x hx=>(k.own x hx).trans (h.own x hx),fun x hx=>(k.cell x hx).trans (h.cell x hx)⟩
theorem aP.weaken{V V':View}{a b:World}(h:aP V a b)(ho:∀x,V'.own x->V.own x)(hc:∀x,V'.ro x\/V'.wc x->V.ro x\/V.wc x):aP V' a b:=
 ⟨h.tape,h.output,h.os,h.size,h.kind,fun x hx=>h.own x (ho x hx),fun x hx=>h.cell x (hc x hx)⟩
def EvV(V:View)(e:Event):Prop:=
 (∃a wr,e=⟨.cell a,wr,false⟩/\(V.own a.block\/V.wc a\/(wr=false/\V.ro a)))\/(∃r wr sy,e=⟨.obj r,wr,sy⟩/\V.own r)\/
  e=⟨.mark .noRoom,false,true⟩\/e=⟨.mark .disable,false,true⟩\/e=⟨.mark .enable,false,true⟩
def View.grow(V:View)(N:Nat->Prop)(d:Nat):View:={V with own:=fun b=>V.own b\/N b,deaf:=d}
structure fG(V:View)(w w':World)(es:Array Event)(V':View):Prop where
 tape:w'.tape=w.tape
 output:w'.output=w.output
 os:OsLater w.os w'.os
 size:w.heap.size<=w'.heap.size
 kind:eG w w'
 cells:∀a:Addr,a.block<w.heap.size->¬V.own a.block->¬V.wc a->w'.cell? a=w.cell? a
 l9:∀b,b<w.heap.size->¬V.own b->(∀c e fr,w.heap[b]? ≠some (.cells c e fr))->w'.heap[b]? =w.heap[b]?
 view:V'=V.grow (fun b=>w.heap.size<=b/\b<w'.heap.size) (deafBehind V.deaf es)
 ev:∀e∈es,EvV V' e
inductive Rk where
 |z
 |mk (f:World->Rk)
def Local(P:Program)(main:Bool)(Stop:View->Goroutine->World->Prop):Rk->View->Goroutine->World->Prop
 |.z,V,g,w=>∀w₁,aP V w w₁->Stop V g w₁
 |.mk f,V,g,w=>g.status=.running/\∀w₁,aP V w w₁->∃g' w' es V',stepG P main g w₁=.go g' w' es/\fG V w₁ w' es V'/\Local P main Stop (f w₁) V' g' w'
def Loc(P:Program)(main:Bool)(Stop:View->Goroutine->World->Prop)(V:View)(g:Goroutine)(w:World):Prop:=∃t,Local P main Stop t V g w
section
variable {aav:View->Goroutine->World->Prop} {g:Goroutine} {w w₁:World}
theorem Local.rely{t:Rk}(h:Local P main Stop t V g w)(hr:aP V w w₁):Local P main Stop t V g w₁:=by
 cases t with
 |z=>exact fun w2 h2=>h w2 (hr.trans h2)
 |mk f=>exact⟨h.1,fun w2 h2=>h.2 w2 (hr.trans h2)⟩
theorem Loc.rely(h:Loc P main Stop V g w)(hr:aP V w w₁):Loc P main Stop V g w₁:=let⟨t,h⟩:=h;⟨t,h.rely hr⟩
theorem Loc.stop(h:∀w₁,aP V w w₁->Stop V g w₁):Loc P main Stop V g w:=⟨.z,h⟩
theorem Loc.step(hs:g.status=.running)(h:∀w₁,aP V w w₁->∃g' w' es V',stepG P main g w₁=.go g' w' es/\fG V w₁ w' es V'/\Loc P main Stop V' g' w'):Loc P main Stop V g w:=by
 classical
 refine⟨.mk fun w₁=>if hr:aP V w w₁ then Classical.choose (Classical.choose_spec (Classical.choose_spec (Classical.choose_spec (Classical.choose_spec (h w₁ hr))))).2.2 else .z,hs,fun w₁ hr=>?_⟩
 obtain h1:=Classical.choose_spec (Classical.choose_spec (Classical.choose_spec (Classical.choose_spec (h w₁ hr))));refine⟨_,_,_,_,h1.1,h1.2.1,?_⟩;simp only [hr,dif_pos];exact Classical.choose_spec h1.2.2
theorem Local.mono(hS:∀V g w,Stop V g w->aav V g w){t:Rk}:∀{V:View} {g:Goroutine} {w:World},Local P main Stop t V g w->Local P main aav t V g w:=by
 induction t with
 |z=>intro V g w h;exact fun w₁ hr=>hS _ _ _ (h w₁ hr)
 |mk f ih=>
  intro V g w h;refine⟨h.1,fun w₁ hr=>?_⟩;obtain⟨g',w',es,V',h1,h2,h3⟩:=h.2 w₁ hr;exact⟨g',w',es,V',h1,h2,ih w₁ h3⟩
theorem Loc.mono(hS:∀V g w,Stop V g w->aav V g w)(h:Loc P main Stop V g w):Loc P main aav V g w:=let⟨t,h⟩:=h;⟨t,h.mono hS⟩
end
def EvQ(V:View)(e:Event):Prop:=
 (∃a wr,e=⟨.cell a,wr,false⟩/\(V.own a.block\/V.wc a\/(wr=false/\V.ro a)))\/(∃r wr,e=⟨.obj r,wr,false⟩/\V.own r)\/e=⟨.mark .noRoom,false,true⟩
theorem EvQ.v{V:View}{e:Event}(h:EvQ V e):EvV V e:=h.imp id (Or.imp (fun⟨r,wr,x,y⟩=>⟨r,wr,false,x,y⟩) .inl)
theorem EvQ.still{V:View}{e:Event}(h:EvQ V e):e.loc≠.mark .disable/\e.loc≠.mark .enable:=by
 rcases h with ⟨a,wr,rfl,_⟩|⟨r,wr,rfl,_⟩|rfl<;>simp
theorem He{V:View}{a:Addr}{wr:Bool}(h:V.own a.block):EvQ V ⟨.cell a,wr,false⟩:=.inl ⟨a,wr,rfl,.inl h⟩
theorem ani{V:View}{a:Addr}{wr:Bool}(h:V.wc a):EvQ V ⟨.cell a,wr,false⟩:=.inl ⟨a,wr,rfl,.inr (.inl h)⟩
theorem aEe{V:View}{a:Addr}(h:V.ro a):EvQ V ⟨.cell a,false,false⟩:=.inl ⟨a,false,rfl,.inr (.inr ⟨rfl,h⟩)⟩
def View.oz(V:View)(a:Addr):Prop:=V.own a.block\/V.ro a\/V.wc a
def View.has(V:View)(a:Addr):Prop:=V.own a.block\/V.wc a
theorem View.has.oz{V:View}{a:Addr}(h:V.has a):V.oz a:=h.imp id .inr
theorem oB{V:View}{a:Addr}(h:V.oz a):EvQ V ⟨.cell a,false,false⟩:=by
 rcases h with h|h|h
 ·exact He h
 ·exact aEe h
 ·exact ani h
theorem axM{V:View}{a:Addr}{wr:Bool}(h:V.has a):EvQ V ⟨.cell a,wr,false⟩:=h.elim He ani
theorem aP.oz{V:View}{w w₁:World}(h:aP V w w₁){a:Addr}(ha:V.oz a):w₁.cell? a=w.cell? a:=by
 rcases ha with ha|ha
 ·simp only [World.cell?,h.own _ ha]
 ·exact h.cell a ha
def View.plus(V:View)(w w':World):View:=V.grow (fun b=>w.heap.size<=b/\b<w'.heap.size) V.deaf
theorem View.bB(V:View){w w':World}(h:w'.heap.size=w.heap.size):V.plus w w'=V:=by
 have:(fun b=>V.own b\/(w.heap.size<=b/\b<w'.heap.size))=V.own:=by
  funext b;apply propext;constructor
  ·rintro(x|⟨x,y⟩)
   ·exact x
   ·omega
  ·exact .inl
 simp only [View.plus,View.grow,this]
structure ia(V:View)(w w':World):Prop where
 tape:w'.tape=w.tape
 output:w'.output=w.output
 os:OsLater w.os w'.os
 size:w.heap.size<=w'.heap.size
 kind:eG w w'
 cells:∀a:Addr,a.block<w.heap.size->¬V.own a.block->¬V.wc a->w'.cell? a=w.cell? a
 l9:∀b,b<w.heap.size->¬V.own b->(∀c e fr,w.heap[b]? ≠some (.cells c e fr))->w'.heap[b]? =w.heap[b]?
theorem ia.refl(V:View)(w:World):ia V w w:=⟨rfl,rfl,.refl _,Nat.le_refl _,.refl w,fun _ _ _ _=>rfl,fun _ _ _ _=>rfl⟩
theorem ia.eY{V:View}{w w':World}{es:Array Event}(h:ia V w w')(he:∀e∈es,EvQ (V.plus w w') e):fG V w w' es (V.plus w w'):=
 ⟨h.tape,h.output,h.os,h.size,h.kind,h.cells,h.l9,by rw [View.plus,deafBehind_still (fun e hx=>(he e hx).still) V.deaf],fun e hx=>(he e hx).v⟩
theorem aY(V:View)(w:World):fG V w w #[] V:=by
 have:=(ia.refl V w).eY (es:=#[]) (fun e h=>absurd h (Array.not_mem_empty _));rwa [View.bB V rfl]at this
theorem BV(V:View)(w:World)(d:Nat):ia V w {w with drawn:=d}:=⟨rfl,rfl,.refl _,Nat.le_refl _,fun _ c _ _ h=>⟨c,h,rfl⟩,fun _ _ _ _=>rfl,fun _ _ _ _=>rfl⟩
theorem Hf{V:View}(w:World){a:Addr}(v:Value)(h:V.has a):ia V w (w.setCell a v):=by
 have hs:=aside_setCell w a v;refine⟨hs.tape,hs.output,by rw [hs.os];exact .refl _,Nat.le_of_eq hs.size.symm,fun b c e fr hb=>?_,fun x hx ho hw=>?_,fun b hb ho hc=>?_⟩
 ·by_cases yW:b=a.block
  ·subst yW;refine⟨if a.spot.isSome then c else c.setIfInBounds a.off v,?_,?_⟩
   ·simp [World.setCell,Array.getElem?_modify,hb]
   ·split<;>simp
  ·exact⟨c,by rw [hs.block b yW];exact hb,rfl⟩
 ·by_cases yW:x.block=a.block
  ·rcases h with h|h
   ·exact absurd (yW▸h) ho
   ·have cM:x≠a:=fun e=>hw (e▸h);simp only [World.cell?,World.setCell,Array.getElem?_modify,yW,if_true];cases hh:w.heap[a.block]? with
    |none=>simp
    |some o=>
     cases o with
     |cells c e fr=>
      simp only [Option.map_some];by_cases BW:x.spot.isSome
      ·simp [BW]
      ·simp only [BW];by_cases hs2:a.spot.isSome
       ·simp [hs2]
       ·simp only [hs2];have:a.off≠x.off:=fun e=>cM (by
         obtain⟨xb,xo,xs⟩:=x;obtain⟨ab,ao,az⟩:=a;simp only [Option.not_isSome_iff_eq_none]at BW hs2;simp_all)
        simp [Array.getElem?_setIfInBounds_ne this]
     |_=>simp
  ·simp only [World.cell?,hs.block _ yW]
 ·by_cases yW:b=a.block
  ·subst yW;rw [World.setCell];simp only [Array.getElem?_modify,if_true];cases hh:w.heap[a.block]? with
   |none=>rfl
   |some o=>cases o with
    |cells c e fr=>exact absurd hh (hc c e fr)
    |_=>rfl
  ·exact hs.block b yW
theorem cZ(w:World)(a:Addr)(v:Value):(w.setCell a v).heap[a.block]? =(w.heap[a.block]?).map fun
  |.cells c elem frozen=>.cells (if a.spot.isSome then c else c.setIfInBounds a.off v) elem frozen
  |o=>o:=by simp [World.setCell,Array.getElem?_modify];cases w.heap[a.block]? <;>rfl
theorem aP.setCell{V:View}{w w₁:World}(h:aP V w w₁){a:Addr}(v:Value)(ha:V.has a)(hc:w.cell? a≠none):aP V (w.setCell a v) (w₁.setCell a v):=by
 have hs:=aside_setCell w a v;have BW:=aside_setCell w₁ a v;refine⟨by rw [BW.tape,hs.tape,h.tape],by rw [BW.output,hs.output,h.output],by rw [BW.os,hs.os];exact h.os,by rw [BW.size,hs.size];exact h.size,fun b c e fr hb=>?_,fun b hb=>?_,fun x hx=>?_⟩
 ·by_cases yW:b=a.block
  ·subst yW;rw [cZ]at hb;cases hh:w.heap[a.block]? with
   |none=>rw [hh]at hb;cases hb
   |some o=>
    rw [hh]at hb;cases o with
    |cells c0 e0 f0=>
     simp only [Option.map_some,Option.some.injEq,Obj.cells.injEq]at hb;obtain⟨rfl,rfl,rfl⟩:=hb;obtain⟨c1,h1,h2⟩:=h.kind _ _ _ _ hh;refine⟨if a.spot.isSome then c1 else c1.setIfInBounds a.off v,by rw [cZ,h1];rfl,?_⟩
     split<;>simp [h2]
    |_=>simp at hb
  ·rw [hs.block b yW]at hb;obtain⟨c1,h1,h2⟩:=h.kind _ _ _ _ hb;exact⟨c1,by rw [BW.block b yW];exact h1,h2⟩
 ·by_cases yW:b=a.block
  ·subst yW;rw [cZ,cZ,h.own _ hb]
  ·rw [hs.block b yW,BW.block b yW];exact h.own b hb
 ·by_cases mV:x=a
  ·subst mV;have e1:=h.oz ha.oz;simp only [World.cell?]at e1 hc⊢;rw [cZ,cZ];cases hh:w.heap[x.block]? with
   |none=>rw [hh]at hc;exact absurd rfl hc
   |some o=>
    rw [hh]at hc e1;cases o with
    |cells c0 e0 f0=>
     obtain⟨c1,h1,h2⟩:=h.kind _ _ _ _ hh;rw [h1]at e1⊢;simp only [Option.map_some]at e1 hc⊢;by_cases aZ:x.spot.isSome
     ·simp [aZ]at hc
     ·simp only [aZ]at e1 hc⊢;have aU:x.off<c0.size:=by
       simp at hc;exact hc
      have anj:x.off<c1.size:=by rw [h2];exact aU
      simp [aU,anj]
    |_=>exact absurd rfl hc
  ·have key:∀u:World,(u.setCell a v).cell? x=u.cell? x:=fun u=>by
    by_cases yW:x.block=a.block
    ·simp only [World.cell?,yW,cZ];cases hh:u.heap[a.block]? with
     |none=>rfl
     |some o=>
      cases o with
      |cells c e fr=>
       simp only [Option.map_some];by_cases BW:x.spot.isSome
       ·simp [BW]
       ·simp only [BW];by_cases hs2:a.spot.isSome
        ·simp [hs2]
        ·simp only [hs2];have:a.off≠x.off:=fun e=>mV (by
          obtain⟨xb,xo,xs⟩:=x;obtain⟨ab,ao,az⟩:=a;simp only [Option.not_isSome_iff_eq_none]at BW hs2;simp_all)
         simp [Array.getElem?_setIfInBounds_ne this]
      |_=>rfl
    ·simp only [World.cell?,(aside_setCell u a v).block _ yW]
   rw [key,key];exact h.cell x hx
theorem FM{o:Oper}{a:Act}{K:Act->World->Prop}{r:Result Next}(h:uponK o a K r):(∃v w',r=.ok (.value v) w'/\K (a.put o.dst v) w')\/∃w',r=.ok .skip w'/\K (a.put o.dst undef) w':=by
 cases r with
 |ok n w'=>cases n<;>first|exact .inl ⟨_,_,rfl,h⟩|exact .inr ⟨_,rfl,h⟩|exact False.elim h
 |halt x w'=>exact False.elim h
section
variable {g g':Goroutine} {w:World} {a:Act}
theorem Loc.ctl(hs:g.status=.running)(h:∀w₁,stepG P main g w₁=.go g' w₁ #[])(K:Loc P main Stop V g' w):Loc P main Stop V g w:=
 Loc.step hs fun w₁ hr=>⟨g',w₁,#[],V,h w₁,aY V w₁,K.rely hr⟩
theorem l_skip(K:Loc P main Stop V (G (b.at a k) cs) w):Loc P main Stop V (G (b.at a (.code .skip::k)) cs) w:=Loc.ctl rfl (fun _=>stepG_skip) K
theorem qU{id:Nat}(K:Loc P main Stop V (G (b.at a k) cs) w):Loc P main Stop V (G (b.at a (.inBlock id::k)) cs) w:=Loc.ctl rfl (fun _=>stepG_inBlock) K
theorem aPr{x y:Code}(K:Loc P main Stop V (G (b.at a (.code x::.code y::k)) cs) w):Loc P main Stop V (G (b.at a (.code (.seq x y)::k)) cs) w:=Loc.ctl rfl (fun _=>stepG_seq) K
theorem l_cond{c:Operand}{x y:Code}{t:Bool}(h:a.eval c=.bool t)(K:Loc P main Stop V (G (b.at a (.code (if t then x else y)::k)) cs) w):Loc P main Stop V (G (b.at a (.code (.cond c x y)::k)) cs) w:=Loc.ctl rfl (fun _=>stepG_cond h) K
theorem axN{id:Nat}{c:Code}(K:Loc P main Stop V (G (b.at a (.code c::.inBlock id::k)) cs) w):Loc P main Stop V (G (b.at a (.code (.block id c)::k)) cs) w:=Loc.ctl rfl (fun _=>stepG_block) K
theorem aEf{c:Code}(K:Loc P main Stop V (G (b.at a (.code c::.inLoop c::k)) cs) w):Loc P main Stop V (G (b.at a (.code (.loop c)::k)) cs) w:=Loc.ctl rfl (fun _=>stepG_loop) K
theorem oD{c:Code}(K:Loc P main Stop V (G (b.at a (.code c::.inLoop c::k)) cs) w):Loc P main Stop V (G (b.at a (.inLoop c::k)) cs) w:=Loc.ctl rfl (fun _=>stepG_inLoop) K
theorem aEg{id:Nat}{k':List Item}(h:exitTo id k=some k')(K:Loc P main Stop V (G (b.at a k') cs) w):Loc P main Stop V (G (b.at a (.code (.exit id)::k)) cs) w:=Loc.ctl rfl (fun _=>stepG_exit h) K
theorem ank{id:Nat}{ops:Array Oper}(K:Loc P main Stop V (G (b.at a (.inRegion ops (List.range ops.size)::k)) cs) w):Loc P main Stop V (G (b.at a (.code (.region id ops false)::k)) cs) w:=Loc.ctl rfl (fun _=>stepG_region) K
theorem al{ops:Array Oper}(K:Loc P main Stop V (G (b.at a k) cs) w):Loc P main Stop V (G (b.at a (.inRegion ops []::k)) cs) w:=Loc.ctl rfl (fun _=>stepG_region_end) K
theorem rX(K:Loc P main Stop V (G {b.at a []with mode:=.returning} cs) w):Loc P main Stop V (G (b.at a []) cs) w:=Loc.ctl rfl (fun _=>stepG_end) K
theorem aPs(K:Loc P main Stop V (G {b.at a (.code .ret::k)with mode:=.returning} cs) w):Loc P main Stop V (G (b.at a (.code .ret::k)) cs) w:=Loc.ctl rfl (fun _=>stepG_ret') K
theorem Vt{ops:Array Oper}{i:Nat}{rest:List Nat}{o:Oper}(ho:ops[i]? =some o)(hw:Region.wanted o (yielded ops a.tmps)=false)
  (K:Loc P main Stop V (G (b.at (a.put o.dst undef) (.inRegion ops rest::k)) cs) w):Loc P main Stop V (G (b.at a (.inRegion ops (i::rest)::k)) cs) w:=Loc.ctl rfl (fun _=>stepG_unwanted ho hw) K
theorem l_op{ops:Array Oper}{i:Nat}{rest:List Nat}{o:Oper}(ho:ops[i]? =some o)(hw:Region.wanted o (yielded ops a.tmps)=true)(hk:b.kind≠.early)
  (h:∀w₁,aP V w w₁->(∀e∈(execOp a.eval o).events P w₁ #[],EvQ V e)/\∀K':Act->World->Prop,(∀a',Loc P main Stop V (G (b.at a' (.inRegion ops rest::k)) cs) w->K' a' w₁)->uponK o a K' ((execOp a.eval o).run P w₁)):
  Loc P main Stop V (G (b.at a (.inRegion ops (i::rest)::k)) cs) w:=by
 refine Loc.step rfl fun w₁ hr=>?_;obtain⟨he,h2⟩:=h w₁ hr;have hx:=h2 (fun a' w'=>w'=w₁/\Loc P main Stop V (G (b.at a' (.inRegion ops rest::k)) cs) w) fun a' x=>⟨rfl,x⟩;have gN:∀e∈listed P b.fn a o w₁,EvQ (V.plus w₁ w₁) e:=fun e hx=>by rw [View.bB V rfl];exact he e (mem_listed hx)
 have hS:=(ia.refl V w₁).eY gN;rw [View.bB V rfl]at hS;rcases FM hx with ⟨v,w',sG,rfl,hL⟩|⟨w',sG,rfl,hL⟩
 ·exact⟨_,_,_,_,stepG_value ho hw hk sG,hS,hL.rely hr⟩
 ·exact⟨_,_,_,_,stepG_none ho hw hk sG,hS,hL.rely hr⟩
theorem axO{ops:Array Oper}{i:Nat}{rest:List Nat}{o:Oper}{f:FuncId}{args:Array Value}(ho:ops[i]? =some o)(hw:Region.wanted o (yielded ops a.tmps)=true)(hk:b.kind≠.early)
  (h:∀w₁,aP V w w₁->(execOp a.eval o).run P w₁=.ok (.enter f args) w₁/\∀e∈(execOp a.eval o).events P w₁ #[],EvQ V e)
  (K:Loc P main Stop V (G (Frame.enter P f args .normal) (b.at a (.inRegion ops (i::rest)::k)::cs)) w):Loc P main Stop V (G (b.at a (.inRegion ops (i::rest)::k)) cs) w:=by
 refine Loc.step rfl fun w₁ hr=>?_;obtain⟨h1,he⟩:=h w₁ hr;have gN:∀e∈listed P b.fn a o w₁,EvQ (V.plus w₁ w₁) e:=fun e hx=>by rw [View.bB V rfl];exact he e (mem_listed hx)
 have hS:=(ia.refl V w₁).eY gN;rw [View.bB V rfl]at hS;exact⟨_,_,_,_,stepG_enter ho hw hk h1,hS,K.rely hr⟩
end
structure Upd(a a':Act)(d:Option Tmp)(v:Value):Prop where
 size:a'.tmps.size=a.tmps.size
 defers:a'.defers=a.defers
 ne:∀i,d≠some i->a'.eval (.tmp i)=a.eval (.tmp i)
 eq:∀i,d=some i->i<a.tmps.size->a'.eval (.tmp i)=v
theorem bj(a:Act)(d:Option Tmp)(v:Value):Upd a (a.put d v) d v:=by
 cases d with
 |none=>exact⟨rfl,rfl,fun _ _=>rfl,fun i h=>by cases h⟩
 |some d=>
  refine⟨by simp [Act.put],rfl,fun i h=>?_,fun i h aU=>?_⟩
  ·have:d≠i:=fun e=>h (e▸rfl);simp [Act.put,Act.eval,Array.getD_eq_getD_getElem?,Array.getElem?_setIfInBounds_ne this]
  ·cases h;simp [Act.put,Act.eval,Array.getD_eq_getD_getElem?,Array.getElem?_setIfInBounds_self_of_lt aU]
theorem gO{o:Oper}{y:Nat->Option Bool}(h:o.guard=none):Region.wanted o y=true:=by simp [Region.wanted,h]
theorem ax{ops:Array Oper}{a:Act}{o:Oper}{j d:Nat}{t x:Bool}(hg:o.guard=some (j,t))(hj:(ops[j]?).bind (·.dst)=some d)(h:a.eval (.tmp d)=.bool x):Region.wanted o (yielded ops a.tmps)=(x==t):=by
 have h':a.tmps[d]? =some (.bool x):=by
  simp only [Act.eval,Array.getD_eq_getD_getElem?]at h;cases hh:a.tmps[d]? with
  |none=>rw [hh]at h;simp [undef]at h
  |some v=>rw [hh]at h;simp at h;rw [h]
 simp only [Region.wanted,hg,yielded,hj,Option.bind_some,h'];cases x<;>cases t<;>rfl
def Yl(P:Program)(V:View)(w:World)(o:Oper)(a:Act)(v:Value):Prop:=
 ∀w₁,aP V w w₁->(execOp a.eval o).run P w₁=.ok (.value v) w₁/\∀e∈(execOp a.eval o).events P w₁ #[],EvQ V e
theorem Yl.pure{P:Program}{V:View}{w:World}{o:Oper}{a:Act}{v:Value}(h:∀w₁,(execOp a.eval o).run P w₁=.ok (.value v) w₁/\(execOp a.eval o).events P w₁ #[]=#[]):Yl P V w o a v:=
 fun w₁ _=>⟨(h w₁).1,fun e he=>by rw [(h w₁).2]at he;simp at he⟩
section
variable {w:World} {o:Oper} {a:Act} {x y:Operand} {v:Value} {t yt:TypeId} {k:IntKind} {m n:Int}
theorem af(aE:o.op=.move x)(hx:a.eval x=v):Yl P V w o a v:=.pure fun w₁=>by simp [execOp,aE,hx]
theorem ak(aE:o.op=.assign x)(hx:a.eval x=v):Yl P V w o a v:=.pure fun w₁=>by simp [execOp,aE,hx]
theorem bn{c p q:Operand}{b:Bool}(aE:o.op=.pick c p q)(hc:a.eval c=.bool b)(hv:a.eval (if b then p else q)=v):Yl P V w o a v:=.pure fun w₁=>by
 cases b<;>simp [execOp,aE,hc,asBool]at hv⊢<;>simp [hv]
theorem kl{b:Bool}(aE:o.op=.unOp .not t x)(hx:a.eval x=.bool b):Yl P V w o a (.bool (!b)):=.pure fun w₁=>by simp [execOp,aE,hx,Op.unary]
theorem bE{ad:Addr}(aE:o.op=.nilCheck x)(hx:a.eval x=.pointer (some ad)):Yl P V w o a (.pointer (some ad)):=.pure fun w₁=>by simp [execOp,aE,hx]
def ej(op:BinOp)(k:IntKind)(x y:Int):Int:=
 match op with
 |.and=>k.wrap ((BitVec.ofInt k.bits x&&&BitVec.ofInt k.bits y).toNat:Int)
 |.or=>k.wrap ((BitVec.ofInt k.bits x|||BitVec.ofInt k.bits y).toNat:Int)
 |_=>k.wrap ((BitVec.ofInt k.bits x&&&~~~(BitVec.ofInt k.bits y)).toNat:Int)
theorem gP(aE:o.op=.binOp .and t x y yt)(hx:a.eval x=.int k m)(hy:a.eval y=.int k n):Yl P V w o a (.int k (ej .and k m n)):=.pure fun w₁=>by simp [execOp,aE,hx,hy,eqGuard,binOp,Op.intBits,ej]
theorem axP(aE:o.op=.binOp .or t x y yt)(hx:a.eval x=.int k m)(hy:a.eval y=.int k n):Yl P V w o a (.int k (ej .or k m n)):=.pure fun w₁=>by simp [execOp,aE,hx,hy,eqGuard,binOp,Op.intBits,ej]
theorem anl(aE:o.op=.binOp .andNot t x y yt)(hx:a.eval x=.int k m)(hy:a.eval y=.int k n):Yl P V w o a (.int k (ej .andNot k m n)):=.pure fun w₁=>by simp [execOp,aE,hx,hy,eqGuard,binOp,Op.intBits,ej]
theorem gQ(aE:o.op=.binOp .add t x y yt)(hx:a.eval x=.int k m)(hy:a.eval y=.int k n):Yl P V w o a (.int k (k.wrap (m+n))):=.pure fun w₁=>by simp [execOp,aE,hx,hy,eqGuard,binOp,Op.intArith]
theorem BX(aE:o.op=.binOp .sub t x y yt)(hx:a.eval x=.int k m)(hy:a.eval y=.int k n):Yl P V w o a (.int k (k.wrap (m-n))):=.pure fun w₁=>by simp [execOp,aE,hx,hy,eqGuard,binOp,Op.intArith]
theorem aAX(aE:o.op=.binOp .mul t x y yt)(hx:a.eval x=.int k m)(hy:a.eval y=.int k n):Yl P V w o a (.int k (k.wrap (m*n))):=.pure fun w₁=>by simp [execOp,aE,hx,hy,eqGuard,binOp,Op.intArith]
theorem eH(aE:o.op=.binOp .eql t x y yt)(hx:a.eval x=.int k m)(hy:a.eval y=.int k n):Yl P V w o a (.bool (m==n)):=.pure fun w₁=>by simp [execOp,aE,hx,hy,eqGuard,binOp,Op.intCmp]
theorem eI(aE:o.op=.binOp .neq t x y yt)(hx:a.eval x=.int k m)(hy:a.eval y=.int k n):Yl P V w o a (.bool (m !=n)):=.pure fun w₁=>by simp [execOp,aE,hx,hy,eqGuard,binOp,Op.intCmp]
theorem du(aE:o.op=.binOp .lss t x y yt)(hx:a.eval x=.int k m)(hy:a.eval y=.int k n):Yl P V w o a (.bool (m<n)):=.pure fun w₁=>by simp [execOp,aE,hx,hy,eqGuard,binOp,Op.intCmp]
theorem yo(aE:o.op=.binOp .gtr t x y yt)(hx:a.eval x=.int k m)(hy:a.eval y=.int k n):Yl P V w o a (.bool (m>n)):=.pure fun w₁=>by simp [execOp,aE,hx,hy,eqGuard,binOp,Op.intCmp]
theorem BZ{k':IntKind}{n:Nat}(aE:o.op=.binOp .shr t x y yt)(hx:a.eval x=.int k m)(hy:a.eval y=.int k' (n:Int)):Yl P V w o a (.int k (m.fdiv (2^min n k.bits))):=.pure fun w₁=>by
 have:¬((n:Int)<0):=by omega
 simp [execOp,aE,hx,hy,eqGuard,binOp,Op.shift,this]
theorem aEh{ad:Addr}(aE:o.op=.load t x)(hx:a.eval x=.pointer (some ad))(hc:w.cell? ad=some v)(hs:V.oz ad)
  (hl:∀w₁:World,w₁.cell? ad=some v->(Instr.loadAt t (.pointer (some ad))).run P w₁=.ok v w₁/\(Instr.loadAt t (.pointer (some ad))).events P w₁ #[]=#[⟨.cell ad,false,false⟩]):Yl P V w o a v:=fun w₁ hr=>by
 have h1:w₁.cell? ad=some v:=(hr.oz hs).trans hc;obtain⟨e1,e2⟩:=hl w₁ h1;refine⟨by simp [execOp,aE,hx,e1],fun e he=>?_⟩
 simp [execOp,aE,hx,e1,e2]at he;subst he;exact oB hs
end
section
variable {w:World} {a:Act} {ops:Array Oper} {rest:List Nat} {o:Oper}
theorem l_y{v:Value}(ho:ops[i]? =some o)(hw:Region.wanted o (yielded ops a.tmps)=true)(hk:b.kind≠.early)(hy:Yl P V w o a v)
  (K:∀a',Upd a a' o.dst v->Loc P main Stop V (G (b.at a' (.inRegion ops rest::k)) cs) w):Loc P main Stop V (G (b.at a (.inRegion ops (i::rest)::k)) cs) w:=
 l_op ho hw hk fun w₁ hr=>⟨(hy w₁ hr).2,fun K' E7=>by rw [(hy w₁ hr).1];exact E7 _ (K _ (bj a o.dst v))⟩
theorem l_u(ho:ops[i]? =some o)(hw:Region.wanted o (yielded ops a.tmps)=false)
  (K:∀a',Upd a a' o.dst undef->Loc P main Stop V (G (b.at a' (.inRegion ops rest::k)) cs) w):Loc P main Stop V (G (b.at a (.inRegion ops (i::rest)::k)) cs) w:=
 Vt ho hw (K _ (bj a o.dst undef))
end
def b2i(b:Bool):Int:=if b then 1 else 0
def wz(w:Wd):Int:=b2i w.L+2*b2i w.W+4*b2i w.S+8*(w.n:Int)
section
variable (w:Wd) (h:w.n<32)
include h
theorem dV{p:Wd->Prop}(hp:∀(L W S:Bool) (n:Fin 32),p ⟨L,W,S,n.1⟩):p w:=by
 obtain⟨L,W,S,n⟩:=w;exact hp L W S ⟨n,h⟩
theorem axQ:(ej .and .i32 (wz w) 5==1)=(w.L&&!w.S):=dV w h (p:=fun w=>(ej .and .i32 (wz w) 5==1)=(w.L&&!w.S)) (by decide)
theorem anm:(ej .and .i32 (wz w) 5 !=0)=(w.L||w.S):=dV w h (p:=fun w=>(ej .and .i32 (wz w) 5 !=0)=(w.L||w.S)) (by decide)
theorem Og:(ej .and .i32 (wz w) 5==0)=(!w.L&&!w.S):=dV w h (p:=fun w=>(ej .and .i32 (wz w) 5==0)=(!w.L&&!w.S)) (by decide)
theorem Oh:(ej .and .i32 (wz w) 2==0)=!w.W:=dV w h (p:=fun w=>(ej .and .i32 (wz w) 2==0)=!w.W) (by decide)
theorem Oi:(ej .and .i32 (wz w) 4==0)=!w.S:=dV w h (p:=fun w=>(ej .and .i32 (wz w) 4==0)=!w.S) (by decide)
theorem Oj:(ej .and .i32 (wz w) 4 !=0)=w.S:=dV w h (p:=fun w=>(ej .and .i32 (wz w) 4 !=0)=w.S) (by decide)
theorem ann:(ej .and .i32 (wz w) 1 !=0)=w.L:=dV w h (p:=fun w=>(ej .and .i32 (wz w) 1 !=0)=w.L) (by decide)
theorem ano:(ej .and .i32 (wz w) 3 !=0)=(w.L||w.W):=dV w h (p:=fun w=>(ej .and .i32 (wz w) 3 !=0)=(w.L||w.W)) (by decide)
theorem Ol:(ej .and .i32 (wz w) 7 !=0)=(w.L||w.W||w.S):=dV w h (p:=fun w=>(ej .and .i32 (wz w) 7 !=0)=(w.L||w.W||w.S)) (by decide)
theorem aEi:ej .or .i32 (wz w) 2=wz ⟨w.L,true,w.S,w.n⟩:=dV w h (p:=fun w=>ej .or .i32 (wz w) 2=wz ⟨w.L,true,w.S,w.n⟩) (by decide)
theorem aEj:ej .or .i32 (wz w) 1=wz ⟨true,w.W,w.S,w.n⟩:=dV w h (p:=fun w=>ej .or .i32 (wz w) 1=wz ⟨true,w.W,w.S,w.n⟩) (by decide)
theorem aEk:ej .or .i32 (wz w) 4=wz ⟨w.L,w.W,true,w.n⟩:=dV w h (p:=fun w=>ej .or .i32 (wz w) 4=wz ⟨w.L,w.W,true,w.n⟩) (by decide)
theorem Vu:ej .andNot .i32 (wz w) 2=wz ⟨w.L,false,w.S,w.n⟩:=dV w h (p:=fun w=>ej .andNot .i32 (wz w) 2=wz ⟨w.L,false,w.S,w.n⟩) (by decide)
theorem B0:(wz w).fdiv (2^min 3 IntKind.i32.bits)=(w.n:Int):=dV w h (p:=fun w=>(wz w).fdiv (2^min 3 IntKind.i32.bits)=(w.n:Int)) (by decide)
theorem axR:IntKind.i32.wrap (wz w+8)=wz ⟨w.L,w.W,w.S,w.n+1⟩:=dV w h (p:=fun w=>IntKind.i32.wrap (wz w+8)=wz ⟨w.L,w.W,w.S,w.n+1⟩) (by decide)
theorem Vv(hl:w.L=true):IntKind.i32.wrap (wz w+-1)=wz ⟨false,w.W,w.S,w.n⟩:=by
 have:=dV w h (p:=fun w=>w.L=true->IntKind.i32.wrap (wz w+-1)=wz ⟨false,w.W,w.S,w.n⟩) (by decide)
 exact this hl
theorem axS(hl:w.L=false)(hs:w.S=true)(hn:w.n≠0)(keep:Bool):IntKind.i32.wrap (wz w+(if keep then-7 else-11))=wz ⟨true,w.W,keep,w.n-1⟩:=by
 have:=dV w h (p:=fun w=>w.L=false->w.S=true->w.n≠0->∀keep:Bool,IntKind.i32.wrap (wz w+(if keep then-7 else-11))=wz ⟨true,w.W,keep,w.n-1⟩) (by decide)
 exact this hl hs hn keep
theorem axT(hn:w.n≠0):ej .or .i32 (IntKind.i32.wrap (wz ⟨false,false,false,w.n⟩-8)) 2=wz ⟨false,true,false,w.n-1⟩:=by
 have:=dV w h (p:=fun w=>w.n≠0->ej .or .i32 (IntKind.i32.wrap (wz ⟨false,false,false,w.n⟩-8)) 2=wz ⟨false,true,false,w.n-1⟩) (by decide)
 exact this hn
theorem axU:(wz w !=0)=(w.L||w.W||w.S||w.n !=0):=dV w h (p:=fun w=>(wz w !=0)=(w.L||w.W||w.S||w.n !=0)) (by decide)
theorem anp(hl:w.L=false):(ej .and .i32 (IntKind.i32.wrap (wz w+1)) 1==0)=false:=by
 have:=dV w h (p:=fun w=>w.L=false->(ej .and .i32 (IntKind.i32.wrap (wz w+1)) 1==0)=false) (by decide)
 exact this hl
omit h
theorem aEl{a b:Wd}(e:wz a=wz b):a=b:=by
 obtain⟨L,W,S,n⟩:=a;obtain⟨L',W',S',n'⟩:=b;cases L<;>cases W<;>cases S<;>cases L'<;>cases W'<;>cases S'<;>simp [wz,b2i]at e⊢<;>omega
end
open Go.ConcR (WgAt stA smA)
structure xp where
 k:Nat
 no:Int
 c:Nat
 ch:Nat
structure Gh where
 bO:List xp
 done:List Int
inductive Fz where
 |none|found (c:xp)|bH (c:xp)|stored (c:xp)
structure Rc where
 src:Nat->Nat
 ns:Nat
 me:Nat
 item:Nat->Int
 res:View->World->Prop
 wgT:TypeId
 wg:Nat
 off:Nat
 chT:TypeId
 cont:Nat->Gh->View->World->Prop
 full:xp->View->World->Prop
variable {Γ:Rc}
inductive Kind where
 |lk (k:Nat) (p:LP)
 |acq (k:Nat)
 |rel (k:Nat) (γ fw:Gh) (f':Fz)
 |close|recv|E8
structure En where
 n:Nat
 s:Nat
structure Tag where
 e:En
 f:Fz
 kind:Kind
variable {X:Tag->View->Goroutine->World->Prop}
def dw(Γ:Rc)(k:Nat)(w:World)(wd:Wd)(sm:Nat):Prop:=
 ∃c ty,w.heap[Γ.src k]? =some (.cells c ty (0,0))/\c[2]? =some (.int .i32 (wz wd))/\c[3]? =some (.int .u32 sm)
structure gq(Γ:Rc)(k:Nat)(w w':World):Prop where
 tape:w'.tape=w.tape
 output:w'.output=w.output
 os:w'.os=w.os
 size:w'.heap.size=w.heap.size
 kind:eG w w'
 block:∀b,b≠Γ.src k->w'.heap[b]? =w.heap[b]?
 cell:∀a:Addr,a.block=Γ.src k->a.off≠2->a.off≠3->w'.cell? a=w.cell? a
def eC(Γ:Rc)(k:Nat):Addr:=⟨Γ.src k,2,none⟩
def lkS(Γ:Rc)(k:Nat):Addr:=⟨Γ.src k,3,none⟩
def aEm(Γ:Rc)(k:Nat)(es:Array Event):Prop:=es=#[]\/es=#[⟨.cell (eC Γ k),false,true⟩]\/es=#[⟨.cell (eC Γ k),false,true⟩,⟨.cell (eC Γ k),true,true⟩]\/es=semEvents (lkS Γ k)
def Next(Γ:Rc)(e:En)(f:Fz)(t:Tag):Prop:=
 t.e.n<e.n/\match f with
  |.none=>t.f=.none/\t.e.s+1=e.s/\((t.e.s≠0/\t.kind=.lk Γ.me .yJ)\/(t.e.s=0/\t.kind=.E8))
  |.found c=>t.e.s=e.s/\t.f=.found c/\t.kind=.recv
  |.bH c=>t.e.s=e.s/\t.f=.bH c/\t.kind=.lk c.k .yJ
  |.stored c=>t.e.s=e.s/\t.f=.stored c/\t.kind=.close
def rY(Γ:Rc)(e:En)(f:Fz)(k:Nat):To->Tag->Prop
 |.on q,t=>∃p,q p/\t=⟨e,f,.lk k p⟩
 |.held,t=>t=⟨e,f,.acq k⟩
 |.off,t=>Next Γ e f t
def View.bare:View:=⟨fun _=>False,fun _=>False,fun _=>False,0⟩
def View.join(V W:View):View:={V with own:=fun b=>V.own b\/W.own b,ro:=fun a=>V.ro a\/W.ro a,wc:=fun a=>V.wc a\/W.wc a}
structure View.Le(V W:View):Prop where
 own:∀b,V.own b->W.own b
 wc:∀a,V.wc a->W.wc a\/W.own a.block
 ro:∀a,V.ro a->W.ro a\/W.wc a\/W.own a.block
 deaf:V.deaf=W.deaf
structure Apart(V W:View):Prop where
 own:∀b,V.own b->¬W.own b
 wc:∀a,V.wc a->¬W.wc a/\¬W.ro a/\¬W.own a.block
 mX:∀a,W.wc a->¬V.wc a/\¬V.ro a/\¬V.own a.block
 ro:∀a,V.ro a->¬W.own a.block
 ro':∀a,W.ro a->¬V.own a.block
inductive Made(Γ:Rc)(e:En)(k:Nat):Fz->Gh->Gh->Fz->Prop
 |found {γ:Gh} {c:xp} (h:c∈γ.bO) (hk:c.k=k) (hm:k=Γ.me) (hn:c.no=Γ.item e.s):Made Γ e k .none γ γ (.found c)
 |fresh {γ:Gh} {c:xp} (h:∀d∈γ.bO,d.no≠c.no) (hk:c.k=k) (hm:k=Γ.me) (hn:c.no=Γ.item e.s):Made Γ e k .none γ ⟨c::γ.bO,γ.done⟩ (.bH c)
 |done {γ:Gh} {c:xp} (hk:c.k=k):Made Γ e k (.bH c) γ ⟨γ.bO,c.no::γ.done⟩ (.stored c)
section
variable (Γ:Rc) (X:Tag->View->Goroutine->World->Prop)
abbrev bf(q:Tag->Prop)(V:View)(g:Goroutine)(w:World):Prop:=Loc prog false (fun V g w=>∃t,q t/\X t V g w) V g w
def aPt(e:En)(f:Fz)(k:Nat)(p:LP)(V:View)(g:Goroutine)(w:World):Prop:=
 V.deaf=1/\p.ok/\k<Γ.ns/\∀w₁ wd sm,aP V w w₁->dw Γ k w₁ wd sm->sm<32->Told p.role wd->
  (p=.yK->sm=0->g.offers=none/\stepG prog false g w₁=.go {g with status:=.blocked} w₁ #[])/\
  ((∃h,p=.sB h)->mayWake prog g=true)/\
  (¬(p=.yK/\sm=0)->∃g' w' es iZ iN r' to,stepG prog false g w₁=.go g' w' es/\Out p wd sm iZ iN r' to/\dw Γ k w' iZ iN/\gq Γ k w₁ w'/\aEm Γ k es/\bf X (rY Γ e f k to) V g' w')
def aEn(e:En)(f:Fz)(k:Nat)(V:View)(g:Goroutine)(w:World):Prop:=
 V.deaf=0/\k<Γ.ns/\∀w₁ γ VK,aP V w w₁->VK.deaf=0->Apart V VK->Γ.cont k γ VK w₁->(∀c,f=.bH c->c∈γ.bO/\c.no∉γ.done)->
  ∃g',stepG prog false g w₁=.go g' w₁ #[⟨.mark (.acquire (eC Γ k)),false,true⟩]/\bf X (fun t=>∃fw f',Made Γ e k f γ fw f'/\t=⟨e,f,.rel k γ fw f'⟩) (V.join VK) g' w₁
def bC(w:World)(ch:Nat):Prop:=∃s r tm,w.heap[ch]? =some (.chan 0 #[] false s r tm)
def oE(w:World)(ch:Nat):Prop:=∃s r tm,w.heap[ch]? =some (.chan 0 #[] true s r tm)
def aEo(e:En)(f:Fz)(k:Nat)(γ fw:Gh)(f':Fz)(V:View)(g:Goroutine)(w:World):Prop:=
 V.deaf=0/\k<Γ.ns/\Made Γ e k f γ fw f'/\∀w₁,aP V w w₁->∃V' VK g',V'.Le V/\VK.Le V/\Apart V' VK/\Γ.cont k fw VK w₁/\
  (∀c,f'=.bH c->V.own c.ch/\¬V'.own c.ch/\¬VK.own c.ch/\bC w₁ c.ch/\c.c≠c.ch/\∀a,V'.ro a\/V'.wc a\/VK.ro a\/VK.wc a->a.block≠c.ch)/\
  stepG prog false g w₁=.go g' w₁ #[⟨.mark (.releaseMerge (eC Γ k)),false,true⟩]/\bf X (fun t=>t=⟨e,f',.lk k .add⟩) V' g' w₁
def anq(e:En)(f:Fz)(V:View)(g:Goroutine)(w:World):Prop:=
 ∃c,f=.stored c/\V.deaf=0/\∀w₁,aP V w w₁->bC w₁ c.ch->∃V' VC g' w',V'.Le V/\VC.Le V/\(∀b,¬VC.own b)/\(∀a,¬VC.wc a)/\Apart V' VC/\Γ.full c VC w₁/\
  (∀s r tm,w₁.heap[c.ch]? =some (.chan 0 #[] false s r tm)->w'=w₁.setChan c.ch 0 #[] true s r tm)/\
  mayWake prog g=true/\stepG prog false g w₁=.go g' w' (closeEvents c.ch)/\bf X (Next Γ e (.found c)) (V'.join VC) g' w'
def axV(e:En)(f:Fz)(V:View)(g:Goroutine)(w:World):Prop:=
 ∃c,f=.found c/\V.deaf=0/\∃z,∀w₁,aP V w w₁->
  stepG prog false g w₁=.comm g #[rcase c.ch z,rcase Γ.off z] true .select w₁ #[]/\
  ∀VC,Γ.full c VC w₁->(∀b,¬VC.own b)->(∀a,¬VC.wc a)->VC.deaf=0->Apart V VC->bf X (Next Γ e .none) (V.join VC) (g.finishComm prog #[rcase c.ch z,rcase Γ.off z] .select 0 z false) w₁
def axW(e:En)(V:View)(g:Goroutine)(w:World):Prop:=
 V.deaf=0/\e.s=0/\∃(pl:ConcR.Payload) (C i n:Nat) (v:Value),V.wc ⟨C,i,none⟩/\∀w₁,aP V w w₁->ConcN.WgLive Γ.wgT Γ.wg w₁->Γ.res V w₁/\@ConcN.AtR0 pl prog Γ.wgT Γ.wg C n 0 (i+1) v g w₁
def Vw(t:Tag)(V:View)(g:Goroutine)(w:World):Prop:=
 g.status=.running/\match t.kind with
 |.lk k p=>aPt Γ X t.e t.f k p V g w
 |.acq k=>aEn Γ X t.e t.f k V g w
 |.rel k γ fw f'=>aEo Γ X t.e t.f k γ fw f' V g w
 |.close=>anq Γ X t.e t.f V g w
 |.recv=>axV Γ X t.e t.f V g w
 |.E8=>t.f=.none/\axW Γ t.e V g w
end
section
variable {Y:Tag->View->Goroutine->World->Prop}
theorem bf.mono(h:∀t V g w,X t V g w->Y t V g w){q:Tag->Prop}{V:View}{g:Goroutine}{w:World}(hl:bf X q V g w):bf Y q V g w:=
 Loc.mono (fun V g w ⟨t,ht,hx⟩=>⟨t,ht,h t V g w hx⟩) hl
theorem Vw.mono(h:∀t V g w,X t V g w->Y t V g w){t:Tag}{V:View}{g:Goroutine}{w:World}(hl:Vw Γ X t V g w):Vw Γ Y t V g w:=by
 obtain⟨hs,hl⟩:=hl;refine⟨hs,?_⟩;obtain⟨e,f,kd⟩:=t;cases kd with
 |lk k p=>
  obtain⟨h1,h2,h3,h4⟩:=hl;refine⟨h1,h2,h3,fun w₁ wd sm hr ha hs ht=>⟨(h4 w₁ wd sm hr ha hs ht).1,(h4 w₁ wd sm hr ha hs ht).2.1,fun hn=>?_⟩⟩;obtain⟨g',w',es,iZ,iN,r',to,q1,q2,q3,q4,q5,q6⟩:=(h4 w₁ wd sm hr ha hs ht).2.2 hn;exact⟨g',w',es,iZ,iN,r',to,q1,q2,q3,q4,q5,bf.mono h q6⟩
 |acq k=>
  obtain⟨h1,h2,h3⟩:=hl;refine⟨h1,h2,fun w₁ γ VK a1 a2 a3 a4 a5=>?_⟩;obtain⟨g',q1,q2⟩:=h3 w₁ γ VK a1 a2 a3 a4 a5;exact⟨g',q1,bf.mono h q2⟩
 |rel k γ fw f'=>
  obtain⟨h1,h2,h3,h4⟩:=hl;refine⟨h1,h2,h3,fun w₁ hr=>?_⟩;obtain⟨V',VK,g',q1,q2,q3,q4,q5,q6,q7⟩:=h4 w₁ hr;exact⟨V',VK,g',q1,q2,q3,q4,q5,q6,bf.mono h q7⟩
 |close=>
  obtain⟨c,h1,h2,h3⟩:=hl;refine⟨c,h1,h2,fun w₁ hr ho=>?_⟩;obtain⟨V',VC,g',w',q1,q2,q3,q4,q5,q6,q7,q0,q8,q9⟩:=h3 w₁ hr ho;exact⟨V',VC,g',w',q1,q2,q3,q4,q5,q6,q7,q0,q8,bf.mono h q9⟩
 |recv=>
  obtain⟨c,h1,h2,z,h3⟩:=hl;refine⟨c,h1,h2,z,fun w₁ hr=>⟨(h3 w₁ hr).1,fun VC a1 a2 a3 a4 a5=>bf.mono h ((h3 w₁ hr).2 VC a1 a2 a3 a4 a5)⟩⟩
 |E8=>exact hl
def At(Γ:Rc)(t:Tag)(V:View)(g:Goroutine)(w:World):Prop:=∃X:Tag->View->Goroutine->World->Prop,X t V g w/\∀t V g w,X t V g w->Vw Γ X t V g w
theorem At.law{t:Tag}{V:View}{g:Goroutine}{w:World}(h:At Γ t V g w):Vw Γ (At Γ) t V g w:=by
 obtain⟨X,hx,hl⟩:=h;exact(hl t V g w hx).mono fun t V g w hx=>⟨X,hx,hl⟩
theorem At.fold{t:Tag}{V:View}{g:Goroutine}{w:World}(h:Vw Γ (At Γ) t V g w):At Γ t V g w:=
 ⟨fun t' V' g' w'=>(t'=t/\V'=V/\g'=g/\w'=w)\/At Γ t' V' g' w',.inl ⟨rfl,rfl,rfl,rfl⟩,fun t' V' g' w' hx=>by
  rcases hx with ⟨rfl,rfl,rfl,rfl⟩|hx
  ·exact h.mono fun _ _ _ _=>.inr
  ·exact hx.law.mono fun _ _ _ _=>.inr⟩
theorem At.aax{t:Tag}{V:View}{g:Goroutine}{w:World}(X:Tag->View->Goroutine->World->Prop)(h:∀t V g w,X t V g w->Vw Γ (fun t V g w=>X t V g w\/At Γ t V g w) t V g w)(hx:X t V g w):At Γ t V g w:=
 ⟨fun t V g w=>X t V g w\/At Γ t V g w,.inl hx,fun t V g w hx=>hx.elim (h t V g w) fun hx=>hx.law.mono fun _ _ _ _=>.inr⟩
theorem bf.rely{q:Tag->Prop}{V:View}{g:Goroutine}{w w₁:World}(h:bf X q V g w)(hr:aP V w w₁):bf X q V g w₁:=Loc.rely h hr
end
section
variable {U:View}
theorem View.Le.refl(V:View):V.Le V:=⟨fun _ h=>h,fun _ h=>.inl h,fun _ h=>.inl h,rfl⟩
theorem Apart.symm(h:Apart V W):Apart W V:=⟨fun b x y=>h.own b y x,h.mX,h.wc,h.ro',h.ro⟩
theorem Apart.le(h:Apart V W)(hV:V'.Le V):Apart V' W:=by
 refine⟨fun b x=>h.own b (hV.own b x),fun a x=>?_,fun a x=>⟨fun y=>?_,fun y=>?_,fun y=>(h.mX a x).2.2 (hV.own _ y)⟩,fun a x=>?_,fun a x y=>h.ro' a x (hV.own _ y)⟩
 ·rcases hV.wc a x with x|x
  ·exact h.wc a x
  ·exact⟨fun y=>(h.mX a y).2.2 x,fun y=>h.ro' a y x,h.own _ x⟩
 ·rcases hV.wc a y with y|y
  ·exact(h.mX a x).1 y
  ·exact(h.mX a x).2.2 y
 ·rcases hV.ro a y with y|y|y
  ·exact(h.mX a x).2.1 y
  ·exact(h.mX a x).1 y
  ·exact(h.mX a x).2.2 y
 ·rcases hV.ro a x with x|x|x
  ·exact h.ro a x
  ·exact(h.wc a x).2.2
  ·exact h.own _ x
theorem Apart.bare(W:View):Apart View.bare W:=⟨fun _ h=>h.elim,fun _ h=>h.elim,fun _ _=>⟨fun x=>x,fun x=>x,fun x=>x⟩,fun _ h=>h.elim,fun _ _ x=>x⟩
theorem Apart.join(hV:Apart V U)(hW:Apart W U):Apart (V.join W) U:=
 ⟨fun b x=>x.elim (hV.own b) (hW.own b),fun a x=>x.elim (hV.wc a) (hW.wc a),fun a x=>⟨fun y=>y.elim (hV.mX a x).1 (hW.mX a x).1,fun y=>y.elim (hV.mX a x).2.1 (hW.mX a x).2.1,fun y=>y.elim (hV.mX a x).2.2 (hW.mX a x).2.2⟩,
  fun a x=>x.elim (hV.ro a) (hW.ro a),fun a x y=>y.elim (hV.ro' a x) (hW.ro' a x)⟩
structure Hg(W:View):Prop where
 own:∀b,¬W.own b
 wc:∀a,¬W.wc a
theorem Apart.share(h:Apart V W)(hw:Hg W):Apart (V.join W) W:=
 ⟨fun _ _=>hw.own _,fun a x=>x.elim (h.wc a) fun x=>(hw.wc a x).elim,fun a x=>(hw.wc a x).elim,fun _ _=>hw.own _,fun a x y=>y.elim (h.ro' a x) (hw.own _)⟩
structure mP(V:View)(n:Nat):Prop where
 own:∀b,V.own b->b<n
 wc:∀a,V.wc a->a.block<n
 ro:∀a,V.ro a->a.block<n
theorem mP.le{n:Nat}(h:mP V n)(hV:V'.Le V):mP V' n:=
 ⟨fun b x=>h.own b (hV.own b x),fun a x=>(hV.wc a x).elim (h.wc a) (h.own _),fun a x=>(hV.ro a x).elim (h.ro a) fun x=>x.elim (h.wc a) (h.own _)⟩
theorem mP.mono{n m:Nat}(h:mP V n)(hn:n<=m):mP V m:=⟨fun b x=>Nat.lt_of_lt_of_le (h.own b x) hn,fun a x=>Nat.lt_of_lt_of_le (h.wc a x) hn,fun a x=>Nat.lt_of_lt_of_le (h.ro a x) hn⟩
theorem mP.join{n:Nat}(h:mP V n)(k:mP W n):mP (V.join W) n:=⟨fun b x=>x.elim (h.own b) (k.own b),fun a x=>x.elim (h.wc a) (k.wc a),fun a x=>x.elim (h.ro a) (k.ro a)⟩
theorem mP.bare(n:Nat):mP View.bare n:=⟨fun _ h=>h.elim,fun _ h=>h.elim,fun _ h=>h.elim⟩
theorem Apart.grow{N:Nat->Prop}{n d:Nat}(h:Apart V W)(hW:mP W n)(hN:∀b,N b->n<=b):Apart (V.grow N d) W:=
 ⟨fun b x y=>x.elim (fun x=>h.own b x y) (fun x=>Nat.not_lt.2 (hN b x) (hW.own b y)),h.wc,fun a x=>⟨(h.mX a x).1,(h.mX a x).2.1,fun y=>y.elim (h.mX a x).2.2 fun y=>Nat.not_lt.2 (hN _ y) (hW.wc a x)⟩,h.ro,
  fun a x y=>y.elim (h.ro' a x) fun y=>Nat.not_lt.2 (hN _ y) (hW.ro a x)⟩
end
inductive Ag where
 |main|work (j:Nat)|lock (k:Nat)|mc (j:Nat)|chan (c:Nat)|keep (j:Nat)|sync|past
 deriving DecidableEq
variable {vw:Ag->View}
def gu(vw:Ag->View):Prop:=∀A B,A≠B->Apart (vw A) (vw B)
def bx(vw:Ag->View)(A:Ag)(V:View):Ag->View:=fun B=>if B=A then V else vw B
theorem bm(vw:Ag->View)(A:Ag)(V:View):bx vw A V A=V:=by simp [bx]
theorem bq(vw:Ag->View){A B:Ag}(V:View)(h:B≠A):bx vw A V B=vw B:=by simp [bx,h]
def FN(V:View)(f:Fz):View:={V with own:=fun b=>V.own b\/∃c,f=.bH c/\b=c.ch}
theorem Apart.keep{V W:View}{f:Fz}(h:Apart V W)(hc:∀c,f=.bH c->¬W.own c.ch/\∀a,W.ro a\/W.wc a->a.block≠c.ch):Apart (FN V f) W:=by
 refine⟨fun b hb=>?_,h.wc,fun a ha=>⟨(h.mX a ha).1,(h.mX a ha).2.1,fun hb=>?_⟩,h.ro,fun a ha hb=>?_⟩
 ·rcases hb with hb|⟨c,BQ,rfl⟩
  ·exact h.own b hb
  ·exact(hc c BQ).1
 ·rcases hb with hb|⟨c,BQ,e⟩
  ·exact(h.mX a ha).2.2 hb
  ·exact(hc c BQ).2 a (.inr ha) e
 ·rcases hb with hb|⟨c,BQ,e⟩
  ·exact h.ro' a ha hb
  ·exact(hc c BQ).2 a (.inl ha) e
section
variable (vw:Ag->View) (i:Nat) (V:View)
theorem akR:bx vw (.work i) V .main=vw .main:=bq vw V (by simp)
theorem akS(k:Nat):bx vw (.work i) V (.lock k)=vw (.lock k):=bq vw V (by simp)
theorem Om(j:Nat):bx vw (.work i) V (.mc j)=vw (.mc j):=bq vw V (by simp)
theorem akT(c:Nat):bx vw (.work i) V (.chan c)=vw (.chan c):=bq vw V (by simp)
theorem akU:bx vw (.work i) V .sync=vw .sync:=bq vw V (by simp)
theorem akV{j:Nat}(h:j≠i):bx vw (.work i) V (.work j)=vw (.work j):=bq vw V (by simp [h])
end
section
variable {A B:Ag} {W':View}
theorem gu.upd(h:gu vw)(hV:∀B,B≠A->Apart V' (vw B)):gu (bx vw A V'):=by
 intro C D hCD;by_cases hC:C=A
 ·subst hC;rw [bm,bq vw V' (fun e=>hCD e.symm)];exact hV D fun e=>hCD e.symm
 ·rw [bq vw V' hC];by_cases hD:D=A
  ·subst hD;rw [bm];exact(hV C hC).symm
  ·rw [bq vw V' hD];exact h C D hCD
theorem gu.le(h:gu vw)(hV:V'.Le (vw A)):gu (bx vw A V'):=h.upd fun B hB=>(h A B fun e=>hB e.symm).le hV
theorem gu.grow(h:gu vw){n d:Nat}{N:Nat->Prop}(hl:∀B,mP (vw B) n)(hN:∀b,N b->n<=b):gu (bx vw A ((vw A).grow N d)):=h.upd fun B hB=>(h A B fun e=>hB e.symm).grow (hl B) hN
theorem gu.split(h:gu vw)(hAB:A≠B)(h1:V'.Le (vw A))(h2:W'.Le (vw A))(h3:Apart V' W'):gu (bx (bx vw A V') B W'):=by
 refine gu.upd (h.le h1) fun C hC=>?_;by_cases hA:C=A
 ·subst hA;rw [bm];exact h3.symm
 ·rw [bq vw V' hA];exact(h A C fun e=>hA e.symm).le h2
theorem gu.join(h:gu vw)(hAB:A≠B):gu (bx (bx vw A ((vw A).join (vw B))) B View.bare):=by
 intro C D hCD;by_cases hCB:C=B
 ·subst hCB;rw [bm];exact Apart.bare _
 rw [bq _ _ hCB];by_cases hDB:D=B
 ·subst hDB;rw [bm];exact(Apart.bare _).symm
 rw [bq _ _ hDB];by_cases hCA:C=A
 ·subst hCA;rw [bm,bq _ _ (fun e=>hCD e.symm)];exact(h _ D hCD).join (h B D fun e=>hDB e.symm)
 ·rw [bq _ _ hCA];by_cases hDA:D=A
  ·subst hDA;rw [bm];exact((h _ C fun e=>hCD e.symm).join (h B C fun e=>hCB e.symm)).symm
  ·rw [bq _ _ hDA];exact h C D hCD
theorem gu.share(h:gu vw)(hAB:A≠B)(hB:Hg (vw B)):gu (bx vw A ((vw A).join (vw B))):=by
 refine h.upd fun C hC=>?_;by_cases hCB:C=B
 ·subst hCB;exact(h A C hAB).share hB
 ·exact(h A C fun e=>hC e.symm).join (h B C fun e=>hCB e.symm)
end
section
variable {w:World} {es:Array Event}
theorem akW{c c':Array Value}{e:TypeId}{fr:Nat×Nat}{b:Nat}(h:w.heap[b]? =some (.cells c e fr))(h':w'.heap[b]? =some (.cells c' e fr))(hs:c'.size=c.size)(hc:∀off,w'.cell? ⟨b,off,none⟩=w.cell? ⟨b,off,none⟩):w'.heap[b]? =w.heap[b]? :=by
 have:c'=c:=by
  apply Array.ext hs;intro i h1 h2;have:=hc i;simp only [World.cell?,h,h']at this;simpa [h1,h2]using this
 rw [h,h',this]
theorem sH{b:Nat}(hk:eG w w')(hc:∀off,w'.cell? ⟨b,off,none⟩=w.cell? ⟨b,off,none⟩)(ho:(∀c e fr,w.heap[b]? ≠some (.cells c e fr))->w'.heap[b]? =w.heap[b]?):w'.heap[b]? =w.heap[b]? :=by
 by_cases h:∃c e fr,w.heap[b]? =some (.cells c e fr)
 ·obtain⟨c,e,fr,h⟩:=h;obtain⟨c',h1,h2⟩:=hk b c e fr h;exact akW h h1 h2 hc
 ·exact ho fun c e fr hx=>h ⟨c,e,fr,hx⟩
theorem fG.rely(h:fG V w w' es V')(ha:Apart V W)(hl:mP W w.heap.size):aP W w w':=by
 refine⟨h.tape,h.output,h.os,h.size,h.kind,fun b hb=>?_,fun a x=>?_⟩
 ·exact sH h.kind (fun off=>h.cells ⟨b,off,none⟩ (hl.own b hb) (fun y=>ha.own b y hb) fun y=>(ha.wc _ y).2.2 hb) fun hn=>h.l9 b (hl.own b hb) (fun y=>ha.own b y hb) hn
 ·rcases x with x|x
  ·exact h.cells a (hl.ro a x) (ha.ro' a x) fun y=>(ha.wc a y).2.1 x
  ·exact h.cells a (hl.wc a x) (ha.mX a x).2.2 (ha.mX a x).1
theorem fG.low(h:fG V w w' es V')(hl:mP V w.heap.size):mP V' w'.heap.size:=by
 rw [h.view];exact⟨fun b x=>x.elim (fun x=>Nat.lt_of_lt_of_le (hl.own b x) h.size) fun x=>x.2,fun a x=>Nat.lt_of_lt_of_le (hl.wc a x) h.size,fun a x=>Nat.lt_of_lt_of_le (hl.ro a x) h.size⟩
theorem jT(W:View)(w:World)(d:Nat):aP W w (w.at d):=⟨rfl,rfl,.refl _,Nat.le_refl _,fun _ c _ _ h=>⟨c,h,rfl⟩,fun _ _=>rfl,fun _ _=>rfl⟩
end
def aS(Γ:Rc):View:={own:=fun _=>False,ro:=fun _=>False,wc:=fun a=>(∃k,k<Γ.ns/\a.block=Γ.src k/\(a.off=2\/a.off=3))\/a.block=Γ.wg,deaf:=0}
section
variable {w:World} {k:Nat}
theorem dw.bk{wd:Wd}{sm:Nat}(h:dw Γ k w wd sm)(hk:k<Γ.ns)(hr:aP (aS Γ) w w'):dw Γ k w' wd sm:=by
 obtain⟨c,ty,h1,h2,h3⟩:=h;obtain⟨c',q1,q2⟩:=hr.kind _ _ _ _ h1;have e:∀off,off=2\/off=3->c'[off]? =c[off]? :=fun off ho=>by
  have:=hr.cell ⟨Γ.src k,off,none⟩ (.inr (.inl ⟨k,hk,rfl,ho⟩));simpa [World.cell?,h1,q1]using this
 exact⟨c',ty,q1,by rw [e 2 (.inl rfl)];exact h2,by rw [e 3 (.inr rfl)];exact h3⟩
theorem sI{ty:TypeId}{st sm:Int}(h:Go.ConcR.WgAt ty Γ.wg w st sm)(hr:aP (aS Γ) w w'):Go.ConcR.WgAt ty Γ.wg w' st sm:=by
 have:w'.heap[Γ.wg]? =w.heap[Γ.wg]? :=sH hr.kind (fun off=>hr.cell ⟨Γ.wg,off,none⟩ (.inr (.inr rfl))) fun hn=>absurd h (hn _ _ _);exact this.trans h
theorem aAZ(h:Apart V (aS Γ))(hk:k<Γ.ns):¬V.own (Γ.src k)/\∀a:Addr,V.ro a\/V.wc a->a.block=Γ.src k->a.off≠2/\a.off≠3:=by
 refine⟨(h.mX ⟨Γ.src k,2,none⟩ (.inl ⟨k,hk,rfl,.inl rfl⟩)).2.2,fun a x hb=>⟨fun e=>?_,fun e=>?_⟩⟩
 ·have:=h.mX a (.inl ⟨k,hk,hb,.inl e⟩);exact x.elim this.2.1 this.1
 ·have:=h.mX a (.inl ⟨k,hk,hb,.inr e⟩);exact x.elim this.2.1 this.1
theorem gq.aPu(h:gq Γ k w w')(hk:k<Γ.ns)(ha:Apart V (aS Γ)):aP V w w':=by
 obtain⟨n1,n2⟩:=aAZ ha hk;exact⟨h.tape,h.output,by rw [h.os];exact .refl _,Nat.le_of_eq h.size.symm,h.kind,fun b hb=>h.block b fun e=>n1 (e▸hb),fun a x=>by
  by_cases hb:a.block=Γ.src k
  ·exact h.cell a hb (n2 a x hb).1 (n2 a x hb).2
  ·simp only [World.cell?,h.block _ hb]⟩
theorem yX{off:Nat}{v:Value}(ha:Apart V (aS Γ)):aP V w (w.setCell ⟨Γ.wg,off,none⟩ v):=by
 have hs:=aside_setCell w ⟨Γ.wg,off,none⟩ v;have dS:∀a:Addr,a.block=Γ.wg->¬V.wc a/\¬V.ro a/\¬V.own a.block:=fun a e=>ha.mX a (.inr e);have hb:∀b,b≠Γ.wg->(w.setCell ⟨Γ.wg,off,none⟩ v).heap[b]? =w.heap[b]? :=fun b hb=>hs.block b hb;refine⟨hs.tape,hs.output,by rw [hs.os];exact .refl _,Nat.le_of_eq hs.size.symm,fun b c e fr h=>?_,fun b x=>hb b fun e=>(dS ⟨b,0,none⟩ e).2.2 x,fun a x=>?_⟩
 ·by_cases hbb:b=Γ.wg
  ·subst hbb;exact⟨c.setIfInBounds off v,by rw [cZ,h];rfl,by simp⟩
  ·exact⟨c,by rw [hb b hbb];exact h,rfl⟩
 ·have:a.block≠Γ.wg:=fun e=>x.elim (dS a e).2.1 (dS a e).1;simp only [World.cell?,hb _ this]
theorem FO{ch cap s r s' r':Nat}{buf axX:Array Value}{cl cl' tm tm':Bool}(h:w.heap[ch]? =some (.chan cap buf cl s r tm))(ho:¬V.own ch):aP V w (w.setChan ch cap axX cl' s' r' tm'):=by
 have aU:ch<w.heap.size:=(Array.getElem?_eq_some_iff.1 h).1;have hb:∀b,b≠ch->(w.setChan ch cap axX cl' s' r' tm').heap[b]? =w.heap[b]? :=fun b hb=>by simp [World.setChan,Array.getElem?_setIfInBounds_ne (fun e=>hb e.symm)]
 have hc:(w.setChan ch cap axX cl' s' r' tm').heap[ch]? =some (.chan cap axX cl' s' r' tm'):=by simp [World.setChan,aU]
 refine⟨rfl,rfl,.refl _,by simp [World.setChan],fun b c e fr hx=>?_,fun b x=>hb b fun e=>ho (e▸x),fun a _=>?_⟩
 ·by_cases e:b=ch
  ·subst e;rw [h]at hx;cases hx
  ·exact⟨c,by rw [hb b e];exact hx,rfl⟩
 ·by_cases e:a.block=ch
  ·simp only [World.cell?,e,hc,h]
  ·simp only [World.cell?,hb _ e]
end
def nR(o:Array Oper)(i:Nat):Oper:=(o[i]?).getD {dst:=none,op:=.move (.tmp 0),type:=0,pos:= "",after:=#[],guard:=none}
def kQ(o:Oper):Op×Option Nat×Option (Nat×Bool):=(o.op,o.dst,o.guard)
def KO(os:Array Oper)(i:Nat)(op:Op)(d:Option Nat)(g:Option (Nat×Bool)):Prop:=(os[i]?).map kQ=some (op,d,g)
abbrev K1(os:Array Oper)(i:Nat)(op:Op)(d:Nat):Prop:=KO os i op (some d) none
section
variable {os:Array Oper} {op:Op} {y:Option Nat} {z:Option (Nat×Bool)}
theorem KO.a(h:KO os i op y z):os[i]? =some (nR os i):=by
 unfold KO at h;unfold nR;cases e:os[i]? with
 |none=>rw [e]at h;cases h
 |some o=>rfl
theorem KO.q(h:KO os i op y z):kQ (nR os i)=(op,y,z):=by
 have:=h.a;unfold KO at h;rw [this]at h;exact Option.some.inj h
theorem KO.o(h:KO os i op y z):(nR os i).op=op:=congrArg (fun x=>x.1) h.q
theorem KO.d(h:KO os i op y z):(nR os i).dst=y:=congrArg (fun x=>x.2.1) h.q
theorem KO.w(h:KO os i op y z){o:Oper}(e:os[i]? =some o):nR os i=o:=Option.some.inj (h.a.symm.trans e)
theorem KO.g(h:KO os i op y z):(nR os i).guard=z:=congrArg (fun x=>x.2.2) h.q
theorem KO.f(h:KO os i op y none){y:Nat->Option Bool}:Region.wanted (nR os i) y=true:=by simp [Region.wanted,h.g]
end
theorem rl{n:Nat}(l:List Nat)(h:List.range n=l):List.range n=l:=h
structure Ua(a a':Act)(d:Nat):Prop where
 s:a'.tmps.size=a.tmps.size
 r:a'.defers=a.defers
 n:∀j,d≠j->a'.eval (.tmp j)=a.eval (.tmp j)
section
variable {a a':Act} {d:Nat} {D:List Deferred} {X:Prop}
theorem t0(u:Ua a a' d)(hs:a.tmps.size=m)(hd:a.defers=D)(K:a'.tmps.size=m->a'.defers=D->X):X:=K (u.s.trans hs) (u.r.trans hd)
theorem t1{i0:Nat}{v0:Value}(u:Ua a a' d)(hs:a.tmps.size=m)(hd:a.defers=D)(h0:a.eval (.tmp i0)=v0)(K:a'.tmps.size=m->a'.defers=D->a'.eval (.tmp i0)=v0->X)(e0:d≠i0:=by decide):X:=K (u.s.trans hs) (u.r.trans hd) ((u.n _ e0).trans h0)
theorem t2{i0 i1:Nat}{v0 v1:Value}(u:Ua a a' d)(hs:a.tmps.size=m)(hd:a.defers=D)(h0:a.eval (.tmp i0)=v0)(h1:a.eval (.tmp i1)=v1)(K:a'.tmps.size=m->a'.defers=D->a'.eval (.tmp i0)=v0->a'.eval (.tmp i1)=v1->X)(e0:d≠i0:=by decide)(e1:d≠i1:=by decide):X:=K (u.s.trans hs) (u.r.trans hd) ((u.n _ e0).trans h0) ((u.n _ e1).trans h1)
theorem t3{i0 i1 i2:Nat}{v0 v1 v2:Value}(u:Ua a a' d)(hs:a.tmps.size=m)(hd:a.defers=D)(h0:a.eval (.tmp i0)=v0)(h1:a.eval (.tmp i1)=v1)(h2:a.eval (.tmp i2)=v2)(K:a'.tmps.size=m->a'.defers=D->a'.eval (.tmp i0)=v0->a'.eval (.tmp i1)=v1->a'.eval (.tmp i2)=v2->X)(e0:d≠i0:=by decide)(e1:d≠i1:=by decide)(e2:d≠i2:=by decide):X:=K (u.s.trans hs) (u.r.trans hd) ((u.n _ e0).trans h0) ((u.n _ e1).trans h1) ((u.n _ e2).trans h2)
theorem t4{i0 i1 i2 i3:Nat}{v0 v1 v2 v3:Value}(u:Ua a a' d)(hs:a.tmps.size=m)(hd:a.defers=D)(h0:a.eval (.tmp i0)=v0)(h1:a.eval (.tmp i1)=v1)(h2:a.eval (.tmp i2)=v2)(h3:a.eval (.tmp i3)=v3)(K:a'.tmps.size=m->a'.defers=D->a'.eval (.tmp i0)=v0->a'.eval (.tmp i1)=v1->a'.eval (.tmp i2)=v2->a'.eval (.tmp i3)=v3->X)(e0:d≠i0:=by decide)(e1:d≠i1:=by decide)(e2:d≠i2:=by decide)(e3:d≠i3:=by decide):X:=K (u.s.trans hs) (u.r.trans hd) ((u.n _ e0).trans h0) ((u.n _ e1).trans h1) ((u.n _ e2).trans h2) ((u.n _ e3).trans h3)
theorem t5{i0 i1 i2 i3 i4:Nat}{v0 v1 v2 v3 v4:Value}(u:Ua a a' d)(hs:a.tmps.size=m)(hd:a.defers=D)(h0:a.eval (.tmp i0)=v0)(h1:a.eval (.tmp i1)=v1)(h2:a.eval (.tmp i2)=v2)(h3:a.eval (.tmp i3)=v3)(h4:a.eval (.tmp i4)=v4)(K:a'.tmps.size=m->a'.defers=D->a'.eval (.tmp i0)=v0->a'.eval (.tmp i1)=v1->a'.eval (.tmp i2)=v2->a'.eval (.tmp i3)=v3->a'.eval (.tmp i4)=v4->X)(e0:d≠i0:=by decide)(e1:d≠i1:=by decide)(e2:d≠i2:=by decide)(e3:d≠i3:=by decide)(e4:d≠i4:=by decide):X:=K (u.s.trans hs) (u.r.trans hd) ((u.n _ e0).trans h0) ((u.n _ e1).trans h1) ((u.n _ e2).trans h2) ((u.n _ e3).trans h3) ((u.n _ e4).trans h4)
theorem t6{i0 i1 i2 i3 i4 i5:Nat}{v0 v1 v2 v3 v4 v5:Value}(u:Ua a a' d)(hs:a.tmps.size=m)(hd:a.defers=D)(h0:a.eval (.tmp i0)=v0)(h1:a.eval (.tmp i1)=v1)(h2:a.eval (.tmp i2)=v2)(h3:a.eval (.tmp i3)=v3)(h4:a.eval (.tmp i4)=v4)(h5:a.eval (.tmp i5)=v5)(K:a'.tmps.size=m->a'.defers=D->a'.eval (.tmp i0)=v0->a'.eval (.tmp i1)=v1->a'.eval (.tmp i2)=v2->a'.eval (.tmp i3)=v3->a'.eval (.tmp i4)=v4->a'.eval (.tmp i5)=v5->X)(e0:d≠i0:=by decide)(e1:d≠i1:=by decide)(e2:d≠i2:=by decide)(e3:d≠i3:=by decide)(e4:d≠i4:=by decide)(e5:d≠i5:=by decide):X:=K (u.s.trans hs) (u.r.trans hd) ((u.n _ e0).trans h0) ((u.n _ e1).trans h1) ((u.n _ e2).trans h2) ((u.n _ e3).trans h3) ((u.n _ e4).trans h4) ((u.n _ e5).trans h5)
theorem t7{i0 i1 i2 i3 i4 i5 i6:Nat}{v0 v1 v2 v3 v4 v5 v6:Value}(u:Ua a a' d)(hs:a.tmps.size=m)(hd:a.defers=D)(h0:a.eval (.tmp i0)=v0)(h1:a.eval (.tmp i1)=v1)(h2:a.eval (.tmp i2)=v2)(h3:a.eval (.tmp i3)=v3)(h4:a.eval (.tmp i4)=v4)(h5:a.eval (.tmp i5)=v5)(h6:a.eval (.tmp i6)=v6)(K:a'.tmps.size=m->a'.defers=D->a'.eval (.tmp i0)=v0->a'.eval (.tmp i1)=v1->a'.eval (.tmp i2)=v2->a'.eval (.tmp i3)=v3->a'.eval (.tmp i4)=v4->a'.eval (.tmp i5)=v5->a'.eval (.tmp i6)=v6->X)(e0:d≠i0:=by decide)(e1:d≠i1:=by decide)(e2:d≠i2:=by decide)(e3:d≠i3:=by decide)(e4:d≠i4:=by decide)(e5:d≠i5:=by decide)(e6:d≠i6:=by decide):X:=K (u.s.trans hs) (u.r.trans hd) ((u.n _ e0).trans h0) ((u.n _ e1).trans h1) ((u.n _ e2).trans h2) ((u.n _ e3).trans h3) ((u.n _ e4).trans h4) ((u.n _ e5).trans h5) ((u.n _ e6).trans h6)
theorem t8{i0 i1 i2 i3 i4 i5 i6 i7:Nat}{v0 v1 v2 v3 v4 v5 v6 v7:Value}(u:Ua a a' d)(hs:a.tmps.size=m)(hd:a.defers=D)(h0:a.eval (.tmp i0)=v0)(h1:a.eval (.tmp i1)=v1)(h2:a.eval (.tmp i2)=v2)(h3:a.eval (.tmp i3)=v3)(h4:a.eval (.tmp i4)=v4)(h5:a.eval (.tmp i5)=v5)(h6:a.eval (.tmp i6)=v6)(h7:a.eval (.tmp i7)=v7)(K:a'.tmps.size=m->a'.defers=D->a'.eval (.tmp i0)=v0->a'.eval (.tmp i1)=v1->a'.eval (.tmp i2)=v2->a'.eval (.tmp i3)=v3->a'.eval (.tmp i4)=v4->a'.eval (.tmp i5)=v5->a'.eval (.tmp i6)=v6->a'.eval (.tmp i7)=v7->X)(e0:d≠i0:=by decide)(e1:d≠i1:=by decide)(e2:d≠i2:=by decide)(e3:d≠i3:=by decide)(e4:d≠i4:=by decide)(e5:d≠i5:=by decide)(e6:d≠i6:=by decide)(e7:d≠i7:=by decide):X:=K (u.s.trans hs) (u.r.trans hd) ((u.n _ e0).trans h0) ((u.n _ e1).trans h1) ((u.n _ e2).trans h2) ((u.n _ e3).trans h3) ((u.n _ e4).trans h4) ((u.n _ e5).trans h5) ((u.n _ e6).trans h6) ((u.n _ e7).trans h7)
theorem t9{i0 i1 i2 i3 i4 i5 i6 i7 i8:Nat}{v0 v1 v2 v3 v4 v5 v6 v7 v8:Value}(u:Ua a a' d)(hs:a.tmps.size=m)(hd:a.defers=D)(h0:a.eval (.tmp i0)=v0)(h1:a.eval (.tmp i1)=v1)(h2:a.eval (.tmp i2)=v2)(h3:a.eval (.tmp i3)=v3)(h4:a.eval (.tmp i4)=v4)(h5:a.eval (.tmp i5)=v5)(h6:a.eval (.tmp i6)=v6)(h7:a.eval (.tmp i7)=v7)(h8:a.eval (.tmp i8)=v8)(K:a'.tmps.size=m->a'.defers=D->a'.eval (.tmp i0)=v0->a'.eval (.tmp i1)=v1->a'.eval (.tmp i2)=v2->a'.eval (.tmp i3)=v3->a'.eval (.tmp i4)=v4->a'.eval (.tmp i5)=v5->a'.eval (.tmp i6)=v6->a'.eval (.tmp i7)=v7->a'.eval (.tmp i8)=v8->X)(e0:d≠i0:=by decide)(e1:d≠i1:=by decide)(e2:d≠i2:=by decide)(e3:d≠i3:=by decide)(e4:d≠i4:=by decide)(e5:d≠i5:=by decide)(e6:d≠i6:=by decide)(e7:d≠i7:=by decide)(e8:d≠i8:=by decide):X:=K (u.s.trans hs) (u.r.trans hd) ((u.n _ e0).trans h0) ((u.n _ e1).trans h1) ((u.n _ e2).trans h2) ((u.n _ e3).trans h3) ((u.n _ e4).trans h4) ((u.n _ e5).trans h5) ((u.n _ e6).trans h6) ((u.n _ e7).trans h7) ((u.n _ e8).trans h8)
theorem t10{i0 i1 i2 i3 i4 i5 i6 i7 i8 i9:Nat}{v0 v1 v2 v3 v4 v5 v6 v7 v8 v9:Value}(u:Ua a a' d)(hs:a.tmps.size=m)(hd:a.defers=D)(h0:a.eval (.tmp i0)=v0)(h1:a.eval (.tmp i1)=v1)(h2:a.eval (.tmp i2)=v2)(h3:a.eval (.tmp i3)=v3)(h4:a.eval (.tmp i4)=v4)(h5:a.eval (.tmp i5)=v5)(h6:a.eval (.tmp i6)=v6)(h7:a.eval (.tmp i7)=v7)(h8:a.eval (.tmp i8)=v8)(h9:a.eval (.tmp i9)=v9)(K:a'.tmps.size=m->a'.defers=D->a'.eval (.tmp i0)=v0->a'.eval (.tmp i1)=v1->a'.eval (.tmp i2)=v2->a'.eval (.tmp i3)=v3->a'.eval (.tmp i4)=v4->a'.eval (.tmp i5)=v5->a'.eval (.tmp i6)=v6->a'.eval (.tmp i7)=v7->a'.eval (.tmp i8)=v8->a'.eval (.tmp i9)=v9->X)(e0:d≠i0:=by decide)(e1:d≠i1:=by decide)(e2:d≠i2:=by decide)(e3:d≠i3:=by decide)(e4:d≠i4:=by decide)(e5:d≠i5:=by decide)(e6:d≠i6:=by decide)(e7:d≠i7:=by decide)(e8:d≠i8:=by decide)(e9:d≠i9:=by decide):X:=K (u.s.trans hs) (u.r.trans hd) ((u.n _ e0).trans h0) ((u.n _ e1).trans h1) ((u.n _ e2).trans h2) ((u.n _ e3).trans h3) ((u.n _ e4).trans h4) ((u.n _ e5).trans h5) ((u.n _ e6).trans h6) ((u.n _ e7).trans h7) ((u.n _ e8).trans h8) ((u.n _ e9).trans h9)
theorem t11{i0 i1 i2 i3 i4 i5 i6 i7 i8 i9 i10:Nat}{v0 v1 v2 v3 v4 v5 v6 v7 v8 v9 v10:Value}(u:Ua a a' d)(hs:a.tmps.size=m)(hd:a.defers=D)(h0:a.eval (.tmp i0)=v0)(h1:a.eval (.tmp i1)=v1)(h2:a.eval (.tmp i2)=v2)(h3:a.eval (.tmp i3)=v3)(h4:a.eval (.tmp i4)=v4)(h5:a.eval (.tmp i5)=v5)(h6:a.eval (.tmp i6)=v6)(h7:a.eval (.tmp i7)=v7)(h8:a.eval (.tmp i8)=v8)(h9:a.eval (.tmp i9)=v9)(aM:a.eval (.tmp i10)=v10)(K:a'.tmps.size=m->a'.defers=D->a'.eval (.tmp i0)=v0->a'.eval (.tmp i1)=v1->a'.eval (.tmp i2)=v2->a'.eval (.tmp i3)=v3->a'.eval (.tmp i4)=v4->a'.eval (.tmp i5)=v5->a'.eval (.tmp i6)=v6->a'.eval (.tmp i7)=v7->a'.eval (.tmp i8)=v8->a'.eval (.tmp i9)=v9->a'.eval (.tmp i10)=v10->X)(e0:d≠i0:=by decide)(e1:d≠i1:=by decide)(e2:d≠i2:=by decide)(e3:d≠i3:=by decide)(e4:d≠i4:=by decide)(e5:d≠i5:=by decide)(e6:d≠i6:=by decide)(e7:d≠i7:=by decide)(e8:d≠i8:=by decide)(e9:d≠i9:=by decide)(Vx:d≠i10:=by decide):X:=K (u.s.trans hs) (u.r.trans hd) ((u.n _ e0).trans h0) ((u.n _ e1).trans h1) ((u.n _ e2).trans h2) ((u.n _ e3).trans h3) ((u.n _ e4).trans h4) ((u.n _ e5).trans h5) ((u.n _ e6).trans h6) ((u.n _ e7).trans h7) ((u.n _ e8).trans h8) ((u.n _ e9).trans h9) ((u.n _ Vx).trans aM)
theorem t12{i0 i1 i2 i3 i4 i5 i6 i7 i8 i9 i10 i11:Nat}{v0 v1 v2 v3 v4 v5 v6 v7 v8 v9 v10 v11:Value}(u:Ua a a' d)(hs:a.tmps.size=m)(hd:a.defers=D)(h0:a.eval (.tmp i0)=v0)(h1:a.eval (.tmp i1)=v1)(h2:a.eval (.tmp i2)=v2)(h3:a.eval (.tmp i3)=v3)(h4:a.eval (.tmp i4)=v4)(h5:a.eval (.tmp i5)=v5)(h6:a.eval (.tmp i6)=v6)(h7:a.eval (.tmp i7)=v7)(h8:a.eval (.tmp i8)=v8)(h9:a.eval (.tmp i9)=v9)(aM:a.eval (.tmp i10)=v10)(aH:a.eval (.tmp i11)=v11)(K:a'.tmps.size=m->a'.defers=D->a'.eval (.tmp i0)=v0->a'.eval (.tmp i1)=v1->a'.eval (.tmp i2)=v2->a'.eval (.tmp i3)=v3->a'.eval (.tmp i4)=v4->a'.eval (.tmp i5)=v5->a'.eval (.tmp i6)=v6->a'.eval (.tmp i7)=v7->a'.eval (.tmp i8)=v8->a'.eval (.tmp i9)=v9->a'.eval (.tmp i10)=v10->a'.eval (.tmp i11)=v11->X)(e0:d≠i0:=by decide)(e1:d≠i1:=by decide)(e2:d≠i2:=by decide)(e3:d≠i3:=by decide)(e4:d≠i4:=by decide)(e5:d≠i5:=by decide)(e6:d≠i6:=by decide)(e7:d≠i7:=by decide)(e8:d≠i8:=by decide)(e9:d≠i9:=by decide)(Vx:d≠i10:=by decide)(e11:d≠i11:=by decide):X:=K (u.s.trans hs) (u.r.trans hd) ((u.n _ e0).trans h0) ((u.n _ e1).trans h1) ((u.n _ e2).trans h2) ((u.n _ e3).trans h3) ((u.n _ e4).trans h4) ((u.n _ e5).trans h5) ((u.n _ e6).trans h6) ((u.n _ e7).trans h7) ((u.n _ e8).trans h8) ((u.n _ e9).trans h9) ((u.n _ Vx).trans aM) ((u.n _ e11).trans aH)
theorem t13{i0 i1 i2 i3 i4 i5 i6 i7 i8 i9 i10 i11 i12:Nat}{v0 v1 v2 v3 v4 v5 v6 v7 v8 v9 v10 v11 v12:Value}(u:Ua a a' d)(hs:a.tmps.size=m)(hd:a.defers=D)(h0:a.eval (.tmp i0)=v0)(h1:a.eval (.tmp i1)=v1)(h2:a.eval (.tmp i2)=v2)(h3:a.eval (.tmp i3)=v3)(h4:a.eval (.tmp i4)=v4)(h5:a.eval (.tmp i5)=v5)(h6:a.eval (.tmp i6)=v6)(h7:a.eval (.tmp i7)=v7)(h8:a.eval (.tmp i8)=v8)(h9:a.eval (.tmp i9)=v9)(aM:a.eval (.tmp i10)=v10)(aH:a.eval (.tmp i11)=v11)(aJ:a.eval (.tmp i12)=v12)(K:a'.tmps.size=m->a'.defers=D->a'.eval (.tmp i0)=v0->a'.eval (.tmp i1)=v1->a'.eval (.tmp i2)=v2->a'.eval (.tmp i3)=v3->a'.eval (.tmp i4)=v4->a'.eval (.tmp i5)=v5->a'.eval (.tmp i6)=v6->a'.eval (.tmp i7)=v7->a'.eval (.tmp i8)=v8->a'.eval (.tmp i9)=v9->a'.eval (.tmp i10)=v10->a'.eval (.tmp i11)=v11->a'.eval (.tmp i12)=v12->X)(e0:d≠i0:=by decide)(e1:d≠i1:=by decide)(e2:d≠i2:=by decide)(e3:d≠i3:=by decide)(e4:d≠i4:=by decide)(e5:d≠i5:=by decide)(e6:d≠i6:=by decide)(e7:d≠i7:=by decide)(e8:d≠i8:=by decide)(e9:d≠i9:=by decide)(Vx:d≠i10:=by decide)(e11:d≠i11:=by decide)(e12:d≠i12:=by decide):X:=K (u.s.trans hs) (u.r.trans hd) ((u.n _ e0).trans h0) ((u.n _ e1).trans h1) ((u.n _ e2).trans h2) ((u.n _ e3).trans h3) ((u.n _ e4).trans h4) ((u.n _ e5).trans h5) ((u.n _ e6).trans h6) ((u.n _ e7).trans h7) ((u.n _ e8).trans h8) ((u.n _ e9).trans h9) ((u.n _ Vx).trans aM) ((u.n _ e11).trans aH) ((u.n _ e12).trans aJ)
end
section
variable {w:World} {a:Act} {c x y:Code}
theorem eZ(e:c=.skip)(K:Loc P main Stop V (G (b.at a k) cs) w):Loc P main Stop V (G (b.at a (.code c::k)) cs) w:=by subst e;exact l_skip K
theorem bg(e:c=.seq x y)(K:Loc P main Stop V (G (b.at a (.code x::.code y::k)) cs) w):Loc P main Stop V (G (b.at a (.code c::k)) cs) w:=by subst e;exact aPr K
theorem tQ{id:Nat}(e:c=.block id x)(K:Loc P main Stop V (G (b.at a (.code x::.inBlock id::k)) cs) w):Loc P main Stop V (G (b.at a (.code c::k)) cs) w:=by subst e;exact axN K
theorem anr(e:c=.loop x)(K:Loc P main Stop V (G (b.at a (.code x::.inLoop x::k)) cs) w):Loc P main Stop V (G (b.at a (.code c::k)) cs) w:=by subst e;exact aEf K
theorem Vy{id:Nat}{k':List Item}(e:c=.exit id)(h:exitTo id k=some k')(K:Loc P main Stop V (G (b.at a k') cs) w):Loc P main Stop V (G (b.at a (.code c::k)) cs) w:=by subst e;exact aEg h K
theorem dg(e:c=.ret)(K:∀todo,Loc P main Stop V (G {b.at a todo with mode:=.returning} cs) w):Loc P main Stop V (G (b.at a (.code c::k)) cs) w:=by subst e;exact aPs (K _)
theorem aF{id:Nat}{ops:Array Oper}{l:List Nat}(e:c=.region id ops false)(r:List.range ops.size=l)(K:Loc P main Stop V (G (b.at a (.inRegion ops l::k)) cs) w):Loc P main Stop V (G (b.at a (.code c::k)) cs) w:=by subst e;subst r;exact ank K
theorem fH{o:Operand}(e:c=.cond o x y)(h:a.eval o=.bool true)(K:Loc P main Stop V (G (b.at a (.code x::k)) cs) w):Loc P main Stop V (G (b.at a (.code c::k)) cs) w:=by subst e;exact l_cond h K
theorem eo{o:Operand}(e:c=.cond o x y)(h:a.eval o=.bool false)(K:Loc P main Stop V (G (b.at a (.code y::k)) cs) w):Loc P main Stop V (G (b.at a (.code c::k)) cs) w:=by subst e;exact l_cond h K
theorem akX{o:Operand}{t:Bool}(M:Act->Prop)(e:c=.cond o x y)(h:a.eval o=.bool t)
  (hx:t=true->(∀a',M a'->Loc P main Stop V (G (b.at a' k) cs) w)->Loc P main Stop V (G (b.at a (.code x::k)) cs) w)
  (hy:t=false->(∀a',M a'->Loc P main Stop V (G (b.at a' k) cs) w)->Loc P main Stop V (G (b.at a (.code y::k)) cs) w)
  (K:∀a',M a'->Loc P main Stop V (G (b.at a' k) cs) w):Loc P main Stop V (G (b.at a (.code c::k)) cs) w:=by
 cases t with
 |true=>exact fH e h (hx rfl K)
 |false=>exact eo e h (hy rfl K)
variable {ops:Array Oper} {d:Nat} {rest:List Nat} {o:Oper} {v:Value}
theorem w_y(ho:ops[i]? =some o)(hw:Region.wanted o (yielded ops a.tmps)=true)(hk:b.kind≠.early)(hd:o.dst=some d)(aU:d<a.tmps.size)(hy:Yl P V w o a v)
  (K:∀a',a'.tmps.size=a.tmps.size->a'.defers=a.defers->(∀j,d≠j->a'.eval (.tmp j)=a.eval (.tmp j))->a'.eval (.tmp d)=v->Loc P main Stop V (G (b.at a' (.inRegion ops rest::k)) cs) w):
  Loc P main Stop V (G (b.at a (.inRegion ops (i::rest)::k)) cs) w:=
 l_y ho hw hk hy fun a' u=>K a' u.size u.defers (fun j hj=>u.ne j (by rw [hd];intro h;exact hj (Option.some.inj h))) (u.eq d hd aU)
theorem bp{op:Op}{m:Nat}(p:KO ops i op (some d) none)(hk:b.kind≠.early)(hs:a.tmps.size=m)(hy:Yl P V w (nR ops i) a v)
  (K:∀a',Ua a a' d->a'.eval (.tmp d)=v->Loc P main Stop V (G (b.at a' (.inRegion ops rest::k)) cs) w)(hm:d<m:=by decide):
  Loc P main Stop V (G (b.at a (.inRegion ops (i::rest)::k)) cs) w:=w_y p.a p.f hk p.d (by rw [hs];exact hm) hy fun a' x y z h=>K a' ⟨x,y,z⟩ h
theorem sJ{op:Op}{m j dj:Nat}{t x:Bool}(p:KO ops i op (some d) (some (j,t)))(hj:(ops[j]?).bind (·.dst)=some dj)(h:a.eval (.tmp dj)=.bool x)(hk:b.kind≠.early)(hs:a.tmps.size=m)(hy:Yl P V w (nR ops i) a v)
  (K:∀a',Ua a a' d->a'.eval (.tmp d)=v->Loc P main Stop V (G (b.at a' (.inRegion ops rest::k)) cs) w)(hx:(x==t)=true:=by rfl)(hm:d<m:=by decide):
  Loc P main Stop V (G (b.at a (.inRegion ops (i::rest)::k)) cs) w:=w_y p.a ((ax p.g hj h).trans hx) hk p.d (by rw [hs];exact hm) hy fun a' x y z h=>K a' ⟨x,y,z⟩ h
theorem xq(ho:ops[i]? =some o)(hw:Region.wanted o (yielded ops a.tmps)=false)(hd:o.dst=some d)
  (K:∀a',a'.tmps.size=a.tmps.size->a'.defers=a.defers->(∀j,d≠j->a'.eval (.tmp j)=a.eval (.tmp j))->Loc P main Stop V (G (b.at a' (.inRegion ops rest::k)) cs) w):
  Loc P main Stop V (G (b.at a (.inRegion ops (i::rest)::k)) cs) w:=
 l_u ho hw fun a' u=>K a' u.size u.defers (fun j hj=>u.ne j (by rw [hd];intro h;exact hj (Option.some.inj h)))
end
section
variable {w:World} {o:Oper} {a:Act} {x:Operand}
theorem aB{s:TypeId}{fs:Array Field}{n:Nat}{f:Field}{ad:Addr}(aE:o.op=.fieldAddr s x n)(hx:a.eval x=.pointer (some ad))(hs:P.underlying s=some (.struct fs))(hf:fs[n]? =some f){n0:Nat}(hz:∀w:World,(sizeOf f.type).run P w=.ok n0 w)(hn0:n0≠0)(hp:ad.spot=none):
  Yl P V w o a (.pointer (some ⟨ad.block,ad.off+f.offset,none⟩)):=.pure fun w₁=>by
 obtain⟨bl,off,sp⟩:=ad;simp only at hp;subst hp;simp [execOp,aE,hx,Instr.fieldAt,run_underlying hs,hf,Instr.sureAddr,fieldPlace,hz,hn0,Addr.add,Result.andThen,Result.evThen]
theorem jm{src dst t:TypeId}{ad:Addr}{c:Array Value}{e:TypeId}{fr:Nat×Nat}(aE:o.op=.convert src dst x)(hx:a.eval x=.pointer (some ad))(hs:P.underlying src=some (.pointer t))(hd:P.underlying dst=some .unsafePointer)
  (fO:(P.info? t).map (fun i=>decide (i.size=0))=some false)(hb:w.heap[ad.block]? =some (.cells c e fr))(aU:ad.off<c.size)(hp:ad.spot=none):Yl P V w o a (.pointer (some ad)):=fun w₁ hr=>by
 obtain⟨c',h1,h2⟩:=hr.kind _ _ _ _ hb;have hc:w₁.cell? ad=some c'[ad.off]:=by simp [World.cell?,h1,hp,h2,aU]
 have e1:=run_convert_to_unsafe hs hd fO hc;have e2:=events_convert_to_unsafe hs hd fO hc #[];exact⟨by simp [execOp,aE,hx,e1],fun ev he=>by simp [execOp,aE,hx,e1,e2]at he⟩
end
def View.hears(V:View)(d:Nat):View:={V with deaf:=d}
theorem sK(V:View){w w':World}(h:w'.heap.size=w.heap.size)(d:Nat):V.grow (fun b=>w.heap.size<=b/\b<w'.heap.size) d=V.hears d:=by
 have:(fun b=>V.own b\/(w.heap.size<=b/\b<w'.heap.size))=V.own:=by
  funext b;apply propext;constructor
  ·rintro(x|⟨x,y⟩)
   ·exact x
   ·omega
  ·exact .inl
 simp only [View.hears,View.grow,this]
theorem aP.hears{V:View}{w w₁:World}(h:aP V w w₁)(d:Nat):aP (V.hears d) w w₁:=⟨h.tape,h.output,h.os,h.size,h.kind,h.own,h.cell⟩
section
variable {w:World} {a:Act}
variable {f:FuncId} {fn:Func} {ops:Array Oper} {d:Nat} {rest:List Nat} {o:Oper} {az:Array Operand}
theorem mY(m:Mark)(d':Nat)(hm:m=.disable/\d'=V.deaf+1\/m=.enable/\d'=V.deaf-1)(ho:ops[i]? =some o)(hw:Region.wanted o (yielded ops a.tmps)=true)(hk:b.kind≠.early)(hd:o.dst=some d)
  (aE:o.op=.call {callee:=.value (.func f),args:=az,argTypes:=gY})(hf:P.funcs[f]? =some fn)(jq:(fn.name== "runtime.NumGoroutine")=false)(hb:fn.body.isNone=true)(hn:Extern.findNext fn=none)
  (he:Extern.find fn=some (fun _=>do mark m;pure Extern.Race.none_))
  (K:∀a',a'.tmps.size=a.tmps.size->a'.defers=a.defers->(∀j,d≠j->a'.eval (.tmp j)=a.eval (.tmp j))->Loc P main Stop (V.hears d') (G (b.at a' (.inRegion ops rest::k)) cs) w):
  Loc P main Stop V (G (b.at a (.inRegion ops (i::rest)::k)) cs) w:=by
 refine Loc.step rfl fun w₁ hr=>?_;have u:=bj a o.dst (.tuple #[]);refine⟨_,_,_,_,stepG_mark0 m (fun g=>by rcases hm with ⟨rfl,_⟩|⟨rfl,_⟩<;>simp) ho hw hk aE hf jq hb hn he,?_,(K _ u.size u.defers (fun j hj=>u.ne j (by rw [hd];intro h;exact hj (Option.some.inj h)))).rely (hr.hears d')⟩
 refine⟨rfl,rfl,.refl _,Nat.le_refl _,.refl _,fun _ _ _ _=>rfl,fun _ _ _ _=>rfl,?_,?_⟩
 ·rw [sK V rfl];rcases hm with ⟨rfl,rfl⟩|⟨rfl,rfl⟩<;>simp [deafBehind]
 ·intro e h;simp at h;subst h;rcases hm with ⟨rfl,_⟩|⟨rfl,_⟩
  ·exact .inr (.inr (.inr (.inl rfl)))
  ·exact .inr (.inr (.inr (.inr rfl)))
end
def Oper.fI(o:Oper):List Nat:=(o.after.toList.filter fun e=>Region.binds .any e).map (·.on)
variable {ops:Array Oper}
theorem akY{m:Region.Mode}{e:Edge}(h:Region.binds .any e=true):Region.binds m e=true:=by
 cases e with
 |mk on g=>cases g<;>simp_all [Region.binds]
def unl(n:Nat)(listed:Array Bool):Nat:=((List.range n).filter fun i=>!listed.getD i true).length
theorem filter_lt{p q:Nat->Bool}{i:Nat}:∀{l:List Nat},i∈l->(∀x,q x=true->p x=true)->p i=true->q i=false->(l.filter q).length<(l.filter p).length
 |[],h,_,_,_=>by cases h
 |x::l,h,hpq,hp,hq=>by
  have le:(l.filter q).length<=(l.filter p).length:=by
   clear h;induction l with
   |nil=>simp
   |cons y l ih=>
    by_cases hy:q y=true
    ·simp [hy,hpq y hy,ih]
    ·by_cases hy':p y=true<;>simp [hy,hy']<;>omega
  rcases List.mem_cons.1 h with rfl|h
  ·simp [hp,hq];omega
  ·have:=filter_lt h hpq hp hq;by_cases hx:q x=true
   ·simp [hx,hpq x hx,this]
   ·by_cases jc:p x=true<;>simp [hx,jc]<;>omega
theorem axY{n i:Nat}{listed:Array Bool}(hn:listed.size=n)(hi:i<n)(h:listed.getD i true=false):unl n (listed.setIfInBounds i true)<unl n listed:=by
 refine filter_lt (i:=i) (List.mem_range.2 hi) (fun x hx=>?_) (by simp [h]) ?_
 ·simp only [Array.getD_eq_getD_getElem?,Bool.not_eq_true']at hx⊢;by_cases e:i=x
  ·subst e;rw [Array.getElem?_setIfInBounds_self_of_lt (by omega)]at hx;simp at hx
  ·rwa [Array.getElem?_setIfInBounds_ne e]at hx
 ·simp [Array.getD_eq_getD_getElem?,Array.getElem?_setIfInBounds_self_of_lt (show i<listed.size by omega)]
structure dB(Γ:Rc)(k:Nat)(V:View):Prop where
 own:¬V.own (Γ.src k)
 cell:∀a:Addr,V.ro a\/V.wc a->a.block=Γ.src k->a.off≠2/\a.off≠3
section
variable {k:Nat} {w:World} {wd iZ:Wd} {sm:Nat}
theorem gq.rely(h:gq Γ k w w')(n:dB Γ k V):aP V w w':=
 ⟨h.tape,h.output,by rw [h.os];exact .refl _,Nat.le_of_eq h.size.symm,h.kind,fun b hb=>h.block b fun e=>n.own (e▸hb),fun a ha=>by
  by_cases hb:a.block=Γ.src k
  ·have:=n.cell a ha hb;exact h.cell a hb this.1 this.2
  ·simp only [World.cell?,h.block _ hb]⟩
theorem gq.refl(w:World):gq Γ k w w:=⟨rfl,rfl,rfl,rfl,.refl w,fun _ _=>rfl,fun _ _ _ _=>rfl⟩
theorem dw.word(h:dw Γ k w wd sm):w.cell? (eC Γ k)=some (.int .i32 (wz wd)):=by
 obtain⟨c,ty,h1,h2,_⟩:=h;simp [World.cell?,eC,h1,h2]
theorem dw.sema(h:dw Γ k w wd sm):w.cell? (lkS Γ k)=some (.int .u32 sm):=by
 obtain⟨c,ty,h1,_,h3⟩:=h;simp [World.cell?,lkS,h1,h3]
theorem dw.thaw(h:dw Γ k w wd sm)(off:Nat):w.frozen? ⟨Γ.src k,off,none⟩=false:=by
 obtain⟨c,ty,h1,_⟩:=h;simp [World.frozen?,h1]
theorem jr(h:dw Γ k w wd sm)(off:Nat)(ho:off=2\/off=3)(v:Value):gq Γ k w (w.setCell ⟨Γ.src k,off,none⟩ v):=by
 have hs:=aside_setCell w ⟨Γ.src k,off,none⟩ v;obtain⟨c,ty,h1,_⟩:=h;refine⟨hs.tape,hs.output,hs.os,hs.size,fun b c' e fr hb=>?_,fun b hb=>hs.block b hb,fun a ha h2 h3=>?_⟩
 ·by_cases hbb:b=Γ.src k
  ·subst hbb;rw [h1]at hb;cases hb;have:=cZ w ⟨Γ.src k,off,none⟩ v;simp only [h1]at this;exact⟨_,this,by simp⟩
  ·exact⟨c',by rw [hs.block b hbb];exact hb,rfl⟩
 ·have:=cZ w ⟨Γ.src k,off,none⟩ v;simp only [h1]at this;simp only [World.cell?,ha,this,h1,Option.map_some];have cM:off≠a.off:=by rcases ho with rfl|rfl<;>omega
  simp [Array.getElem?_setIfInBounds_ne cM]
theorem dw.aay(h:dw Γ k w wd sm)(iZ:Wd):dw Γ k (w.setCell (eC Γ k) (.int .i32 (wz iZ))) iZ sm:=by
 obtain⟨c,ty,h1,h2,h3⟩:=h;have:=cZ w (eC Γ k) (.int .i32 (wz iZ));simp only [eC,h1]at this;have aU:2<c.size:=(Array.getElem?_eq_some_iff.1 h2).1;refine⟨_,ty,this,?_,?_⟩
 ·simp [aU]
 ·simp [h3]
theorem dw.aaz(h:dw Γ k w wd sm)(n:Nat):dw Γ k (w.setCell (lkS Γ k) (.int .u32 n)) wd n:=by
 obtain⟨c,ty,h1,h2,h3⟩:=h;have:=cZ w (lkS Γ k) (.int .u32 n);simp only [lkS,h1]at this;have aU:3<c.size:=(Array.getElem?_eq_some_iff.1 h3).1;refine⟨_,ty,this,?_,?_⟩
 ·simp [h2]
 ·simp [aU]
end
section
variable {k:Nat} {e:En} {f:Fz} {w:World} {a:Act} {kk:List Item} {d:Nat} {rest:List Nat} {o:Oper}
abbrev mZ(X:Tag->View->Goroutine->World->Prop)(q:Tag->Prop)(V:View)(b:Frame)(a:Act)(ops:Array Oper)(rest:List Nat)(kk:List Item)(cs:List Frame)(w:World)(d:Nat)(v:Value):Prop:=
 ∀a',a'.tmps.size=a.tmps.size->a'.defers=a.defers->(∀j,d≠j->a'.eval (.tmp j)=a.eval (.tmp j))->a'.eval (.tmp d)=v->bf X q V (G (b.at a' (.inRegion ops rest::kk)) cs) w
theorem mZ.at{q:Tag->Prop}{v:Value}(K:mZ X q V b a ops rest kk cs w d v)(hd:o.dst=some d)(aU:d<a.tmps.size):bf X q V (G (b.at (a.put o.dst v) (.inRegion ops rest::kk)) cs) w:=by
 have u:=bj a o.dst v;exact K _ u.size u.defers (fun j hj=>u.ne j (by rw [hd];intro h;exact hj (Option.some.inj h))) (u.eq d hd aU)
theorem ant{b:Frame}{a:Act}{kk:List Item}{cs:List Frame}{ops:Array Oper}{i:Nat}{rest:List Nat}{o:Oper}{xs:Array Operand}{gY:Array TypeId}{f:FuncId}{fn:Func}(ho:ops[i]? =some o)(aE:o.op=.call {callee:=.value (.func f),args:=xs,argTypes:=gY})
  (hf:prog.funcs[f]? =some fn)(hb:fn.body.isNone=true):mayWake prog (G (b.at a (.inRegion ops (i::rest)::kk)) cs)=true:=by
 have FL:fn.body.isSome=false:=by cases h:fn.body<;>simp [h]at hb⊢
 simp [mayWake,G,Frame.at,ho,aE,Frame.eval,hf,FL]
theorem aaA{h:Bool}{xs:Array Operand}(hV:V.deaf=1)(gU:k<Γ.ns)(n:dB Γ k V)(ho:ops[i]? =some o)(hg:o.guard=none)(hk:b.kind≠.early)(hd:o.dst=some d)(aU:d<a.tmps.size)
  (aE:o.op=.call {callee:=.value (.func 110),args:=xs,argTypes:=gY})(hx:(xs.map a.eval)[0]? =some (.pointer (some (lkS Γ k))))
  (K:mZ X (Next Γ e f) V b a ops rest kk cs w d (.tuple #[])):Vw Γ X ⟨e,f,.lk k (.sB h)⟩ V (G (b.at a (.inRegion ops (i::rest)::kk)) cs) w:=by
 refine⟨rfl,hV,trivial,gU,fun w₁ wd sm hr ha hs _=>⟨fun x=>(by cases x),fun _=>ant ho aE func110 amQ,fun _=>?_⟩⟩
 have bF:=stepG_semrelease (P:=prog) (main:=false) (kk:=kk) (cs:=cs) (rest:=rest) ho (gO hg) hk aE func110 aDU amQ aDV aDW hx ha.sema (ha.thaw 3);have e1:IntKind.u32.wrap ((sm:Int)+1)=((sm+1:Nat):Int):=by
  have:((sm:Int)+1) % 4294967296=(sm:Int)+1:=Int.emod_eq_of_lt (by omega) (by omega)
  simp [IntKind.wrap,IntKind.bits,IntKind.signed,this]
 rw [e1]at bF;exact⟨_,_,_,wd,sm+1,_,_,bF,.sB,ha.aaz _,jr ha 3 (.inr rfl) _,.inr (.inr (.inr rfl)),(K.at hd aU).rely (hr.trans ((jr ha 3 (.inr rfl) _).rely n))⟩
theorem Hh{p:LP}{x y z:Operand}{old new:Wd}(hp:p.ok)(hps:p≠.yK)(hV:V.deaf=1)(gU:k<Γ.ns)(n:dB Γ k V)(ho:ops[i]? =some o)(hw:Region.wanted o (yielded ops a.tmps)=true)(hk:b.kind≠.early)(hd:o.dst=some d)(aU:d<a.tmps.size)
  (aE:o.op=.call {callee:=.value (.func 97),args:=#[x,y,z],argTypes:=gY})(hx:a.eval x=.pointer (some (eC Γ k)))(hy:a.eval y=.int .i32 (wz old))(hz:a.eval z=.int .i32 (wz new))
  (Kh:∀sm,Told p.role old->∃r' to,Out p old sm new sm r' to/\mZ X (rY Γ e f k to) V b a ops rest kk cs w d (.bool true))
  (Km:∀wd sm,wd≠old->Told p.role wd->∃r' to,Out p wd sm wd sm r' to/\mZ X (rY Γ e f k to) V b a ops rest kk cs w d (.bool false)):
  Vw Γ X ⟨e,f,.lk k p⟩ V (G (b.at a (.inRegion ops (i::rest)::kk)) cs) w:=by
 refine⟨rfl,hV,hp,gU,fun w₁ wd sm hr ha hs ht=>⟨fun h=>absurd h hps,fun _=>ant ho aE func97 amH,fun _=>?_⟩⟩;by_cases h:wd=old
 ·subst h;obtain⟨r',to,h1,h2⟩:=Kh sm ht;have bF:=stepG_cas_hit (P:=prog) (main:=false) (kk:=kk) (cs:=cs) (rest:=rest) ho hw hk aE func97 aAC amH aAD .i32 aAE hx hy hz ha.word (ha.thaw 2);exact⟨_,_,_,new,sm,r',to,bF,h1,ha.aay _,jr ha 2 (.inl rfl) _,.inr (.inr (.inl rfl)),(h2.at hd aU).rely (hr.trans ((jr ha 2 (.inl rfl) _).rely n))⟩
 ·obtain⟨r',to,h1,h2⟩:=Km wd sm h ht;have bF:=stepG_cas_miss (P:=prog) (main:=false) (kk:=kk) (cs:=cs) (rest:=rest) ho hw hk aE func97 aAC amH aAD .i32 aAE hx hy hz ha.word (ha.thaw 2) (fun q=>h (aEl q));exact⟨_,_,_,wd,sm,r',to,bF,h1,ha,.refl _,.inr (.inl rfl),(h2.at hd aU).rely hr⟩
theorem tR{P:Program}{fn:FuncId}{o:Oper}{w:World}{ad:Addr}(hq:(P.funcs[fn]?).any (·.norace)=true)(he:(execOp a.eval o).events P w #[]=#[⟨.cell ad,false,false⟩]):listed P fn a o w=#[]:=by
 unfold listed;rw [he,seen_def,hq];rfl
theorem tS{p:LP}{x:Operand}(hp:p.ok)(hps:p≠.yK)(hV:V.deaf=1)(gU:k<Γ.ns)(ho:ops[i]? =some o)(hw:Region.wanted o (yielded ops a.tmps)=true)(hk:b.kind≠.early)(hq:(prog.funcs[b.fn]?).any (·.norace)=true)(hd:o.dst=some d)(aU:d<a.tmps.size)
  (aE:o.op=.load 21 x)(hx:a.eval x=.pointer (some (eC Γ k)))
  (K:∀wd sm,Told p.role wd->∃r' to,Out p wd sm wd sm r' to/\mZ X (rY Γ e f k to) V b a ops rest kk cs w d (.int .i32 (wz wd))):
  Vw Γ X ⟨e,f,.lk k p⟩ V (G (b.at a (.inRegion ops (i::rest)::kk)) cs) w:=by
 refine⟨rfl,hV,hp,gU,fun w₁ wd sm hr ha hs ht=>⟨fun h=>absurd h hps,fun⟨h,e⟩=>(by obtain⟨r',to,h1,_⟩:=K wd sm ht;subst e;cases h1),fun _=>?_⟩⟩
 obtain⟨r',to,h1,h2⟩:=K wd sm ht;have hc:=ha.word;have e1:(Instr.loadAt 21 (.pointer (some (eC Γ k)))).run prog w₁=.ok (.int .i32 (wz wd)) w₁:=by go_simp
 have e2:(Instr.loadAt 21 (.pointer (some (eC Γ k)))).events prog w₁ #[]=#[⟨.cell (eC Γ k),false,false⟩]:=by simp [go_sem,hc]
 have cr:(execOp a.eval o).run prog w₁=.ok (.value (.int .i32 (wz wd))) w₁:=by simp [execOp,aE,hx,e1]
 have bF:=stepG_value (P:=prog) (main:=false) (k:=kk) (cs:=cs) (rest:=rest) ho hw hk cr;rw [tR (ad:=eC Γ k) hq (by simp [execOp,aE,hx,e1,e2])]at bF
 exact⟨_,_,_,wd,sm,r',to,bF,h1,ha,.refl _,.inl rfl,(h2.at hd aU).rely hr⟩
theorem anu{p:LP}{x y:Operand}{δ:Int}(hp:p.ok)(hps:p≠.yK)(hV:V.deaf=1)(gU:k<Γ.ns)(n:dB Γ k V)(ho:ops[i]? =some o)(hw:Region.wanted o (yielded ops a.tmps)=true)(hk:b.kind≠.early)(hd:o.dst=some d)(aU:d<a.tmps.size)
  (aE:o.op=.call {callee:=.value (.func 99),args:=#[x,y],argTypes:=gY})(hx:a.eval x=.pointer (some (eC Γ k)))(hy:a.eval y=.int .i32 δ)
  (K:∀wd sm,Told p.role wd->∃iZ r' to,IntKind.i32.wrap (wz wd+δ)=wz iZ/\Out p wd sm iZ sm r' to/\mZ X (rY Γ e f k to) V b a ops rest kk cs w d (.int .i32 (wz iZ))):
  Vw Γ X ⟨e,f,.lk k p⟩ V (G (b.at a (.inRegion ops (i::rest)::kk)) cs) w:=by
 refine⟨rfl,hV,hp,gU,fun w₁ wd sm hr ha hs ht=>⟨fun h=>absurd h hps,fun _=>ant ho aE func99 aAF,fun _=>?_⟩⟩;obtain⟨iZ,r',to,h0,h1,h2⟩:=K wd sm ht;have bF:=stepG_add_atomic (P:=prog) (main:=false) (kk:=kk) (cs:=cs) (rest:=rest) ho hw hk aE func99 aPa aAF aPb .i32 aPc hx hy ha.word (ha.thaw 2);rw [h0]at bF;exact⟨_,_,_,iZ,sm,r',to,bF,h1,ha.aay _,jr ha 2 (.inl rfl) _,.inr (.inr (.inl rfl)),(h2.at hd aU).rely (hr.trans ((jr ha 2 (.inl rfl) _).rely n))⟩
theorem aEr{xs:Array Operand}(hV:V.deaf=1)(gU:k<Γ.ns)(n:dB Γ k V)(ho:ops[i]? =some o)(hg:o.guard=none)(hk:b.kind≠.early)(hd:o.dst=some d)(aU:d<a.tmps.size)
  (aE:o.op=.call {callee:=.value (.func 108),args:=xs,argTypes:=gY})(hx:(xs.map a.eval)[0]? =some (.pointer (some (lkS Γ k))))
  (K:mZ X (rY Γ e f k (.on fun p=>p=.ldw)) V b a ops rest kk cs w d (.tuple #[])):Vw Γ X ⟨e,f,.lk k .yK⟩ V (G (b.at a (.inRegion ops (i::rest)::kk)) cs) w:=by
 refine⟨rfl,hV,trivial,gU,fun w₁ wd sm hr ha hs _=>⟨fun _ h0=>?_,fun⟨h,e⟩=>(by cases e),fun hn=>?_⟩⟩
 ·subst h0;exact⟨rfl,stepG_semacquire_wait ho (gO hg) aE func108 amM amN amO amP hx ha.sema⟩
 ·cases sm with
  |zero=>exact absurd ⟨rfl,rfl⟩ hn
  |succ sm=>
   have bF:=stepG_semacquire (P:=prog) (main:=false) (kk:=kk) (cs:=cs) (rest:=rest) ho (gO hg) hk aE func108 amM amN amO amP hx ha.sema (by simp;omega) (ha.thaw 3)
   have e1:((sm+1:Nat):Int)-1=(sm:Int):=by omega
   rw [e1]at bF;exact⟨_,_,_,wd,sm,_,_,bF,.yK,ha.aaz _,jr ha 3 (.inr rfl) _,.inr (.inr (.inr rfl)),(K.at hd aU).rely (hr.trans ((jr ha 3 (.inr rfl) _).rely n))⟩
end
theorem aP.thaw{V:View}{w w₁:World}(h:aP V w w₁){ad:Addr}{v:Value}(hc:w.cell? ad=some v):w₁.frozen? ad=w.frozen? ad:=by
 unfold World.cell? at hc;cases hb:w.heap[ad.block]? with
 |none=>rw [hb]at hc;cases hc
 |some o=>
  rw [hb]at hc;cases o with
  |cells c e fr=>
   obtain⟨c',h1,h2⟩:=h.kind _ _ _ _ hb;simp [World.frozen?,hb,h1]
  |_=>cases hc
def anv:Conc.Lib.WgLink:={add:=24,done:=26,wait:=28,relMerge:=36,disable:=37,enable:=38,inBubble:=39,associate:=40,fatal:=41,uOr:=42,uAdd:=43,raceRead:=44,uLoad:=45,uStore:=46,disassociate:=47,semrelease:=48,acquire:=52,isAssociated:=53,uCas:=54,raceWrite:=55,semacquire:=56,orU64:=69,addU64:=70,loadU64:=71,storeU64:=72,casU64:=77,tWgP:=94,tUP:=96,tAssoc:=97,tWg:=85,tAU:=83,tU64:=81,tUint:=90,tU32:=54,tPU32:=101,tPAU:=127,tPU64:=129,tNoCopy:=53,tANoCopy:=79,tAlign64:=80}
theorem aPx:Conc.Lib.WgLib prog anv:=
 ⟨func24,func26,func28,func36,func37,func38,func39,func40,func41,func42,func43,func44,func45,func46,func47,func48,func52,func53,func54,func55,func56,func69,func70,func71,func72,func77,
 underlying94,Tryz.runUnderlying94,sizeOf94,isAgg94,Tryz.zeroValue94,underlying96,Tryz.runUnderlying96,sizeOf96,isAgg96,Tryz.zeroValue96,underlying97,Tryz.runUnderlying97,sizeOf97,isAgg97,Tryz.zeroValue97,underlying85,Tryz.runUnderlying85,sizeOf85,isAgg85,Tryz.zeroValue85,underlying83,Tryz.runUnderlying83,sizeOf83,isAgg83,Tryz.zeroValue83,underlying81,Tryz.runUnderlying81,sizeOf81,isAgg81,Tryz.zeroValue81,underlying90,Tryz.runUnderlying90,sizeOf90,isAgg90,Tryz.zeroValue90,underlying54,Tryz.runUnderlying54,sizeOf54,isAgg54,Tryz.zeroValue54,underlying101,Tryz.runUnderlying101,sizeOf101,isAgg101,Tryz.zeroValue101,underlying127,Tryz.runUnderlying127,sizeOf127,isAgg127,Tryz.zeroValue127,underlying129,Tryz.runUnderlying129,sizeOf129,isAgg129,Tryz.zeroValue129,underlying0,Tryz.runUnderlying0,sizeOf0,isAgg0,Tryz.zeroValue0,underlying3,Tryz.runUnderlying3,sizeOf3,isAgg3,Tryz.zeroValue3,underlying4,Tryz.runUnderlying4,sizeOf4,isAgg4,Tryz.zeroValue4,underlying9,Tryz.runUnderlying9,sizeOf9,isAgg9,Tryz.zeroValue9,underlying20,Tryz.runUnderlying20,sizeOf20,isAgg20,Tryz.zeroValue20,underlying21,Tryz.runUnderlying21,sizeOf21,isAgg21,Tryz.zeroValue21,(by kernel_rfl),(by kernel_rfl)⟩
open Go.ConcR (stA smA)
def bD(V:View)(a:Touch):Prop:=match a.loc with
 |.cell ad=>V.own ad.block\/V.wc ad\/(V.ro ad/\a.write=true)
 |.obj r=>V.own r
 |_=>False
def may(V:View)(b:Touch):Prop:=match b.loc with
 |.cell ad=>V.own ad.block\/V.wc ad\/(b.write=false/\V.ro ad)
 |.obj r=>V.own r
 |_=>False
theorem Ca{V:View}{a b:Touch}(h:may V b)(e:a.loc=b.loc)(hw:a.write=true\/b.write=true):bD V a:=by
 unfold may at h;unfold bD;rw [e];cases hl:b.loc with
 |cell ad=>
  rw [hl]at h;rcases h with h|h|⟨h1,h2⟩
  ·exact .inl h
  ·exact .inr (.inl h)
  ·exact .inr (.inr ⟨h2,hw.resolve_right (by rw [h1];simp)⟩)
 |obj r=>rw [hl]at h;exact h
 |_=>rw [hl]at h;exact h
theorem tT{V W:View}{b:Touch}(h:may V b)(ha:Apart V W):¬bD W b:=by
 unfold may at h;unfold bD;cases hl:b.loc with
 |cell ad=>
  rw [hl]at h;rintro(x|x|⟨x,y⟩)
  ·rcases h with h|h|⟨_,h⟩
   ·exact ha.own _ h x
   ·exact(ha.wc _ h).2.2 x
   ·exact ha.ro _ h x
  ·rcases h with h|h|⟨_,h⟩
   ·exact(ha.mX _ x).2.2 h
   ·exact(ha.mX _ x).1 h
   ·exact(ha.mX _ x).2.1 h
  ·rcases h with h|h|⟨h,_⟩
   ·exact ha.ro' _ x h
   ·exact(ha.wc _ h).2.1 x
   ·rw [h]at y;cases y
 |obj r=>rw [hl]at h;exact ha.own _ h
 |_=>exact id
theorem Vz{V W:View}{b:Touch}(h:bD V b)(hw:∀ad,b.loc=.cell ad->¬(V.ro ad/\b.write=true))(ha:Apart V W):¬bD W b:=by
 refine tT (V:=V) ?_ ha;unfold bD at h;unfold may;cases hl:b.loc with
 |cell ad=>
  rw [hl]at h;exact h.elim .inl fun h=>h.elim (fun h=>.inr (.inl h)) fun h=>(hw ad hl h).elim
 |obj r=>rw [hl]at h;exact h
 |_=>rw [hl]at h;exact h
theorem anw{Γ:Rc}{W:View}{b:Touch}(h:bD (aS Γ) b)(ha:Apart (aS Γ) W):¬bD W b:=
 Vz h (fun ad _ hx=>hx.1.elim) ha
def On(n:Nat)(a:Touch):Prop:=match a.loc with
 |.cell ad=>ad.block<n
 |.obj r=>r<n
 |_=>True
theorem yp{V:View}{n n' d:Nat}{a:Touch}(hl:On n a)(h:bD (V.grow (fun b=>n<=b/\b<n') d) a):bD V a:=by
 unfold bD at h⊢;unfold On at hl;cases hx:a.loc with
 |cell ad=>
  rw [hx]at h hl;rcases h with (h|h)|h|h
  ·exact .inl h
  ·simp only at hl;omega
  ·exact .inr (.inl h)
  ·exact .inr (.inr h)
 |obj r=>
  rw [hx]at h hl;rcases h with h|h
  ·exact h
  ·simp only at hl;omega
 |_=>rw [hx]at h;exact h
theorem axZ{n:Nat}{x:MemAct}{a:Touch}(h:x.low n)(ht:x.touch?=some a):On n a:=by
 unfold On;cases x with
 |access e=>simp only [MemAct.touch?,Option.some.injEq]at ht;subst ht;simp only [MemAct.low,Loc.low]at h;revert h;cases e.loc<;>exact id
 |mark m=>cases m<;>simp only [MemAct.touch?,Option.some.injEq,reduceCtorEq]at ht<;>(subst ht;exact h)
 |_=>cases ht
def iP(t:Trace)(x:MemAct)(i:Nat):Prop:=∃p,t.act? p=some x/\t.heard p/\Before t i p
def ll(base:Nat)(t:Trace)(m i:Nat):Prop:=Knows t 0 i/\∀j,j<m->Knows t (base+j) i
def KN(Γ:Rc)(base:Nat)(t:Trace)(m:Nat):Ag->Nat->Prop
 |.main,i=>Knows t 0 i
 |.work j,i=>Knows t (base+j) i
 |.lock k,i=>iP t (.mark (.releaseMerge (eC Γ k))) i\/ll base t m i
 |.mc _,i=>iP t (.mark (.releaseMerge (stA Γ.wg))) i
 |.chan c,i=>iP t (.close c) i
 |.keep j,i=>Knows t (base+j) i
 |.sync,_=>True
 |.past,_=>True
def WK(Γ:Rc)(base:Nat)(rel:Nat->Bool)(t:Trace)(j i:Nat):Prop:=if rel j=true then iP t (.mark (.releaseMerge (stA Γ.wg))) i else Knows t (base+j) i
def Hi(Γ:Rc)(Shun:Go.Loc->Prop)(t:Trace)(i:Nat)(a:Touch):Prop:=
 (Shun a.loc\/bD (aS Γ) a)/\a.kind=.atomic/\(t.heard i->∀g,t.g? i=some g->g≠0->∃q,t.g? q=some 0/\HappensBefore t i q)
structure yY(Γ:Rc)(base:Nat)(Shun:Go.Loc->Prop)(rel:Nat->Bool)(t:Trace)(m n:Nat)(vw:Ag->View):Prop where
 clean:∀said,¬Race said t
 cov:∀A i a,touchAt t i=some a->bD (vw A) a->KN Γ base t m A i
 sync:∀i a,touchAt t i=some a->bD (aS Γ) a->a.kind≠.plain\/ll base t m i
 said:∀i a,touchAt t i=some a->a.kind=.said->Knows t 0 i
 over:∀i a,touchAt t i=some a->a.loc.isMemory=true->Knows t 0 i\/(∃j,j<m/\WK Γ base rel t j i)\/Hi Γ Shun t i a
 low:∀op∈t,op.act.low n
 norel:∀op∈t,∀a,op.act≠.mark (.release a)
section
variable {base n:Nat} {Shun:Go.Loc->Prop} {rel:Nat->Bool} {t u:Trace}
theorem iP.app{x:MemAct}{i:Nat}(u:Trace)(h:iP t x i):iP (t++u) x i:=by
 obtain⟨p,h1,h2,h3⟩:=h;have:=lt_of_act? h1;exact⟨p,by rw [act?_old this];exact h1,(heard_old this).2 h2,h3.app u⟩
theorem ll.app{i:Nat}(u:Trace)(h:ll base t m i):ll base (t++u) m i:=⟨h.1.app u,fun j hj=>(h.2 j hj).app u⟩
theorem KN.app{A:Ag}{i:Nat}(u:Trace)(h:KN Γ base t m A i):KN Γ base (t++u) m A i:=by
 cases A with
 |main=>exact Knows.app u h
 |work j=>exact Knows.app u h
 |lock k=>exact h.imp (iP.app u) (ll.app u)
 |mc j=>exact iP.app u h
 |chan c=>exact iP.app u h
 |keep j=>exact Knows.app u h
 |_=>trivial
theorem WK.app{j i:Nat}(u:Trace)(h:WK Γ base rel t j i):WK Γ base rel (t++u) j i:=by
 unfold WK at h⊢;split at h
 ·next e=>rw [if_pos e];exact iP.app u h
 ·next e=>rw [if_neg e];exact Knows.app u h
theorem Hi.app{i:Nat}{a:Touch}(u:Trace)(hi:i<t.size)(h:Hi Γ Shun t i a):Hi Γ Shun (t++u) i a:=by
 refine⟨h.1,h.2.1,fun h1 g h2 h3=>?_⟩;obtain⟨q,q1,q2⟩:=h.2.2 ((heard_old hi).1 h1) g (by rw [←g?_old hi];exact h2) h3
 have hq:q<t.size:=by
  unfold Trace.g? at q1;obtain⟨op,ho,_⟩:=Option.map_eq_some_iff.1 q1;exact lt_size_of_getElem? ho
 exact⟨q,by rw [g?_old hq];exact q1,hb_app u q2⟩
theorem bS{i:Nat}{a:Touch}(h:touchAt (t++u) i=some a):(i<t.size/\touchAt t i=some a)\/(t.size<=i/\∃op∈u,(t++u)[i]? =some op/\op.act.touch?=some a):=by
 obtain⟨x,hx,mV⟩:=touch_of h;rcases getElem?_append_cases hx with ⟨hi,jc⟩|⟨hi,hxu⟩
 ·exact .inl ⟨hi,by rw [touchAt_of jc];exact mV⟩
 ·exact .inr ⟨hi,x,hxu,hx,mV⟩
theorem yY.On(h:yY Γ base Shun rel t m n vw){i:Nat}{a:Touch}(ha:touchAt t i=some a):YtmcddajniiaieaaGreatDoor.On n a:=by
 obtain⟨x,hx,mV⟩:=touch_of ha;exact axZ (h.low x (mem_of_getElem? hx)) mV
theorem nd{n':Nat}(h:∀op∈t,op.act.low n)(hn:n<=n')(hu:∀op∈u,op.act.low n'):∀op∈t++u,op.act.low n':=fun op aE=>(Array.mem_append.1 aE).elim (fun x=>MemAct.low_mono hn (h op x)) (hu op)
theorem iQ(h:∀op∈t,∀a,op.act≠.mark (.release a))(hu:∀op∈u,∀a,op.act≠.mark (.release a)):∀op∈t++u,∀a,op.act≠.mark (.release a):=fun op aE=>(Array.mem_append.1 aE).elim (h op) (hu op)
def VA(base:Nat):Ag->Nat->Prop
 |.main,g=>g=0
 |.work j,g=>g=base+j
 |_,_=>False
theorem KN.own{A:Ag}{g i:Nat}(hg:VA base A g){op:MemOp}(h:t[i]? =some op)(ho:op.g=g):KN Γ base t m A i:=by
 have:=knows_own h;rw [ho]at this;cases A with
 |main=>cases hg;exact this
 |work j=>cases hg;exact this
 |_=>exact hg.elim
theorem KN.knows{A:Ag}{g i:Nat}(hg:VA base A g)(h:KN Γ base t m A i):Knows t g i:=by
 cases A with
 |main=>cases hg;exact h
 |work j=>cases hg;exact h
 |_=>exact hg.elim
theorem ll.knows{A:Ag}{g i:Nat}(hg:VA base A g)(hj:∀j,A=.work j->j<m)(h:ll base t m i):Knows t g i:=by
 cases A with
 |main=>cases hg;exact h.1
 |work j=>cases hg;exact h.2 j (hj j rfl)
 |_=>exact hg.elim
theorem yY.own(h:yY Γ base Shun rel t m n vw)(hd:gu vw)(hs:vw .sync=aS Γ){A:Ag}{g n' d:Nat}(hg:VA base A g)(hj:∀j,A=.work j->j<m/\rel j=false)(gj:∀B,mP (vw B) n)(hn:n<=n')
  (hu:∀op∈u,op.g=g)(dH:∀op∈u,∀b,op.act.touch?=some b->b.kind≠.said/\may ((vw A).grow (fun x=>n<=x/\x<n') d) b)(hl:∀op∈u,op.act.low n')(hr:∀op∈u,∀a,op.act≠.mark (.release a)):
  yY Γ base Shun rel (t++u) m n' (bx vw A ((vw A).grow (fun x=>n<=x/\x<n') d)):=by
 have hAs:A≠.sync:=by rintro rfl;exact hg
 have VB:∀B,B≠A->YtmcddajniiaieaaGreatDoor.Apart ((vw A).grow (fun x=>n<=x/\x<n') d) (vw B):=fun B hB=>(hd A B fun e=>hB e.symm).grow (gj B) fun b hb=>hb.1;refine⟨fun said=>noRace_append (h.clean said) hu fun i a ha op aE b hb hc=>?_,fun B i a ha yq=>?_,fun i a ha yq=>?_,fun i a ha hk=>?_,fun i a ha hm=>?_,nd h.low hn hl,iQ h.norel hr⟩
 ·obtain⟨_,anx⟩:=dH op aE b hb;exact KN.knows hg (h.cov A i a ha (yp (h.On ha) (Ca anx hc.1 hc.2.2.1)))
 ·rcases bS ha with ⟨hi,og⟩|⟨_,op,aE,hx,mV⟩
  ·refine KN.app u (h.cov B i a og ?_);by_cases hB:B=A
   ·subst hB;rw [bm]at yq;exact yp (h.On og) yq
   ·rwa [bq vw _ hB]at yq
  ·by_cases hB:B=A
   ·subst hB;exact KN.own hg hx (hu op aE)
   ·rw [bq vw _ hB]at yq;exact(tT (dH op aE a mV).2 (VB B hB) yq).elim
 ·rcases bS ha with ⟨hi,og⟩|⟨_,op,aE,hx,mV⟩
  ·exact(h.sync i a og yq).imp id (ll.app u)
  ·exact(tT (dH op aE a mV).2 (VB .sync fun e=>hAs e.symm) (hs▸yq)).elim
 ·rcases bS ha with ⟨hi,og⟩|⟨_,op,aE,hx,mV⟩
  ·exact(h.said i a og hk).app u
  ·exact absurd hk (dH op aE a mV).1
 ·rcases bS ha with ⟨hi,og⟩|⟨_,op,aE,hx,mV⟩
  ·exact(h.over i a og hm).imp (Knows.app u) (Or.imp (fun⟨j,h1,h2⟩=>⟨j,h1,h2.app u⟩) (Hi.app u hi))
  ·have hk:Knows (t++u) g i:=by have:=knows_own hx;rwa [hu op aE]at this
   cases A with
   |main=>cases hg;exact .inl hk
   |work j=>cases hg;exact .inr (.inl ⟨j,(hj j rfl).1,by unfold WK;rw [if_neg (by rw [(hj j rfl).2];simp)];exact hk⟩)
   |_=>exact hg.elim
theorem yY.atom(h:yY Γ base Shun rel t m n vw)(hd:gu vw)(hs:vw .sync=aS Γ){A:Ag}{g:Nat}(hg:VA base A g)(hj:∀j,A=.work j->j<m)
  (hu:∀op∈u,op.g=g)(dH:∀op∈u,∀b,op.act.touch?=some b->bD (aS Γ) b/\(b.kind=.atomic\/(b.kind=.said/\A=.main)))(oh:A≠.main->∀i,t.size<=i->touchAt (t++u) i≠none->¬(t++u).heard i)
  (hl:∀op∈u,op.act.low n)(hr:∀op∈u,∀a,op.act≠.mark (.release a)):yY Γ base Shun rel (t++u) m n vw:=by
 refine⟨fun said=>noRace_append (h.clean said) hu fun i a ha op aE b hb hc=>?_,fun B i a ha yq=>?_,fun i a ha yq=>?_,fun i a ha hk=>?_,fun i a ha hm=>?_,nd h.low (Nat.le_refl _) hl,iQ h.norel hr⟩
 ·obtain⟨U5,Cc⟩:=dH op aE b hb;have hca:bD (aS Γ) a:=by
   unfold bD at U5⊢;rw [hc.1];cases hx:b.loc with
   |cell ad=>rw [hx]at U5;exact U5.imp id (Or.imp id fun z=>z.1.elim)
   |obj r=>rw [hx]at U5;exact U5
   |_=>rw [hx]at U5;exact U5
  rcases hc.2.2.2 with hp|hp|⟨_,hp,hq⟩
  ·exact ll.knows hg hj ((h.sync i a ha hca).resolve_left fun x=>x hp)
  ·rcases Cc with e|⟨e,_⟩<;>rw [hp]at e<;>cases e
  ·rcases Cc with e|⟨_,rfl⟩
   ·rw [hq]at e;cases e
   ·cases hg;exact h.said i a ha hp
 ·rcases bS ha with ⟨hi,og⟩|⟨_,op,aE,hx,mV⟩
  ·exact KN.app u (h.cov B i a og yq)
  ·by_cases hB:B=.sync
   ·subst hB;trivial
   ·exact(anw (dH op aE a mV).1 (hs▸hd .sync B fun e=>hB e.symm) yq).elim
 ·rcases bS ha with ⟨hi,og⟩|⟨_,op,aE,hx,mV⟩
  ·exact(h.sync i a og yq).imp id (ll.app u)
  ·exact .inl (by rcases(dH op aE a mV).2 with e|⟨e,_⟩<;>rw [e]<;>simp)
 ·rcases bS ha with ⟨hi,og⟩|⟨_,op,aE,hx,mV⟩
  ·exact(h.said i a og hk).app u
  ·rcases(dH op aE a mV).2 with e|⟨_,rfl⟩
   ·rw [e]at hk;cases hk
   ·cases hg;have:=knows_own hx;rwa [hu op aE]at this
 ·rcases bS ha with ⟨hi,og⟩|⟨hi,op,aE,hx,mV⟩
  ·exact(h.over i a og hm).imp (Knows.app u) (Or.imp (fun⟨j,h1,h2⟩=>⟨j,h1,h2.app u⟩) (Hi.app u hi))
  ·by_cases hA:A=.main
   ·subst hA;cases hg;have:=knows_own hx;rw [hu op aE]at this;exact .inl this
   ·refine .inr (.inr ⟨.inr (dH op aE a mV).1,?_,fun hh=>(oh hA i hi (by rw [ha];simp) hh).elim⟩)
    exact(dH op aE a mV).2.resolve_right fun e=>hA e.2
theorem yY.kept(h:yY Γ base Shun rel t m n vw)(hd:gu vw)(hs:vw .sync=aS Γ){j r:Nat}(hj:j<m)(rK:rel j=false)(nf:(vw (.keep j)).own r)(gj:r<n)
  (hu:∀op∈u,op.g=base+j)(dH:∀op∈u,∀b,op.act.touch?=some b->b.kind=.atomic/\b.loc=.obj r)(hl:∀op∈u,op.act.low n)(hr:∀op∈u,∀a,op.act≠.mark (.release a)):yY Γ base Shun rel (t++u) m n vw:=by
 have anx:∀op∈u,∀b,op.act.touch?=some b->may (vw (.keep j)) b:=fun op aE b hb=>by
  unfold may;rw [(dH op aE b hb).2];exact nf
 refine⟨fun said=>noRace_append (h.clean said) hu fun i a ha op aE b hb hc=>?_,fun B i a ha yq=>?_,fun i a ha yq=>?_,fun i a ha hk=>?_,fun i a ha hm=>?_,nd h.low (Nat.le_refl _) hl,iQ h.norel hr⟩
 ·exact h.cov (.keep j) i a ha (Ca (anx op aE b hb) hc.1 hc.2.2.1)
 ·rcases bS ha with ⟨hi,og⟩|⟨_,op,aE,hx,mV⟩
  ·exact KN.app u (h.cov B i a og yq)
  ·by_cases hB:B=.keep j
   ·subst hB;have:=knows_own hx;rwa [hu op aE]at this
   ·exact(tT (anx op aE a mV) (hd (.keep j) B fun e=>hB e.symm) yq).elim
 ·rcases bS ha with ⟨hi,og⟩|⟨_,op,aE,hx,mV⟩
  ·exact(h.sync i a og yq).imp id (ll.app u)
  ·exact(tT (anx op aE a mV) (hd (.keep j) .sync (by simp)) (hs▸yq)).elim
 ·rcases bS ha with ⟨hi,og⟩|⟨_,op,aE,hx,mV⟩
  ·exact(h.said i a og hk).app u
  ·rw [(dH op aE a mV).1]at hk;cases hk
 ·rcases bS ha with ⟨hi,og⟩|⟨_,op,aE,hx,mV⟩
  ·exact(h.over i a og hm).imp (Knows.app u) (Or.imp (fun⟨j,h1,h2⟩=>⟨j,h1,h2.app u⟩) (Hi.app u hi))
  ·refine .inr (.inl ⟨j,hj,?_⟩);unfold WK;rw [if_neg (by rw [rK];simp)]
   have:=knows_own hx;rwa [hu op aE]at this
theorem yY.Oo(h:yY Γ base Shun rel t m n vw){m' n':Nat}{aEs:Nat->Bool}{E9:Ag->View}(hm:m<=m')(hn:n<=n')(hu:∀op∈u,op.act.touch?=none)(hl:∀op∈u,op.act.low n')(hr:∀op∈u,∀a,op.act≠.mark (.release a))
  (aPy:∀B a,bD (E9 B) a->∃A,bD (vw A) a/\∀i,KN Γ base t m A i->KN Γ base (t++u) m' B i)(gN:∀i,ll base t m i->ll base (t++u) m' i)
  (hwk:∀j i,j<m->WK Γ base rel t j i->WK Γ base aEs (t++u) j i):yY Γ base Shun aEs (t++u) m' n' E9:=by
 have old:∀{i:Nat} {a:Touch},touchAt (t++u) i=some a->i<t.size/\touchAt t i=some a:=fun {i a} ha=>by
  rcases bS ha with x|⟨_,op,aE,_,mV⟩
  ·exact x
  ·rw [hu op aE]at mV;cases mV
 refine⟨fun said=>?_,fun B i a ha yq=>?_,fun i a ha yq=>?_,fun i a ha hk=>?_,fun i a ha Cd=>?_,nd h.low hn hl,iQ h.norel hr⟩
 ·rintro⟨i,j,hij,⟨a,b,ha,hb,hc⟩,n1,n2⟩;obtain⟨hi,og⟩:=old ha;obtain⟨hj,FL⟩:=old hb;exact h.clean said ⟨i,j,hij,⟨a,b,og,FL,hc⟩,fun e=>n1 (hb_app u e),fun e=>n2 (hb_app u e)⟩
 ·obtain⟨A,h1,h2⟩:=aPy B a yq;exact h2 i (h.cov A i a (old ha).2 h1)
 ·exact(h.sync i a (old ha).2 yq).imp id (gN i)
 ·exact(h.said i a (old ha).2 hk).app u
 ·obtain⟨hi,og⟩:=old ha;exact(h.over i a og Cd).imp (Knows.app u) (Or.imp (fun⟨j,h1,h2⟩=>⟨j,Nat.lt_of_lt_of_le h1 hm,hwk j i h1 h2⟩) (Hi.app u hi))
section
variable {y:MemOp} {x:MemAct} {g:Nat}
theorem km(t:Trace)(y:MemOp):(t++#[y])[t.size]? =some y:=by rw [Array.getElem?_append_right (Nat.le_refl _)];simp
theorem sL(hd:Deaf t y.g=0):(t++#[y]).heard t.size:=⟨y.g,by simp [Trace.g?,km],by rw [deaf_old (Nat.le_refl _)];exact hd⟩
theorem iP.new(hy:y.act=x)(hd:Deaf t y.g=0)(h:Knows t y.g i):iP (t++#[y]) x i:=
 ⟨t.size,by rw [act?_of (km t y),hy],sL hd,.inr (h.hb_new (Nat.le_refl _) (km t y) rfl)⟩
theorem iP.Oq{a:Addr}(hn:∀op∈t,∀a,op.act≠.mark (.release a))(hy:y.act=.mark (.acquire a))(hd:Deaf t y.g=0)(h:iP t (.mark (.releaseMerge a)) i):Knows (t++#[y]) y.g i:=by
 obtain⟨p,h1,h2,h3⟩:=h;have hp:=lt_of_act? h1;refine⟨t.size,y,km t y,rfl,.inr ((h3.app #[y]).hb (.single (.inr ⟨.marked hp (.inr (by rw [act?_old hp];exact h1)) (by rw [act?_of (km t y),hy]) (fun k _ hk=>?_),(heard_old hp).2 h2,sL hd⟩)))⟩
 rw [act?_old hk];intro e;obtain⟨op,ho,hoa⟩:=Option.map_eq_some_iff.1 e;exact hn op (mem_of_getElem? ho) a hoa
theorem iP.closed{c:Nat}(hy:y.act=.recvClosed c)(hd:Deaf t y.g=0)(h:iP t (.close c) i):Knows (t++#[y]) y.g i:=by
 obtain⟨p,h1,h2,h3⟩:=h;have hp:=lt_of_act? h1;exact⟨t.size,y,km t y,rfl,.inr ((h3.app #[y]).hb (.single (.inr ⟨.closed (by rw [act?_old hp];exact h1) (by rw [act?_of (km t y),hy]),(heard_old hp).2 h2,sL hd⟩)))⟩
end
end
open Go.ConcR (stA smA WgAt KK rd wr)
structure cP where
 N:Nat
 me:Nat->Nat
 len:Nat->Nat
 item:Nat->Nat->Int
 en:Nat
 res:Nat->View->World->Prop
def Rc.at(Γ:Rc)(J:cP)(j:Nat):Rc:={Γ with me:=J.me j,item:=J.item j,res:=J.res j}
def Seen(γ:Nat->Gh)(J:cP)(j s:Nat):Prop:=∀s',s<=s'->s'<=J.len j->∃c∈(γ (J.me j)).bO,c.no=J.item j s'
def anz(Γ:Rc)(J:cP)(w:World):Prop:=
 ∃(γ:Nat->Gh) (VL VD:Nat->View),(∀k,k<Γ.ns->Γ.cont k (γ k) (VL k) w/\(∀c∈(γ k).bO,c.no∈(γ k).done)/\(∀x∈(γ k).done,∃c∈(γ k).bO,c.no=x)/\∀c∈(γ k).bO,∃j,j<J.N/\J.me j=k/\∃s,1<=s/\s<=J.len j/\c.no=J.item j s)/\
  (∀j,j<J.N->J.res j (VD j) w/\Seen γ J j 1)/\bC w Γ.off/\∀k,k<Γ.ns->Apart (VL k) (aS Γ)
inductive MK where
 |add (i:Nat)|mrd (i:Nat)|go (i:Nat)|FP|Hj (v:Nat)|mwr|sM|Ce|rL
section
variable (Γ:Rc) (J:cP) (Fin:Goroutine->World->Prop) (Y:MK->View->Goroutine->World->Prop)
abbrev ib(x:MK)(V:View)(g:Goroutine)(w:World):Prop:=Loc prog true (fun V g w=>Y x V g w) V g w
def Start(j:Nat):Tag->Prop:=Next (Γ.at J j) ⟨J.en,J.len j+1⟩ .none
def Cf(i:Nat):MK:=if i+1<J.N then .add (i+1)else .FP
def Ot(x:MK)(V:View)(g:Goroutine)(w:World):Prop:=
 g.status=.running/\match x with
 |.add i=>V.deaf=1/\i<J.N/\∀w₁ (v:Nat),aP V w w₁->v<32->WgAt Γ.wgT Γ.wg w₁ ((v:Int)*KK) 0->
   ∃g',stepG prog true g w₁=.go g' (w₁.setCell (stA Γ.wg) (.int .u64 (((v:Int)+1)*KK))) #[rd (stA Γ.wg),wr (stA Γ.wg)]/\ib Y (if v=0 then .mrd i else .go i) V g' (w₁.setCell (stA Γ.wg) (.int .u64 (((v:Int)+1)*KK)))
 |.mrd i=>V.deaf=1/\i<J.N/\∀w₁,aP V w w₁->ConcN.WgLive Γ.wgT Γ.wg w₁->∃g',stepG prog true g w₁=.go g' w₁ #[⟨.mark (.read (smA Γ.wg)),false,true⟩]/\ib Y (.go i) V g' w₁
 |.go i=>V.deaf=0/\i<J.N/\∀w₁,aP V w w₁->∃V' VW g' child,V'.Le V/\VW.Le V/\Apart V' VW/\stepG prog true g w₁=.spawn g' child w₁ #[]/\
   bf (At (Γ.at J i)) (Start Γ J i) VW child w₁/\ib Y (Cf J i) V' g' w₁
 |.FP=>V.deaf=1/\∀w₁ (v:Nat),aP V w w₁->v<32->WgAt Γ.wgT Γ.wg w₁ ((v:Int)*KK) 0->∃g',stepG prog true g w₁=.go g' w₁ #[rd (stA Γ.wg)]/\ib Y (if v=0 then .rL else .Hj v) V g' w₁
 |.Hj v0=>V.deaf=1/\v0≠0/\∀w₁ (v:Nat),aP V w w₁->v<32->WgAt Γ.wgT Γ.wg w₁ ((v:Int)*KK) 0->
   (v=v0->∃g',stepG prog true g w₁=.go g' (w₁.setCell (stA Γ.wg) (.int .u64 ((v:Int)*KK+1))) #[rd (stA Γ.wg),wr (stA Γ.wg)]/\ib Y .mwr V g' (w₁.setCell (stA Γ.wg) (.int .u64 ((v:Int)*KK+1))))/\
   (v≠v0->∃g',stepG prog true g w₁=.go g' w₁ #[rd (stA Γ.wg)]/\ib Y .FP V g' w₁)
 |.mwr=>V.deaf=1/\∀w₁,aP V w w₁->ConcN.WgLive Γ.wgT Γ.wg w₁->∃g',stepG prog true g w₁=.go g' w₁ #[⟨.mark (.write (smA Γ.wg)),false,true⟩]/\ib Y .sM V g' w₁
 |.sM=>V.deaf=1/\∀w₁,aP V w w₁->
   ((∃st,WgAt Γ.wgT Γ.wg w₁ st 0)->g.offers=none/\stepG prog true g w₁=.go {g with status:=.blocked} w₁ #[])/\
   (WgAt Γ.wgT Γ.wg w₁ 0 1->∃g',stepG prog true g w₁=.go g' (w₁.setCell (smA Γ.wg) (.int .u32 0)) (semEvents (smA Γ.wg))/\ib Y .Ce V g' (w₁.setCell (smA Γ.wg) (.int .u32 0)))
 |.Ce=>V.deaf=1/\∀w₁,aP V w w₁->WgAt Γ.wgT Γ.wg w₁ 0 0->∃g',stepG prog true g w₁=.go g' w₁ #[rd (stA Γ.wg)]/\ib Y .rL V g' w₁
 |.rL=>V.deaf=0/\∀w₁,aP V w w₁->WgAt Γ.wgT Γ.wg w₁ 0 0->anz Γ J w₁->∃g',stepG prog true g w₁=.go g' w₁ #[⟨.mark (.acquire (stA Γ.wg)),false,true⟩]/\Fin g' w₁
end
section
variable {J:cP} {Fin:Goroutine->World->Prop} {X Y:MK->View->Goroutine->World->Prop}
theorem ib.mono(h:∀t V g w,X t V g w->Y t V g w){x:MK}{V:View}{g:Goroutine}{w:World}(hl:ib X x V g w):ib Y x V g w:=Loc.mono (fun V g w hx=>h x V g w hx) hl
theorem Ot.mono(h:∀t V g w,X t V g w->Y t V g w){x:MK}{V:View}{g:Goroutine}{w:World}(hl:Ot Γ J Fin X x V g w):Ot Γ J Fin Y x V g w:=by
 obtain⟨hs,hl⟩:=hl;refine⟨hs,?_⟩;cases x with
 |add i=>
  obtain⟨h1,h2,h3⟩:=hl;refine⟨h1,h2,fun w₁ v a b c=>?_⟩;obtain⟨g',q1,q2⟩:=h3 w₁ v a b c;exact⟨g',q1,ib.mono h q2⟩
 |mrd i=>
  obtain⟨h1,h2,h3⟩:=hl;refine⟨h1,h2,fun w₁ a b=>?_⟩;obtain⟨g',q1,q2⟩:=h3 w₁ a b;exact⟨g',q1,ib.mono h q2⟩
 |go i=>
  obtain⟨h1,h2,h3⟩:=hl;refine⟨h1,h2,fun w₁ a=>?_⟩;obtain⟨V',VW,g',ch,q1,q2,q3,q4,q5,q6⟩:=h3 w₁ a;exact⟨V',VW,g',ch,q1,q2,q3,q4,q5,ib.mono h q6⟩
 |FP=>
  obtain⟨h1,h3⟩:=hl;refine⟨h1,fun w₁ v a b c=>?_⟩;obtain⟨g',q1,q2⟩:=h3 w₁ v a b c;exact⟨g',q1,ib.mono h q2⟩
 |Hj v0=>
  obtain⟨h1,h0,h3⟩:=hl;refine⟨h1,h0,fun w₁ v a b c=>⟨fun e=>?_,fun e=>?_⟩⟩
  ·obtain⟨g',q1,q2⟩:=(h3 w₁ v a b c).1 e;exact⟨g',q1,ib.mono h q2⟩
  ·obtain⟨g',q1,q2⟩:=(h3 w₁ v a b c).2 e;exact⟨g',q1,ib.mono h q2⟩
 |mwr=>
  obtain⟨h1,h3⟩:=hl;refine⟨h1,fun w₁ a b=>?_⟩;obtain⟨g',q1,q2⟩:=h3 w₁ a b;exact⟨g',q1,ib.mono h q2⟩
 |sM=>
  obtain⟨h1,h3⟩:=hl;refine⟨h1,fun w₁ a=>⟨(h3 w₁ a).1,fun e=>?_⟩⟩;obtain⟨g',q1,q2⟩:=(h3 w₁ a).2 e;exact⟨g',q1,ib.mono h q2⟩
 |Ce=>
  obtain⟨h1,h3⟩:=hl;refine⟨h1,fun w₁ a b=>?_⟩;obtain⟨g',q1,q2⟩:=h3 w₁ a b;exact⟨g',q1,ib.mono h q2⟩
 |rL=>exact hl
def nS(Γ:Rc)(J:cP)(Fin:Goroutine->World->Prop)(x:MK)(V:View)(g:Goroutine)(w:World):Prop:=∃Y:MK->View->Goroutine->World->Prop,Y x V g w/\∀x V g w,Y x V g w->Ot Γ J Fin Y x V g w
theorem nS.law{x:MK}{V:View}{g:Goroutine}{w:World}(h:nS Γ J Fin x V g w):Ot Γ J Fin (nS Γ J Fin) x V g w:=by
 obtain⟨Y,hx,hl⟩:=h;exact(hl x V g w hx).mono fun t V g w hx=>⟨Y,hx,hl⟩
theorem nS.fold{x:MK}{V:View}{g:Goroutine}{w:World}(h:Ot Γ J Fin (nS Γ J Fin) x V g w):nS Γ J Fin x V g w:=
 ⟨fun x' V' g' w'=>(x'=x/\V'=V/\g'=g/\w'=w)\/nS Γ J Fin x' V' g' w',.inl ⟨rfl,rfl,rfl,rfl⟩,fun x' V' g' w' hx=>by
  rcases hx with ⟨rfl,rfl,rfl,rfl⟩|hx
  ·exact h.mono fun _ _ _ _=>.inr
  ·exact hx.law.mono fun _ _ _ _=>.inr⟩
theorem nS.aax{x:MK}{V:View}{g:Goroutine}{w:World}(X:MK->View->Goroutine->World->Prop)(h:∀x V g w,X x V g w->Ot Γ J Fin (fun x V g w=>X x V g w\/nS Γ J Fin x V g w) x V g w)(hx:X x V g w):nS Γ J Fin x V g w:=
 ⟨fun x V g w=>X x V g w\/nS Γ J Fin x V g w,.inl hx,fun x V g w hx=>hx.elim (h x V g w) fun hx=>hx.law.mono fun _ _ _ _=>.inr⟩
end
open Go.ConcN (sumTo upd upd_same upd_ne sumTo_upd sumTo_congr WgLive)
inductive Pos where
 |lk (e:En) (f:Fz) (k:Nat) (r:MR) (q:LP->Prop)
 |acq (e:En) (f:Fz) (k:Nat)
 |rel (e:En) (f:Fz) (k:Nat) (γ:Gh)
 |oa (e:En) (f:Fz)
def Pos.tags(Γ:Rc):Pos->Tag->Prop
 |.lk e f k _ q,t=>∃p,q p/\t=⟨e,f,.lk k p⟩
 |.acq e f k,t=>t=⟨e,f,.acq k⟩
 |.rel e f k γ,t=>∃fw f',Made Γ e k f γ fw f'/\t=⟨e,f,.rel k γ fw f'⟩
 |.oa e f,t=>Next Γ e f t
inductive Ws where
 |walk (p:Pos) (T:Rk) (ρ:Nat)
 |stop (t:Tag)
 |done (s m:Nat)
 |quit (q:Nat)
def Kind.role(k:Nat):Kind->MR
 |.lk k' p=>if k'=k then p.role else .out
 |.acq k'=>if k'=k then .hold else .out
 |.rel k' _ _ _=>if k'=k then .hold else .out
 |_=>.out
def Pos.role(k:Nat):Pos->MR
 |.lk _ _ k' r _=>if k'=k then r else .out
 |.acq _ _ k'=>if k'=k then .hold else .out
 |.rel _ _ k' _=>if k'=k then .hold else .out
 |.oa _ _=>.out
def Ws.role(k:Nat):Ws->MR
 |.walk p _ _=>p.role k
 |.stop t=>t.kind.role k
 |_=>.out
def Ws.inside(k:Nat):Ws->Prop
 |.walk (.rel _ _ k' _) _ _=>k'=k
 |.stop ⟨_,_,.rel k' _ _ _⟩=>k'=k
 |_=>False
def Pos.fz:Pos->Fz
 |.lk _ f _ _ _|.acq _ f _|.rel _ f _ _|.oa _ f=>f
def Ws.fz:Ws->Fz
 |.walk p _ _=>p.fz
 |.stop t=>t.f
 |_=>.none
def Ws.cnt:Ws->Nat
 |.walk _ _ _|.stop _=>1
 |.done s _=>if 4<=s then 1 else 0
 |.quit _=>0
def Ws.fJ:Ws->Nat
 |.done s _=>if s<=3 then s else 0
 |_=>0
def Ws.rel:Ws->Bool
 |.done _ _|.quit _=>true
 |_=>false
theorem Ws.Ou{k:Nat}{s:Ws}(h:s.inside k):s.role k=.hold:=by
 cases s with
 |walk p T ρ=>cases p<;>simp_all [Ws.inside,Ws.role,Pos.role]
 |stop t=>obtain⟨e,f,kd⟩:=t;cases kd<;>simp_all [Ws.inside,Ws.role,Kind.role]
 |_=>exact h.elim
def kn(γ:Nat->Gh)(J:cP)(j:Nat)(e:En)(f:Fz):Prop:=
 1<=e.s/\e.s<=J.len j/\Seen γ J j (e.s+1)/\match f with
  |.none=>True
  |.found c|.bH c|.stored c=>c.no=J.item j e.s/\c.k=J.me j/\c∈(γ c.k).bO
def AtK(J:cP)(j k:Nat):Fz->Prop
 |.none=>k=J.me j
 |.found c|.bH c|.stored c=>c.k=k
def aA1(γ:Nat->Gh)(J:cP)(j:Nat)(e:En):Fz->Prop
 |.none=>1<=e.s/\e.s<=J.len j+1/\Seen γ J j e.s
 |f=>kn γ J j e f
def ju(Γ:Rc)(J:cP)(γ:Nat->Gh)(wd:Nat->Wd)(j:Nat):Ws->Prop
 |.walk (.lk e f k r q) _ ρ=>k<Γ.ns/\kn γ J j e f/\AtK J j k f/\r≠.out/\∀p,q p->p.ok/\p.role=r/\p.ot (wd k)<=ρ/\(p.unl->f≠.none)
 |.walk (.acq e f k) _ _=>k<Γ.ns/\kn γ J j e f/\AtK J j k f
 |.walk (.rel e f k γk) _ _=>k<Γ.ns/\kn γ J j e f/\AtK J j k f/\γk=γ k
 |.walk (.oa e f) _ _=>aA1 γ J j e f
 |.stop ⟨e,f,.lk k p⟩=>k<Γ.ns/\kn γ J j e f/\AtK J j k f/\(p.unl->f≠.none)
 |.stop ⟨e,f,.acq k⟩=>k<Γ.ns/\kn γ J j e f/\AtK J j k f
 |.stop ⟨e,f,.rel k γk _ _⟩=>k<Γ.ns/\kn γ J j e f/\AtK J j k f/\γk=γ k
 |.stop ⟨e,f,.close⟩|.stop ⟨e,f,.recv⟩=>kn γ J j e f
 |.stop ⟨e,f,.E8⟩=>e.s=0/\Seen γ J j 1/\f=.none
 |.done _ _|.quit _=>Seen γ J j 1
section
variable (pl:ConcR.Payload) (Γ:Rc) (C n i:Nat)
def Cg:Nat->Goroutine->World->Prop
 |5=>@ConcN.AtK1 pl prog Γ.wgT Γ.wg C n 0 (i+1)
 |4=>@ConcN.AtD1 pl prog Γ.wgT Γ.wg C n 0 (i+1)
 |3=>@ConcN.AtD2 pl prog Γ.wgT Γ.wg C n 0 (i+1)
 |2=>@ConcN.AtD3 pl prog Γ.wgT Γ.wg C n 0 (i+1)
 |_=>ConcN.AtD4 prog Γ.wgT Γ.wg
end
def ko(Γ:Rc)(VD:View)(d:Nat)(g:Goroutine)(w:World)(s m:Nat):Prop:=
 1<=s/\s<=5/\d=(if s=5 then 0 else 1)/\∃(pl:ConcR.Payload) (C n i:Nat),VD.wc ⟨C,i,none⟩/\Goes prog false (@ConcN.RW pl Γ.wgT Γ.wg C n 0 i) ConcR.DC0 (Cg pl Γ C n i s) m g w
def Slp(Γ:Rc)(sm:Nat->Nat)(w:World)(t:Tag)(g:Goroutine):Prop:=
 g.status=.blocked/\((∃k,t.kind=.lk k .yK/\sm k=0/\g.offers=none)\/∃c z,t.kind=.recv/\t.f=.found c/\g.offers=some (#[rcase c.ch z,rcase Γ.off z],.select)/\bC w c.ch)
def dP(Γ:Rc)(sm:Nat->Nat)(V VD:View)(d:Nat)(g:Goroutine)(w:World):Ws->Prop
 |.walk p T _=>V.deaf=d/\Local prog false (fun V g w=>∃t,p.tags Γ t/\At Γ t V g w) T V g w
 |.stop t=>V.deaf=d/\∃g0 w0,At Γ t V g0 w0/\aP V w0 w/\g.frame=g0.frame/\g.callers=g0.callers/\g.dying=g0.dying/\(g.status=.running\/Slp Γ sm w t g)
 |.done s m=>ko Γ VD d g w s m
 |.quit q=>QuitsD prog q d g
inductive Ms where
 |walk (x:MK) (T:Rk) (ρ:Nat)
 |stop (x:MK)
def Ms.x:Ms->MK
 |.walk x _ _|.stop x=>x
def kp(Γ:Rc)(J:cP)(Fin:Goroutine->World->Prop)(V:View)(d:Nat)(g:Goroutine)(w:World):Ms->Prop
 |.walk x T _=>V.deaf=d/\Local prog true (fun V g w=>nS Γ J Fin x V g w) T V g w
 |.stop x=>V.deaf=d/\∃g0 w0,nS Γ J Fin x V g0 w0/\aP V w0 w/\g.frame=g0.frame/\g.callers=g0.callers/\g.dying=g0.dying/\
   (g.status=.running\/g.status=.blocked/\x=.sM/\g.offers=none/\∃st,WgAt Γ.wgT Γ.wg w st 0)
def MK.idx(N m:Nat):MK->Prop
 |.add i|.mrd i|.go i=>i=m/\m<N
 |_=>m=N
def MK.on:MK->Nat
 |.mrd _|.go _=>1
 |_=>0
def sN(v z:Nat)(st sm:Int):MK->Prop
 |.mwr|.sM=>(z=0/\0<v/\st=(v:Int)*KK+1/\sm=0)\/(v=0/\(z=3\/z=2)/\st=1/\sm=0)\/(v=0/\z=1/\st=0/\sm=0)\/(v=0/\z=0/\st=0/\sm=1)
 |.Ce|.rL=>v=0/\z=0/\st=0/\sm=0
 |_=>z=0/\st=(v:Int)*KK/\sm=0
structure ln where
 m:Nat
 ws:Nat->Ws
 ms:Ms
 vw:Ag->View
 gh:Nat->Gh
 wd:Nat->Wd
 sm:Nat->Nat
 q:Nat->Nat
structure dK(Γ:Rc)(J:cP):Prop where
 cont:∀k γ V w w',Γ.cont k γ V w->aP V w w'->Γ.cont k γ V w'
 full:∀c V w w',Γ.full c V w->aP V w w'->Γ.full c V w'
 res:∀j V w w',J.res j V w->aP V w w'->J.res j V w'
 inj:∀k k',k<Γ.ns->k'<Γ.ns->Γ.src k=Γ.src k'->k=k'
 wg:∀k,k<Γ.ns->Γ.src k≠Γ.wg
 N:J.N<31
 me:∀j,j<J.N->J.me j<Γ.ns
def Fa(Γ:Rc)(gh:Nat->Gh)(b:Nat):Prop:=b=Γ.off\/∃k,k<Γ.ns/\∃c∈(gh k).bO,c.ch=b
def tU(Γ:Rc)(S:ln)(w:World)(k:Nat)(c:xp):Prop:=
 (bC w c.ch/\((c.no∉(S.gh k).done/\∃j,j<S.m/\(S.ws j).fz=.bH c)\/(c.no∈(S.gh k).done/\∃j,j<S.m/\(S.ws j).fz=.stored c)))\/
 (c.no∈(S.gh k).done/\oE w c.ch/\Γ.full c (S.vw (.chan c.ch)) w/\Hg (S.vw (.chan c.ch))/\(S.vw (.chan c.ch)).deaf=0)
def aT(s:Ws)(c:xp):Prop:=s.fz=.bH c\/s.fz=.stored c
structure tV(Γ:Rc)(J:cP)(S:ln):Prop where
 k:∀k,k<Γ.ns->∀c∈(S.gh k).bO,c.k=k
 no:∀k,k<Γ.ns->∀c∈(S.gh k).bO,∀d∈(S.gh k).bO,c.no=d.no->c=d
 ch:∀k,k<Γ.ns->∀k',k'<Γ.ns->∀c∈(S.gh k).bO,∀d∈(S.gh k').bO,c.ch=d.ch->c=d
 off:∀k,k<Γ.ns->∀c∈(S.gh k).bO,c.ch≠Γ.off
 done:∀k,k<Γ.ns->∀x∈(S.gh k).done,∃c∈(S.gh k).bO,c.no=x
 item:∀k,k<Γ.ns->∀c∈(S.gh k).bO,∃j,j<J.N/\J.me j=k/\∃s,1<=s/\s<=J.len j/\c.no=J.item j s
 one:∀j j' c,j<S.m->j'<S.m->aT (S.ws j) c->aT (S.ws j') c->j=j'
 bH:∀j c,j<S.m->(S.ws j).fz=.bH c->c.no∉(S.gh c.k).done
 stored:∀j c,j<S.m->(S.ws j).fz=.stored c->c.no∈(S.gh c.k).done
 keep:∀j c,j<S.m->aT (S.ws j) c->(S.vw (.keep j)).own c.ch
structure VE(Γ:Rc)(J:cP)(S:ln)(w:World):Prop where
 lock:∀k,k<Γ.ns->dw Γ k w (S.wd k) (S.sm k)
 cont:∀k,k<Γ.ns->(∃j,j<S.m/\(S.ws j).inside k)\/Γ.cont k (S.gh k) (S.vw (.lock k)) w/\(S.vw (.lock k)).deaf=0
 off:bC w Γ.off
 yr:∀k,k<Γ.ns->∀c∈(S.gh k).bO,tU Γ S w k c
 opn:∀j c,j<S.m->aT (S.ws j) c->bC w c.ch
 res:∀j,j<S.m->(S.ws j).rel=true->J.res j (S.vw (.mc j)) w
 wg:∃z st sm,WgAt Γ.wgT Γ.wg w st sm/\sN (sumTo S.m (fun j=>(S.ws j).cnt)+S.ms.x.on) z st sm S.ms.x/\(∀j,j<S.m->(S.ws j).fJ=0\/(S.ws j).fJ=z)/\
  (∀j j',j<S.m->j'<S.m->(S.ws j).fJ≠0->(S.ws j').fJ≠0->j=j')/\(z≠0->∃j,j<S.m/\(S.ws j).fJ=z)
def MK.rk(v:Nat):MK->Nat
 |.FP=>2
 |.Hj v0=>if v0=v then 1 else 3
 |_=>0
structure Inv(Γ:Rc)(J:cP)(Fin:Goroutine->World->Prop)(base:Nat)(Shun:Go.Loc->Prop)(S:ln)(gs:Array Goroutine)(w:World)(t:Trace):Prop where
 size:gs.size=base+S.m
 tW:0<base
 kq:S.m<=J.N
 ng:∀j,S.m<=j->S.ws j=.quit 0
 tX:∀i g,0<i->i<base->gs[i]? =some g->QuitsD prog (S.q i) (Deaf t i) g
 above:∀j,gs.size<=j->Deaf t j=0
 work:∀j,j<S.m->∃g,gs[base+j]? =some g/\dP (Γ.at J j) S.sm (S.vw (.work j)) (S.vw (.mc j)) (Deaf t (base+j)) g w (S.ws j)
 pos:∀j,j<S.m->ju Γ J S.gh S.wd j (S.ws j)
 main:∃g,gs[0]? =some g/\kp Γ J Fin (S.vw .main) (Deaf t 0) g w S.ms
 idx:S.ms.x.idx J.N S.m
 EY:∀x T ρ,S.ms=.walk x T ρ->x.rk (sumTo S.m fun j=>(S.ws j).cnt)<=ρ
 gV:gu S.vw
 low:∀A,mP (S.vw A) w.heap.size
 sync:S.vw .sync=aS Γ
 dL:∀b,Fa Γ S.gh b->b<w.heap.size/\∀A,(∀j,A≠.keep j)->¬(S.vw A).own b
 mx:∀k,k<Γ.ns->br J.N (fun j=>(S.ws j).role k) (S.wd k) (S.sm k)
 bO:tV Γ J S
 de:VE Γ J S w
 ys:yY Γ base Shun (fun j=>(S.ws j).rel) t S.m w.heap.size S.vw
inductive Rk.Lt:Rk->Rk->Prop
 |mk (f:World->Rk) (w:World):Rk.Lt (f w) (.mk f)
theorem Rk.wf:WellFounded Rk.Lt:=⟨fun r=>by
 induction r with
 |z=>exact⟨_,fun y h=>by cases h⟩
 |mk f ih=>exact⟨_,fun y h=>by cases h with|mk _ w=>exact ih w⟩⟩
def VLt(n:Nat)(f' f:Nat->Rk):Prop:=∃i,i<n/\Rk.Lt (f' i) (f i)/\∀j,j≠i->f' j=f j
theorem VLt.wf:∀n,WellFounded (VLt n)
 |0=>⟨fun f=>⟨_,fun y ⟨_,h,_⟩=>absurd h (Nat.not_lt_zero _)⟩⟩
 |n+1=>⟨fun f=>by
  have key:∀r,Acc Rk.Lt r->∀f:Nat->Rk,Acc (VLt n) f->f n=r->Acc (VLt (n+1)) f:=by
   intro r hr;induction hr with
   |intro r _ ihr=>
    intro f hf;induction hf with
    |intro f _ ihf=>
     intro e;refine⟨_,fun f' ⟨i,hi,aU,ho⟩=>?_⟩;by_cases eD:i=n
     ·subst eD;exact ihr (f' i) (e▸aU) f' ((VLt.wf i).apply f') rfl
     ·exact ihf f' ⟨i,by omega,aU,ho⟩ ((ho n fun x=>eD x.symm).trans e)
  exact key (f n) (Rk.wf.apply _) f ((VLt.wf n).apply f) rfl⟩
def EC:Nat:=400
def Kind.E:Kind->Nat
 |.lk _ p=>4*p.worth
 |.acq _=>83
 |.rel _ _ _ _=>82
 |_=>100
def Pos.E:Pos->Nat
 |.lk e _ _ r _=>EC*e.n+4*r.worth
 |.acq e _ _=>EC*e.n+83
 |.rel e _ _ _=>EC*e.n+82
 |.oa e _=>EC*e.n
def Ws.E:Ws->Nat
 |.walk p _ _=>p.E
 |.stop t=>EC*t.e.n+t.kind.E
 |.done s _=>s
 |.quit _=>0
def MK.E(J:cP):MK->Nat
 |.add i=>(J.N-i)*(EC*J.en+200)+60
 |.mrd i=>(J.N-i)*(EC*J.en+200)+59
 |.go i=>(J.N-i)*(EC*J.en+200)+58
 |.FP|.Hj _=>50
 |.mwr=>40|.sM=>30|.Ce=>20|.rL=>10
def Ws.rk(wd:Nat->Wd):Ws->Nat
 |.walk (.lk _ _ _ _ _) _ ρ=>ρ
 |.stop ⟨_,_,.lk k p⟩=>p.ot (wd k)
 |_=>0
def Ms.rk(v:Nat):Ms->Nat
 |.walk _ _ ρ=>ρ
 |.stop x=>x.rk v
def Ws.T:Ws->Rk
 |.walk _ T _=>T
 |_=>.z
def Ms.T:Ms->Rk
 |.walk _ T _=>T
 |_=>.z
def Ws.lv:Ws->Nat
 |.done _ m=>m
 |.quit q=>q
 |_=>0
def running(gs:Array Goroutine):Nat:=(gs.toList.filter fun g=>g.status==.running).length
def ln.v(S:ln):Nat:=sumTo S.m fun j=>(S.ws j).cnt
def L1(Γ:Rc)(J:cP)(S:ln):Nat:=sumTo J.N (fun j=>(S.ws j).E)+40*sumTo Γ.ns S.sm+S.ms.x.E J
def L2(J:cP)(S:ln):Nat:=sumTo J.N (fun j=>(S.ws j).rk S.wd)+S.ms.rk S.v
def LT(S:ln):Nat->Rk
 |0=>S.ms.T
 |j+1=>(S.ws j).T
def LL(J:cP)(base:Nat)(S:ln):Nat:=sumTo base S.q+sumTo J.N (fun j=>(S.ws j).lv)
abbrev Hk:=Nat×Nat×(Nat->Rk)×Nat×Nat
def meas(Γ:Rc)(J:cP)(base:Nat)(S:ln)(gs:Array Goroutine):Hk:=(L1 Γ J S,L2 J S,LT S,LL J base S,running gs)
def MLt(n:Nat):Hk->Hk->Prop:=Prod.Lex Nat.lt (Prod.Lex Nat.lt (Prod.Lex (VLt n) (Prod.Lex Nat.lt Nat.lt)))
theorem MLt.wf(n:Nat):WellFounded (MLt n):=(Prod.lex ⟨_,Nat.lt_wfRel.wf⟩ (Prod.lex ⟨_,Nat.lt_wfRel.wf⟩ (Prod.lex ⟨_,VLt.wf n⟩ (Prod.lex ⟨_,Nat.lt_wfRel.wf⟩ ⟨_,Nat.lt_wfRel.wf⟩)))).wf
end Go.Proofs.YtmcddajniiaieaaGreatDoor
