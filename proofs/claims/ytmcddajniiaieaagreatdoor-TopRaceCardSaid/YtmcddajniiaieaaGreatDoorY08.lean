/- TopRace: a part of the proof that it holds for every input and every schedule. -/
import Derived.Test.YtmcddajniiaieaaGreatDoorY07
import Derived.Test.YtmcddajniiaieaaGreatDoorY01
import Derived.IntWalk
import Derived.Laws.StructEq
import Derived.Tactics
import Derived.Conc.WgGenN2
set_option linter.unusedVariables false
set_option linter.unusedSimpArgs false
namespace Go.Proofs.YtmcddajniiaieaaGreatDoor
open Go Go.Conc Go.ConcM Go.Proofs.Tryz
variable {Γ:Rc} {V:View} {w':World} {b c:Frame} {k:List Item} {cs:List Frame} {e:En} {no p t jo:Int} {P:Program} {main:Bool} {Stop:View->Goroutine->World->Prop} {S:Act->List Item->Frame} {ops:Array Oper} {n i l b3 b5 iM s bw bu b4 b6 b7 b9 C:Nat} {xs:List Value} {r:Loop} {vo:Value}
theorem Uw{bO:List xp}{c:xp}{es:Array MapEntry}{cl:Nat}(m3:∀no,kI es.toList no=cellOf bO no)(hn:kI es.toList c.no=none)(no:Int):
  kI (es.push {key:=.int .i64 c.no,val:=.pointer (some ⟨c.c,0,none⟩),born:=cl}).toList no=cellOf (c::bO) no:=by
 rw [Array.toList_push,alx];by_cases h:no=c.no
 ·subst h;simp [hn,cellOf]
 ·have h':(c.no==no)=false:=by simpa using fun x:c.no=no=>h x.symm
  have h2:(no==c.no)=false:=by simpa using h
  have e1:cellOf (c::bO) no=cellOf bO no:=by simp [cellOf,List.find?_cons,h']
  rw [e1,h2,m3];cases cellOf bO no<;>simp
section
variable {D:cY} {VK:View} {w:World} {a:Act} {γ:Gh}
theorem al0(I:Is Γ D)(hk:b.kind≠.early)(hW:Wk Γ D V w')(hc:jI Γ D Γ.me γ VK w')(ha:Apart V VK)(hK:eM V w V w')(hN:j5 Γ V)(hm:γ.bO.find? (fun c=>c.no==no)=none)(dS:0<=no)(aU:D.lo no<D.len Γ.me)(rp:no=Γ.item e.s)(he:5<=e.n)
  (hs:a.tmps.size=56)(hd:a.defers=[])(h0:a.eval (.tmp 0)=.pointer (some ⟨Γ.src Γ.me,0,none⟩))(h1:a.eval (.tmp 1)=.int .i64 no)(h2:a.eval (.tmp 2)=.chan (some Γ.off))(h8:a.eval (.tmp 8)=.bool false)
  (K:azO Γ D e no V w b cs):
  bf (At Γ) (fun t=>∃fw f',Made Γ e Γ.me .none γ fw f'/\t=⟨e,.none,.rel Γ.me γ fw f'⟩) (V.join VK) (G (b.at a (.code vu::k)) cs) w':=by
 have hJ:=hW.join hc.tidy ha hc.gB;obtain⟨cb,ct,U5,hcz⟩:=hW.blk;obtain⟨es,cl,m1,m2,m3⟩:=hc.map;obtain⟨C,v,k1,k2,k3,k4⟩:=hc.set;have ab7:kI es.toList no=none:=by rw [m3];simp [cellOf,hm]
 refine aV8 hk hJ.tidy hJ.src.map m1.right m2 ab7 hs h0 h1 h2 h8 fun ch cc a3 V3 w3 s3 d3 p0 p1 p2 p7 p8 mj xl cM W3 Bch Bcc aZ4 T3=>?_;obtain⟨cb',aM8,aZX⟩:=W3.kind _ _ _ _ U5;have hsl:Γ.src Γ.me<w'.heap.size:=(Array.getElem?_eq_some_iff.1 U5).1;have nl3:dB Γ Γ.me V3:=hJ.gB.aC hsl W3;have hd3:V3.deaf=0:=W3.deaf.trans hW.deaf;obtain⟨c,hce⟩:∃c:xp,c=⟨Γ.me,no,cc,ch⟩:=⟨_,rfl⟩;have ec:c.c=cc:=by rw [hce]
 have ech:c.ch=ch:=by rw [hce]
 have eno:c.no=no:=by rw [hce]
 have ek:c.k=Γ.me:=by rw [hce]
 have Hq:∀d∈γ.bO,d.no≠c.no:=fun d hd x=>by
  have:=List.find?_eq_none.1 hm d hd;rw [eno]at x;simp [x]at this
 refine getD hk hd3 I.me nl3 aM8 (by omega) (Made.fresh Hq ek rfl (eno.trans rp)) s3 p0 p1 p2 p7 p8 ?_
 intro w4 Ux;have Ny:∀a,V.ro a\/V.wc a->a.block<w'.heap.size:=fun a h=>h.elim (hW.tidy.low.ro a) (hW.tidy.low.wc a);have aNd:∀a,VK.ro a\/VK.wc a->a.block<w'.heap.size:=fun a h=>h.elim (hc.tidy.low.ro a) (hc.tidy.low.wc a);have VX:∀a,V.ro a\/VK.ro a->V3.ro a:=fun a h=>by rw [W3.ro];exact h
 have jV:∀a,V.wc a\/VK.wc a->V3.wc a:=fun a h=>by rw [W3.wc];exact h
 have cd:∀b,V.own b\/VK.own b->V3.own b:=fun b h=>W3.mine b h;have gw:∀a,(yE Γ VK (fun a=>a=⟨cc,0,none⟩)).wc a->VK.wc a:=fun a h=>h.elim (fun e=>e▸hc.wc5) fun e=>e▸hc.wc6;have hmp:V3.own (D.mp Γ.me):=cd _ (.inr m1.1);have ge:∀b,V.own b->b≠D.mp Γ.me:=fun b h x=>ha.own b h (x▸m1.1);have hVs:∀b,V.own b->w4.heap[b]? =w'.heap[b]? :=fun b h=>(Ux.own b (cd b (.inl h))).trans (W3.own b (.inl h) (ge b h));have hVc:∀a,V.ro a\/V.wc a->w4.cell? a=w'.cell? a:=fun a h=>(Ux.cell a (h.imp (fun x=>VX a (.inl x)) fun x=>jV a (.inl x))).trans (W3.cell a (h.imp .inl .inl) id);have hKc:∀a,VK.ro a\/VK.wc a->w4.cell? a=w'.cell? a:=fun a h=>(Ux.cell a (h.imp (fun x=>VX a (.inr x)) fun x=>jV a (.inr x))).trans (W3.cell a (h.imp .inr .inr) id);have hKs:∀b,VK.own b->b≠D.mp Γ.me->w4.heap[b]? =w'.heap[b]? :=fun b h hb=>(Ux.own b (cd b (.inr h))).trans (W3.own b (.inr h) hb);have Fq:w'.heap.size<=w4.heap.size:=Nat.le_trans W3.size Ux.size;have hkd:eG w' w4:=W3.kind.trans Ux.kind;have B4c:=Bcc.rely Ux;have B4h:=Bch.rely Ux;have B4m:=aZ4.rely Ux;have Fo:w4.cell? ⟨cc,0,none⟩=some (.chan (some ch)):=by simp [World.cell?,B4c.2]
 have hc1:w4.cell? ⟨cc,1,none⟩=some (.slice none 0 0):=by simp [World.cell?,B4c.2]
 have nV:¬V.own cc:=fun x=>by have:=hW.tidy.low.own cc x;omega
 have nK:¬VK.own cc:=fun x=>by have:=hc.tidy.low.own cc x;omega
 have oe:cc≠Γ.src Γ.me:=by omega
 have gl4:prog.globals.size<=w4.heap.size:=Nat.le_trans hW.tidy.gl Fq;have VB:Apart (yF V (fun a=>a=⟨cc,0,none⟩) (fun a=>a=⟨cc,1,none⟩)) (yE Γ VK (fun a=>a=⟨cc,0,none⟩)):=by
  refine EF hc ha (fun a h=>?_) (fun a h=>?_) fun a h=>?_
  ·subst h;exact⟨nV,fun x=>by have:=Ny _ (.inr x);simp at this;omega,by simp⟩
  ·subst h;exact⟨nK,by simp,by simp⟩
  ·subst h;exact⟨nK,fun x=>by have:=aNd _ (.inl x);simp at this;omega,by simp [oe],by simp⟩
 refine⟨yF V (fun a=>a=⟨cc,0,none⟩) (fun a=>a=⟨cc,1,none⟩),yE Γ VK (fun a=>a=⟨cc,0,none⟩),
  ⟨fun b h=>cd b (.inl h),fun a h=>h.elim (fun x=>.inl (jV a (.inl x))) fun x=>.inr (x▸Bcc.1),fun a h=>h.elim (fun x=>.inl (VX a (.inl x))) fun x=>.inr (.inr (x▸Bcc.1)),hd3.symm⟩,
  ⟨fun b h=>cd b (.inr h),fun a h=>.inl (jV a (.inr (gw a h))),fun a h=>h.elim (fun x=>.inl (VX a (.inr x))) fun x=>.inr (.inr (x▸Bcc.1)),hd3.symm⟩,
  VB,(I.cont _ _ _ _).2 ?_,?_,?_⟩
 ·refine⟨⟨gl4,⟨fun b h=>Nat.lt_of_lt_of_le (hc.tidy.low.own b h) Fq,fun a h=>Nat.lt_of_lt_of_le (hc.tidy.low.wc a (gw a h)) Fq,fun a h=>?_⟩,fun a h hb=>?_⟩,⟨_,_,⟨m1.1,B4m.2⟩,?_,fun n=>?_⟩,.inl rfl,.inr rfl,(hKc _ (.inr hc.wc6)).trans hc.two,⟨C,v,⟨k1.tt,fun b hb=>?_⟩,k2,?_,(hKc _ (.inr hc.wc5)).trans k4⟩,fun d hd=>?_,hc.inn,⟨hc.gB.own,fun a h hb=>?_⟩,rfl,fun d hd=>?_,hc.new⟩
  ·rcases h with h|h
   ·exact Nat.lt_of_lt_of_le (hc.tidy.low.ro a h) Fq
   ·subst h;exact B4c.lt
  ·rcases h with (h|h)|h
   ·exact hc.tidy.fV a (.inl h) hb
   ·subst h;exact nK hb
   ·exact hc.tidy.fV a (.inr (gw a h)) hb
  ·rw [Array.toList_push];exact m2.push
  ·rw [←eno,←ec];exact Uw m3 (by rw [eno];exact ab7) n
  ·obtain⟨x1,o,x2,x3⟩:=k1 b hb;refine⟨x1,o,(hKs b x1 fun x=>k2 (x▸hb)).trans x2,OR.gF x3 (fun _ h=>h) Fq⟩
  ·exact k3.blocks fun b hb=>⟨hb,hKs b (k1 b hb).1 fun x=>k2 (x▸hb)⟩
  ·rcases List.mem_cons.1 hd with rfl|hd
   ·rw [hce];exact⟨⟨.inr rfl,Fo⟩,_,B4c.2,rfl⟩
   ·have x:=hc.yr d hd;obtain⟨y,y1,y2⟩:=x.blk;obtain⟨y',y3,y4⟩:=hkd _ _ _ _ y1;exact⟨⟨.inl x.ch.1,(hKc _ (.inl x.ch.1)).trans x.ch.2⟩,y',y3,y4.trans y2⟩
  ·rcases h with (h|h)|h
   ·exact hc.gB.cell a (.inl h) hb
   ·subst h;exact⟨by simp,by simp⟩
   ·exact hc.gB.cell a (.inr (gw a h)) hb
  ·rcases List.mem_cons.1 hd with rfl|hd
   ·exact ek
   ·exact hc.ks d hd
 ·intro c' BQ;cases BQ;rw [ech,ec];refine⟨Bch.1,fun x=>?_,fun x=>?_,⟨0,0,false,B4h.2⟩,cM,fun a h=>?_⟩
  ·have:=hW.tidy.low.own ch x;omega
  ·have:=hc.tidy.low.own ch x;omega
  ·rcases h with (h|h)|(h|h)|(h|h)|h
   ·have:=Ny a (.inl h);omega
   ·subst h;exact cM
   ·have:=Ny a (.inr h);omega
   ·subst h;exact cM
   ·have:=aNd a (.inl h);omega
   ·subst h;exact cM
   ·have:=aNd a (.inr (gw a h));omega
 ·intro a4 s4 d4 q0 q1 q2 q7 q8;have T':Tidy (yF V (fun a=>a=⟨cc,0,none⟩) (fun a=>a=⟨cc,1,none⟩)) w4:=by
   refine⟨gl4,⟨fun b h=>Nat.lt_of_lt_of_le (hW.tidy.low.own b h) Fq,fun a h=>?_,fun a h=>?_⟩,fun a h hb=>?_⟩
   ·rcases h with h|h
    ·exact Nat.lt_of_lt_of_le (Ny a (.inr h)) Fq
    ·subst h;exact B4c.lt
   ·rcases h with h|h
    ·exact Nat.lt_of_lt_of_le (Ny a (.inl h)) Fq
    ·subst h;exact B4c.lt
   ·rcases h with (h|h)|(h|h)
    ·exact hW.tidy.fV a (.inl h) hb
    ·subst h;exact nV hb
    ·exact hW.tidy.fV a (.inr h) hb
    ·subst h;exact nV hb
  have N':dB Γ Γ.me (yF V (fun a=>a=⟨cc,0,none⟩) (fun a=>a=⟨cc,1,none⟩)):=by
   refine⟨hW.gB.own,fun a h hb=>?_⟩;rcases h with (h|h)|(h|h)
   ·exact hW.gB.cell a (.inl h) hb
   ·subst h;exact⟨by simp,by simp⟩
   ·exact hW.gB.cell a (.inr h) hb
   ·subst h;exact⟨by simp,by simp⟩
  have K4:eM V w' (yF V (fun a=>a=⟨cc,0,none⟩) (fun a=>a=⟨cc,1,none⟩)) w4:=⟨Ux.tape.trans W3.tape,Fq,hkd,fun b h=>⟨h,hVs b h⟩,fun a h=>⟨.inl h,hVc a (.inl h)⟩,fun a h=>⟨.inl h,hVc a (.inr h)⟩⟩;have hWg:=hW.keeps K4 rfl T' N';have nch:¬V.own ch:=fun x=>by have:=hW.tidy.low.own ch x;omega
  rw [←eno]at q1;rw [←ec]at q7;refine aWa (c:=c) I hk hWg ek (by omega) (by rw [eno];exact aU) (by omega) ⟨.inl (.inr (by rw [ec])),by rw [ec,ech];exact Fo⟩ (.inr (by rw [ec])) (by rw [ec,hc1];rfl) ⟨_,by rw [ec];exact B4c.2⟩ (by rw [ec];exact oe) (fun bb o hb=>?_) (by rw [ech];exact nch) (by rw [ech];exact B4h.lt) (fun a h=>?_) s4 q0 q1 q2 q7 q8 fun g V1 w5 w6 V5 w7 a5 hg W5 hr S T N s5 d5 u2 u7=>?_
  ·rw [ec];have aZ6:(D.iH Γ.me)≠[]:=fun x=>by
    have:D.len Γ.me=0:=by simp [cY.len,x]
    have hu:1<=D.u:=by rcases I.ok.u with x|x|x|x|x<;>rw [x]<;>decide
    have:=Int.mul_nonneg dS (show 0<=D.u by omega)
    unfold cY.lo at aU;omega
   obtain⟨x,xs,hx⟩:=List.exists_cons_of_ne_nil aZ6;have:=(hW.src.bytes bb o hb 0 x (by rw [hx];rfl)).1
   have:=Ny _ this;simp at this;omega
  ·rw [ech];rcases h with (h|h)|(h|h)
   ·have:=Ny a (.inl h);omega
   ·subst h;exact cM
   ·have:=Ny a (.inr h);omega
   ·subst h;exact cM
  ·have hsV:∀a,V.ro a\/V.wc a->¬(a.block=Γ.src Γ.me/\(a.off=5\/a.off=6)):=fun a h hx=>hx.2.elim (hN a h hx.1).1 (hN a h hx.1).2;rw [ec]at W5 S;have r1:V1.ro=fun a=>V.ro a\/a=⟨cc,0,none⟩:=W5.ro;have r2:V1.wc=fun a=>V.wc a\/a=⟨cc,1,none⟩:=W5.wc;have bl:∀a,V.ro a\/V.wc a->a.block≠cc:=fun a h=>by have:=Ny a h;omega
   have K7:eM V w' V5 w7:=by
    refine⟨S.tape.trans (hr.tape.trans (W5.tape.trans K4.tape)),Nat.le_trans Fq (Nat.le_trans W5.size (Nat.le_trans hr.size S.size)),hkd.trans (W5.kind.trans (hr.kind.trans S.kind)),fun b hb=>?_,fun a h=>?_,fun a h=>?_⟩
    ·have y:V1.own b:=W5.mine b hb;have x:=S.own b y (by have:=hW.tidy.low.own b hb;omega)
     exact⟨x.1,x.2.trans ((hr.own b y).trans ((W5.own b hb id).trans (hVs b hb)))⟩
    ·have y:V1.ro a:=by rw [r1];exact .inl h
     have x:=S.ro a y (hsV a (.inl h));exact⟨x.1,x.2.trans ((hr.cell a (.inl y)).trans ((W5.cell a (.inl (.inl h)) fun q=>bl a (.inl h) q.1).trans (hVc a (.inl h))))⟩
    ·have y:V1.wc a:=by rw [r2];exact .inl h
     have x:=S.wc a y (fun q=>bl a (.inr h) (by rw [q])) (hsV a (.inr h))
     exact⟨x.1,x.2.trans ((hr.cell a (.inr y)).trans ((W5.cell a (.inr (.inl h)) fun q=>bl a (.inr h) q.1).trans (hVc a (.inr h))))⟩
   have y0:V1.ro ⟨cc,0,none⟩:=by rw [r1];exact .inr rfl
   have x0:=S.ro _ y0 fun q=>oe q.1;refine avU (c:=c) (e:=e) I hk (hW.keeps K7 S.deaf T N) ⟨.inl (by rw [ec];exact x0.1),?_⟩ ek eno (hK.trans K7) (fun a h hb=>?_) (by show 1<=e.n-1-1;omega) (by show e.n<=e.n-1-1+3;omega) rfl s5 ((d5.trans (d4.trans d3)).trans hd) u2 u7 K
   ·rw [ec,ech,x0.2,hr.cell _ (.inl y0),W5.cell _ (.inl (.inr rfl)) fun q=>(by simp at q)]
    exact Fo
   ·rcases S.back a h with h|h|h
    ·rw [r1]at h;rcases h with h|h
     ·exact hN a (.inl h) hb
     ·subst h;exact⟨by simp,by simp⟩
    ·rw [r2]at h;rcases h with h|h
     ·exact hN a (.inr h) hb
     ·subst h;exact⟨by simp,by simp⟩
    ·exact absurd hb h
theorem avV(I:Is Γ D)(hk:b.kind≠.early)(hW:Wk Γ D V w)(hN:j5 Γ V)(dS:0<=no)(aU:D.lo no<D.len Γ.me)(rp:no=Γ.item e.s)(he:5<=e.n)
  (hs:a.tmps.size=56)(hd:a.defers=[])(h0:a.eval (.tmp 0)=.pointer (some ⟨Γ.src Γ.me,0,none⟩))(h1:a.eval (.tmp 1)=.int .i64 no)(h2:a.eval (.tmp 2)=.chan (some Γ.off))
  (K:azO Γ D e no V w b cs):bf (At Γ) (fun t=>t=⟨e,.none,.lk Γ.me .yJ⟩) V (G (b.at a (.code Gc::k)) cs) w:=by
 refine aZZ I hk hW hs h0 h1 h2 ?_;intro w1 γ VK hr rM ha jN U7 a1 s1 d1 g0 g1 g2;have hc:=(I.cont _ _ _ _).1 jN;have zx:=hW.rely hr;obtain⟨es,cl,m1,m2,m3⟩:=hc.map;refine aZ0 hk zx.src.left.map m1.right m2 s1 g0 g1 g2 fun a2 s2 d2 f0 f1 f2 f7 f8=>?_;rw [m3 no]at f7 f8;cases hf:γ.bO.find? (fun c=>c.no==no)with
 |none=>
  simp only [cellOf,hf,Option.map_none,Option.isSome_none]at f8;exact al0 I hk zx hc ha (.bk hr) hN hf dS aU rp he s2 ((d2.trans d1).trans hd) f0 f1 f2 f8 K
 |some c=>
  simp only [cellOf,hf,Option.map_some,Option.isSome_some,Option.getD_some]at f7 f8;exact alZ I hk zx hc ha (.bk hr) hN (GQ hf).1 (GQ hf).2 rp he s2 ((d2.trans d1).trans hd) f0 f1 f2 f7 f8 K
end
def EG(ops:Array Oper):Nat->Nat->Nat->Bool
 |0,_,_=>false
 |f+1,i,j=>((ops[i]?).map fun o=>(Oper.fI o).elem j||(Oper.fI o).any fun l=>EG ops f l j).getD false
def EH(ops:Array Oper)(om:Oper)(m f:Nat):Bool:=(List.range m).all fun j=>(Oper.fI om).elem j||(Oper.fI om).any fun l=>EG ops f l j
theorem EI{ops:Array Oper}{ex:Nat->Prop}(h2:∀j oj,ops[j]? =some oj->ex j->∀d∈Oper.fI oj,ex d):∀(f i j:Nat),EG ops f i j=true->ex i->ex j
 |0,_,_,h,_=>by cases h
 |f+1,i,j,h,hi=>by
  unfold EG at h;cases ho:ops[i]? with
  |none=>rw [ho]at h;cases h
  |some o=>
   rw [ho]at h;simp only [Option.map_some,Option.getD_some,Bool.or_eq_true,List.any_eq_true]at h;rcases h with h|⟨l,h3,h4⟩
   ·exact h2 i o ho hi j (fZ h)
   ·exact EI h2 f l j h4 (h2 i o ho hi l h3)
theorem iz{ops:Array Oper}{om:Oper}{m f:Nat}(h:EH ops om m f=true){ex:Nat->Prop}(h1:∀j∈Oper.fI om,ex j)(h2:∀j oj,ops[j]? =some oj->ex j->∀d∈Oper.fI oj,ex d):∀j,j<m->ex j:=fun j hj=>by
 unfold EH at h;have:=List.all_eq_true.1 h j (List.mem_range.2 hj);simp only [Bool.or_eq_true,List.any_eq_true]at this;rcases this with h|⟨l,h3,h4⟩
 ·exact h1 j (fZ h)
 ·exact EI h2 f l j h4 (h1 l h3)
theorem avW{id:Nat}{c:Code}(hS:fg P main S)(e:c=.region id ops true)(D:List Nat)(F:List Spec)(live:List (Nat×Value))(m:Nat)(hm:ops.size=m+2)(yd:akm ops=true){om on:Oper}(hom:ops[m]? =some om)(hon:ops[m+1]? =some on)
  {fu:Nat}(lq:EH ops om m fu=true)(EJ:EH ops on (m+1) (fu+1)=true)(hD:D.length=m)(hF:F.length=m)(ZP:D.Nodup)(hdl:∀p∈live,p.1∉D){a:Act}{V:View}{w:World}(Mid Fin:Act->View->World->Prop)
  (hl:∀p∈live,a.eval (.tmp p.1)=p.2)(hT:Tidy V w)
  (step:∀(i:Nat) (d:Nat) (s:Spec) (o:Oper) (rest:List Nat),i<m->D[i]? =some d->F[i]? =some s->ops[i]? =some o->∀a' V' w',Std a.tmps.size a.defers live V w a' V' w'->ey D F (fun j=>j∈Oper.fI o) a' V' w'->
   (∀dA dq cO,dA.tmps.size=a'.tmps.size->dA.defers=a'.defers->(∀j,d≠j->dA.eval (.tmp j)=a'.eval (.tmp j))->aG aI aD V' w' dq cO->Tidy dq cO->s.ok (dA.eval (.tmp d)) dq cO->Loc P main Stop dq (G (S dA (.inRegion ops rest::k)) cs) cO)->
   Loc P main Stop V' (G (S a' (.inRegion ops (i::rest)::k)) cs) w')
  (last:∀(rest:List Nat) a' V' w',Std a.tmps.size a.defers live V w a' V' w'->ey D F (fun j=>j<m) a' V' w'->
   (∀dA dq cO,Mid dA dq cO->Loc P main Stop dq (G (S dA (.inRegion ops rest::k)) cs) cO)->
   Loc P main Stop V' (G (S a' (.inRegion ops (m::rest)::k)) cs) w')
  (avX:∀(rest:List Nat) a' V' w',Mid a' V' w'->
   (∀dA dq cO,Fin dA dq cO->Loc P main Stop dq (G (S dA (.inRegion ops rest::k)) cs) cO)->
   Loc P main Stop V' (G (S a' (.inRegion ops ((m+1)::rest)::k)) cs) w')
  (K:∀a' V' w',Fin a' V' w'->Loc P main Stop V' (G (S a' k) cs) w'):Loc P main Stop V (G (S a (.code c::k)) cs) w:=by
 refine xd (β:=Unit) (St:=fun _=>Stop) (q:=()) hS e (fun ex _ a' V' w'=>(ex (m+1)->Fin a' V' w')/\(¬ex (m+1)->ex m->Mid a' V' w')/\(¬ex (m+1)->¬ex m->Std a.tmps.size a.defers live V w a' V' w'/\ey D F (fun j=>ex j/\j<m) a' V' w')) (BB yd)
  (fun ex w₁ hex hr=>⟨fun h=>absurd h (hex _),fun _ h=>absurd h (hex m),fun _ _=>⟨⟨rfl,rfl,hl,.bk hr,hT.aC (.bk hr)⟩,fun j d s h=>absurd h.1 (hex j)⟩⟩) ?_ fun ex q a V w h1 h2=>K a V w (h2.1 (h1 _ (by omega)))
 intro ex i o rest ho GJ yN ml q a' V' w' hB hK;have hi:=(Array.getElem?_eq_some_iff.1 ho).1;by_cases eD:i=m+1
 ·subst eD;obtain rfl:=Option.some.inj (hon.symm.trans ho);exact avX rest a' V' w' (hB.2.1 GJ (iz EJ yN ml m (by omega))) fun dA dq cO hf=>hK () dA dq cO ⟨fun _=>hf,fun hn=>absurd (.inl rfl) hn,fun hn=>absurd (.inl rfl) hn⟩
 have hnn:¬ex (m+1):=fun x=>GJ (iz EJ (ml _ on hon x) ml i (by omega))
 by_cases him:i=m
 ·subst him;obtain rfl:=Option.some.inj (hom.symm.trans ho);obtain⟨h1,h2⟩:=hB.2.2 hnn GJ;refine last rest a' V' w' h1 (fun j d s hj hd hs=>h2 j d s ⟨iz lq yN ml j hj,hj⟩ hd hs) fun dA dq cO hf=>hK () dA dq cO ⟨fun h=>h.elim (fun x=>absurd x (by omega)) fun x=>absurd x hnn,fun _ _=>hf,fun _ hn=>absurd (.inl rfl) hn⟩
 ·have Un:i<m:=by omega
  have hnm:¬ex m:=fun x=>GJ (iz lq (ml m om hom x) ml i Un);obtain⟨h1,h2⟩:=hB.2.2 hnn hnm;obtain⟨d,hd⟩:∃d,D[i]? =some d:=⟨_,List.getElem?_eq_getElem (show i<D.length by omega)⟩
  obtain⟨s,hs⟩:∃s,F[i]? =some s:=⟨_,List.getElem?_eq_getElem (show i<F.length by omega)⟩
  refine step i d s o rest Un hd hs ho a' V' w' h1 (fun j d' s' hj aV aZ=>h2 j d' s' ⟨yN j hj,?_⟩ aV aZ) fun dA dq cO e1 e2 e3 e4 e5 e6=>hK () dA dq cO ⟨fun h=>?_,fun _ h=>?_,fun _ _=>⟨⟨e1.trans h1.size,e2.trans h1.defers,fun p hp=>?_,h1.aC.trans e4,e5⟩,?_⟩⟩
  ·have:=(List.getElem?_eq_some_iff.1 aV).1;omega
  ·exact h.elim (fun x=>absurd x.symm eD) fun x=>absurd x hnn
  ·exact h.elim (fun x=>absurd x.symm him) fun x=>absurd x hnm
  ·have cM:d≠p.1:=fun x=>hdl p hp (x▸List.mem_of_getElem? hd);exact(e3 p.1 cM).trans (h1.live p hp)
  ·rintro j d' s' ⟨hj,hjm⟩ aV aZ;by_cases Fc:j=i
   ·subst Fc;rw [hd]at aV;cases aV;rw [hs]at aZ;cases aZ;exact e6
   ·have lO:ex j:=hj.resolve_left Fc;have cM:d≠d':=fun x=>by
     subst x;obtain⟨l1,m1⟩:=List.getElem?_eq_some_iff.1 hd;obtain⟨l2,m2⟩:=List.getElem?_eq_some_iff.1 aV;exact Fc ((List.getElem_inj ZP).1 (m2.trans m1.symm))
    rw [e3 d' cM];exact(h2 j d' s' ⟨lO,hjm⟩ aV aZ).go e4
structure Left(B:Nat->Prop)(V:View)(w:World)(V':View)(w':World):Prop where
 tape:w'.tape=w.tape
 size:w.heap.size<=w'.heap.size
 kind:eG w w'
 own:∀b,V.own b->V'.own b/\(¬B b->w'.heap[b]? =w.heap[b]?)
 ro:∀a,V.ro a->V'.ro a/\w'.cell? a=w.cell? a
 wc:∀a,V.wc a->V'.wc a/\w'.cell? a=w.cell? a
section
variable {D:cY} {B B':Nat->Prop} {V' dq:View} {w cO:World} {b:Nat} {o:Obj} {ad:Addr} {v:Value} {e:TypeId} {size:Nat} {k:Nat}
theorem Left.Uy(h:eM V w V' w'):Left aI V w V' w':=⟨h.tape,h.size,h.kind,fun b hb=>⟨(h.own b hb).1,fun _=>(h.own b hb).2⟩,h.ro,h.wc⟩
theorem Left.jk(h:aG B aD V w V' w'):Left B V w V' w':=⟨h.tape,h.size,h.kind,fun b hb=>⟨h.mine b hb,h.own b hb⟩,fun a ha=>⟨by rw [h.ro];exact ha,h.cell a (.inl ha) id⟩,fun a ha=>⟨by rw [h.wc];exact ha,h.cell a (.inr ha) id⟩⟩
theorem Left.refl(V:View)(w:World):Left aI V w V w:=.jk (.refl V w)
theorem Left.mono(h:Left B V w V' w')(hB:∀b,V.own b->B b->B' b):Left B' V w V' w':=⟨h.tape,h.size,h.kind,fun b hb=>⟨(h.own b hb).1,fun hn=>(h.own b hb).2 fun x=>hn (hB b hb x)⟩,h.ro,h.wc⟩
theorem Left.trans(h:Left B V w V' w')(k:Left B V' w' dq cO):Left B V w dq cO:=
 ⟨k.tape.trans h.tape,Nat.le_trans h.size k.size,h.kind.trans k.kind,fun b hb=>⟨(k.own b (h.own b hb).1).1,fun hn=>((k.own b (h.own b hb).1).2 hn).trans ((h.own b hb).2 hn)⟩,
  fun a ha=>⟨(k.ro a (h.ro a ha).1).1,(k.ro a (h.ro a ha).1).2.trans (h.ro a ha).2⟩,fun a ha=>⟨(k.wc a (h.wc a ha).1).1,(k.wc a (h.wc a ha).1).2.trans (h.wc a ha).2⟩⟩
theorem Left.none(h:Left aI V w V' w'):Left B V w V' w':=h.mono fun _ _ h=>h.elim
theorem ba.eN(h:ba V w b o)(K:Left B V w V' w')(hB:¬B b):ba V' w' b o:=⟨(K.own b h.1).1,((K.own b h.1).2 hB).trans h.2⟩
theorem Cl.eN(h:Cl V w ad v)(K:Left B V w V' w'):Cl V' w' ad v:=⟨h.1.imp (fun x=>(K.ro ad x).1) fun x=>(K.wc ad x).1,(h.1.elim (fun x=>(K.ro ad x).2) fun x=>(K.wc ad x).2).trans h.2⟩
theorem Row.eN(h:Row V w e size v n xs)(K:Left B V w V' w')(hB:∀g,v.ownBlock=some g->¬B g):Row V' w' e size v n xs:=⟨ew h.1 fun g hg=>(K.own g (h.2 g hg)).2 (hB g hg),fun g hg=>(K.own g (h.2 g hg)).1⟩
theorem kX.eN(h:kX Γ D k V w)(K:Left B V w V' w'):kX Γ D k V' w':=⟨h.obj.eN K,h.unit.eN K,h.map.eN K,fun b o e j x hj=>(h.bytes b o e j x hj).eN K⟩
theorem j5.aC{A:Addr->Prop}(h:j5 Γ V)(k:aG B A V w V' w'):j5 Γ V':=fun a ha hb=>by
 rw [k.ro,k.wc]at ha;exact h a ha hb
end
def cY.fA(D:cY)(k:Nat)(a b:Int):List Value:=(D.cut k a b).map dG
section
variable {D:cY} {k:Nat} {a b c:Int}
theorem Nz(h0:0<=a)(h1:a<=b)(h2:b<=D.len k):(D.cut k a b).length=(b-a).toNat:=by
 unfold cY.cut cY.len at*;simp;omega
theorem Uz(h0:0<=a)(h1:a<=b)(h2:b<=D.len k):(D.fA k a b).length=(b-a).toNat:=by rw [cY.fA,List.length_map,Nz h0 h1 h2]
theorem akr{j:Nat}(h:j<(b-a).toNat):(D.cut k a b)[j]? =(D.iH k)[a.toNat+j]? :=by
 unfold cY.cut;rw [List.getElem?_take_of_lt h,List.getElem?_drop]
theorem ZY{j:Nat}{x:Int}(h:(D.cut k a b)[j]? =some x):j<(b-a).toNat:=by
 have:=(List.getElem?_eq_some_iff.1 h).1;unfold cY.cut at this;simp at this;omega
theorem avZ{j:Nat}{v:Value}(h:(D.fA k a b)[j]? =some v):∃x,(D.cut k a b)[j]? =some x/\v=dG x:=by
 unfold cY.fA at h;rw [List.getElem?_map]at h;obtain⟨x,hx,rfl⟩:=Option.map_eq_some_iff.1 h;exact⟨x,hx,rfl⟩
theorem azR:D.cut k a a=[]:=by unfold cY.cut;simp
theorem UA:D.fA k a a=[]:=by unfold cY.fA;rw [azR];rfl
theorem ZZ(h0:0<=a)(h1:a<=b)(h2:b<=c):D.cut k a b++D.cut k b c=D.cut k a c:=by
 unfold cY.cut;have e1:b.toNat=a.toNat+(b-a).toNat:=by omega
 have e2:(c-a).toNat=(b-a).toNat+(c-b).toNat:=by omega
 rw [e1,e2,←List.drop_drop,List.take_add]
theorem UB(h0:0<=a)(h1:a<=b)(h2:b<=c):D.fA k a b++D.fA k b c=D.fA k a c:=by
 unfold cY.fA;rw [←List.map_append,ZZ h0 h1 h2]
theorem al1{vs:List Int}:∀u∈vs.map dG,u.oneCell'=true:=by
 intro u hu;obtain⟨x,_,rfl⟩:=List.mem_map.1 hu;rfl
theorem xf{Γ:Rc}(h:lH Γ D):1<=D.u/\D.u<=16:=by rcases h.u with x|x|x|x|x<;>rw [x]<;>decide
end
section
variable {w:World} {a:Act} {rest:List Nat} {o:Oper}
theorem bI{f:FuncId}{fn:Func}{xs:Array Operand}{gY:Array TypeId}{c:Code}(ho:ops[i]? =some o)(hw:Region.wanted o (yielded ops a.tmps)=true)(hS:fg P main S)(aE:o.op=.call {callee:=.value (.func f),args:=xs,argTypes:=gY})
  (hf:P.funcs[f]? =some fn)(jq:(fn.name== "runtime.NumGoroutine")=false)(hb:fn.body=some c)
  (K:Loc P main Stop V (G ((base f).at {tmps:=xs.map a.eval++Array.replicate (fn.ntmps-(xs.map a.eval).size) undef,defers:=[]} [.code c]) (S a (.inRegion ops (i::rest)::k)::cs)) w):
  Loc P main Stop V (G (S a (.inRegion ops (i::rest)::k)) cs) w:=
 ao2 ho hw hS aE hf jq hb (by rw [enter_at _ hf hb];exact K)
end
section
variable {D:cY} {w:World} {a:Act} {q:Int}
theorem aNf(hk:b.kind≠.early)(hT:Tidy V w)(hl:ba V w l (.loop r))(nf:r.state=.ready){x3 x5 x10:Value}
  (hs:a.tmps.size=93)(h3:a.eval (.tmp 3)=x3)(h5:a.eval (.tmp 5)=x5)(aM:a.eval (.tmp 10)=x10)(Fe:a.eval (.tmp 55)=.int .i64 no)(Ff:a.eval (.tmp 56)=.agg #[.int .i64 p,.int .i64 q])
  (K:∀n a' V' w',a'.tmps.size=93->a'.defers=a.defers->a'.eval (.tmp 3)=x3->a'.eval (.tmp 5)=x5->a'.eval (.tmp 10)=x10->a'.eval (.tmp 11)=.int .i64 no->a'.eval (.tmp 12)=.pointer (some ⟨n,0,none⟩)->
   w.heap.size<=n->aG (· =l) aD V w V' w'->ba V' w' n (.cells #[.int .i64 p,.int .i64 q] 32 (0,0))->ba V' w' l (.loop {r with state:=.busy})->Tidy V' w'->Loc prog false Stop V' (G (jO b l a' (.code xP::.inBlock 1::k)) cs) w'):
  Loc prog false Stop V (G (jO b l a (.code te::.beginRound::.code xO::k)) cs) w:=by
 have hS:=vh (P:=prog) (main:=false) hk l;obtain⟨ds,hd⟩:∃ds,a.defers=ds:=⟨_,rfl⟩;rw [hd]at K;refine aj hS aIG (ag hS aIE (rl [0] rfl) (ay aec hS hs (ak aec.o Fe) fun a ae aH=>t4 ae hs hd h3 h5 aM Ff fun hs hd h3 h5 aM Ff=>?_));refine ai hS (ag hS aIF (rl [0,1] rfl) (dN vR.a vR.f hS vR.d (by rw [hs];decide) hT vR.o Tryz.zeroValue32 fun n a V1 w1 au an ah aJ W1 hn B1 T1=>t5 ⟨au,an,ah⟩ hs hd h3 h5 aM aH Ff fun hs hd h3 h5 aM aH Ff=>?_))
 refine gg vS.a vS.f hS vS.d vS.o aJ Ff (vs:=[.int .i64 p,.int .i64 q]) rfl sizeOf32 (fun u hu=>by simp at hu;rcases hu with rfl|rfl<;>rfl) (show ba V1 w1 n (.cells #[.int .i64 0,.int .i64 0] 32 (0,0))from B1) (by simp) T1 fun w2 W2 B2 T2 z2=>ai hS ?_
 have hln:l≠n:=hl.aGC hn;have hl2:ba V1 w2 l (.loop r):=(hl.go W1).off W2 hln;refine I3 hk T2 hl2 nf fun w3 W3 B3 T3=>bV hS aIS ?_;have W12:aG (· =l) aD V w V1 w2:=(W1.fresh W2 hn hT).mono (fun _ h=>h.elim) fun _ h=>h;exact K n _ _ _ hs hd h3 h5 aM aH aJ hn (W12.trans W3) (B2.off W3 hln.symm) B3 T3
theorem aNg(I:Is Γ D)(hk:b.kind≠.early)(hW:Wk Γ D V w)(hN:j5 Γ V)(dS:0<=no)(aU:D.lo no<D.len Γ.me)(rp:no=Γ.item e.s)(he:5<=e.n){x10 x12:Value}
  (E1:ba V w b3 (.cells #[.pointer (some ⟨Γ.src Γ.me,0,none⟩)] 51 (0,0)))(NO:ba V w b5 (.cells #[.chan (some Γ.off)] 106 (0,0)))
  (hs:a.tmps.size=93)(h3:a.eval (.tmp 3)=.pointer (some ⟨b3,0,none⟩))(h5:a.eval (.tmp 5)=.pointer (some ⟨b5,0,none⟩))(aM:a.eval (.tmp 10)=x10)(aH:a.eval (.tmp 11)=.int .i64 no)(aJ:a.eval (.tmp 12)=x12)
  (K:∀V' w' bb cap a',eM V w V' w'->Wk Γ D V' w'->j5 Γ V'->(∀j x,(D.cut Γ.me (D.lo no) (D.hi Γ.me no))[j]? =some x->V'.ro ⟨bb,j,none⟩/\w'.cell? ⟨bb,j,none⟩=some (dG x))->(D.cut Γ.me (D.lo no) (D.hi Γ.me no)).length<=cap->
   a'.tmps.size=93->a'.defers=a.defers->a'.eval (.tmp 3)=.pointer (some ⟨b3,0,none⟩)->a'.eval (.tmp 5)=.pointer (some ⟨b5,0,none⟩)->a'.eval (.tmp 10)=x10->a'.eval (.tmp 11)=.int .i64 no->a'.eval (.tmp 12)=x12->a'.eval (.tmp 13)=.slice (some ⟨bb,0,none⟩) (D.cut Γ.me (D.lo no) (D.hi Γ.me no)).length cap->
   bf (At Γ) (Next Γ ⟨e.n-4,e.s⟩ .none) V' (G (jO b l a' (.code xR::k)) cs) w'):
  bf (At Γ) (fun t=>t=⟨e,.none,.lk Γ.me .yJ⟩) V (G (jO b l a (.code xP::k)) cs) w:=by
 have hS:=vh (P:=prog) (main:=false) hk l;obtain⟨ds,hd⟩:∃ds,a.defers=ds:=⟨_,rfl⟩;rw [hd]at K;refine aj hS aIR (ag hS aIH (rl [0,1,2,3,4] rfl) (ay Sk hS hs (aL Sk.o h3 isAgg51 (E1.cK rfl)) fun a ae h57=>t5 ae hs hd h3 h5 aM aH aJ fun hs hd h3 h5 aM aH aJ=>?_));refine ay Sl hS hs (af Sl.o aH) fun a ae Fg=>t6 ae hs hd h3 h5 aM aH aJ h57 fun hs hd h3 h5 aM aH aJ h57=>?_;refine ay Sm hS hs (aL Sm.o h5 isAgg106 (NO.cK rfl)) fun a ae CZ=>t7 ae hs hd h3 h5 aM aH aJ h57 Fg fun hs hd h3 h5 aM aH aJ h57 Fg=>?_;refine bI pJ.a pJ.f hS pJ.o func51 (by kernel_rfl) aHo (avV (b:=base 51) (e:=e) (no:=no) I (by decide) hW hN dS aU rp he (by simp [show Tryz.f51.ntmps=56 from rfl]) rfl (by simpa [Act.eval]using h57) (by simpa [Act.eval]using Fg) (by simpa [Act.eval]using CZ) ?_)
 intro V' w' bb cap hK Xm hN' hB hc a' todo aV h6;refine dM hS rfl aV func51 rfl pJ.a pJ.d (by rw [hs];decide) fun a au an ah rn=>?_
 rw [h6]at rn;refine t5 ⟨au,an,ah⟩ hs hd h3 h5 aM aH aJ fun hs hd h3 h5 aM aH aJ=>?_;refine ay Sn hS hs (ak Sn.o rn) fun a ae aK=>t5 ae hs hd h3 h5 aM aH aJ fun hs hd h3 h5 aM aH aJ=>?_;exact ai hS (K V' w' bb cap _ hK Xm hN' hB hc hs hd h3 h5 aM aH aJ aK)
end
section
variable {D:cY} {w:World} {a:Act} {n12 bb cap:Nat} {q:Int}
theorem aNi(I:Is Γ D)(hk:b.kind≠.early)(hW:Wk Γ D V w)(dS:0<=no)(hp:D.lo no<=p)(hpq:p<q)(hq:q<=D.hi Γ.me no){x10:Value}
  (E1:ba V w b3 (.cells #[.pointer (some ⟨Γ.src Γ.me,0,none⟩)] 51 (0,0)))(av0:ba V w n12 (.cells #[.int .i64 p,.int .i64 q] 32 (0,0)))
  (hs:a.tmps.size=93)(h3:a.eval (.tmp 3)=.pointer (some ⟨b3,0,none⟩))(aM:a.eval (.tmp 10)=x10)(aH:a.eval (.tmp 11)=.int .i64 no)(aJ:a.eval (.tmp 12)=.pointer (some ⟨n12,0,none⟩))
  (aK:a.eval (.tmp 13)=.slice (some ⟨bb,0,none⟩) (D.cut Γ.me (D.lo no) (D.hi Γ.me no)).length cap)
  (K:∀a',a'.tmps.size=93->a'.defers=a.defers->a'.eval (.tmp 10)=x10->a'.eval (.tmp 12)=.pointer (some ⟨n12,0,none⟩)->a'.eval (.tmp 13)=.slice (some ⟨bb,0,none⟩) (D.cut Γ.me (D.lo no) (D.hi Γ.me no)).length cap->a'.eval (.tmp 14)=.int .i64 (D.lo no)->
   Loc prog false Stop V (G (jO b l a' (.code Du::k)) cs) w):
  Loc prog false Stop V (G (jO b l a (.code xR::k)) cs) w:=by
 have hS:=vh (P:=prog) (main:=false) hk l;obtain⟨ds,hd⟩:∃ds,a.defers=ds:=⟨_,rfl⟩;rw [hd]at K;have rn:=I.ok.len Γ.me;have hlen:D.len Γ.me=((D.iH Γ.me).length:Int):=rfl;have hhi:D.hi Γ.me no<=D.len Γ.me:=Int.min_le_right _ _;have hu:=xf I.ok;have aNj:0<=D.lo no:=Int.mul_nonneg dS (by omega)
 have ml:=Nz (D:=D) (k:=Γ.me) (a:=D.lo no) (b:=D.hi Γ.me no) aNj (by omega) hhi
 refine aj hS aIQ (ag hS aII (rl [0,1,2,3,4,5,6] rfl) (ay Sq hS hs (af Sq.o aH) fun a ae kJ=>t4 ae hs hd h3 aM aJ aK fun hs hd h3 aM aJ aK=>?_));refine ay Sr hS hs (aL Sr.o h3 isAgg51 (E1.cK rfl)) fun a ae zy=>t4 ae hs hd aM aJ aK kJ fun hs hd aM aJ aK kJ=>?_;refine ay Ss hS hs (bE Ss.o zy) fun a ae CW=>t4 ae hs hd aM aJ aK kJ fun hs hd aM aJ aK kJ=>?_;refine ay Su hS hs (aB Su.o CW underlying61 rfl sizeOf2 (by decide) rfl) fun a ae Va=>t4 ae hs hd aM aJ aK kJ fun hs hd aM aJ aK kJ=>?_
 refine ay Sv hS hs (aL Sv.o Va isAgg2 hW.src.unit.cK) fun a ae Xt=>t4 ae hs hd aM aJ aK kJ fun hs hd aM aJ aK kJ=>?_;refine ay Sw hS hs (aAX Sw.o kJ Xt) fun a ae h66=>t3 ae hs hd aM aJ aK fun hs hd aM aJ aK=>?_;have h66:a.eval (.tmp 66)=.int .i64 (D.lo no):=by rw [h66,IntWalk.i64_in _ (by show _<=D.lo no/\D.lo no<=_;omega)];rfl
 refine ay Sy hS hs (ak Sy.o h66) fun a ae aW=>t3 ae hs hd aM aJ aK fun hs hd aM aJ aK=>?_;refine ai hS (aj hS aIP (aj hS aIN (ag hS aIJ (rl [0,1,2,3,4,5,6] rfl) (ay Sz hS hs (af Sz.o aK) fun a ae Xu=>t4 ae hs hd aM aJ aK aW fun hs hd aM aJ aK aW=>?_))));refine ay SA hS hs (dk SA.o Xu underlying25) fun a ae C0=>t4 ae hs hd aM aJ aK aW fun hs hd aM aJ aK aW=>?_;refine ay SB hS hs (aB SB.o aJ underlying32 rfl sizeOf2 (by decide) rfl) fun a ae h69=>t5 ae hs hd aM aJ aK aW C0 fun hs hd aM aJ aK aW C0=>?_
 refine ay SC hS hs (aL SC.o h69 isAgg2 (av0.cK rfl)) fun a ae U9=>t5 ae hs hd aM aJ aK aW C0 fun hs hd aM aJ aK aW C0=>?_;refine ay SD hS hs (af SD.o aW) fun a ae h71=>t6 ae hs hd aM aJ aK aW C0 U9 fun hs hd aM aJ aK aW C0 U9=>?_;refine ay SE hS hs (BX SE.o U9 h71) fun a ae NP=>t5 ae hs hd aM aJ aK aW C0 fun hs hd aM aJ aK aW C0=>?_;refine ay SF hS hs (du SF.o C0 NP) fun a ae h73=>t4 ae hs hd aM aJ aK aW fun hs hd aM aJ aK aW=>?_;have h73:a.eval (.tmp 73)=.bool false:=by
  rw [h73,IntWalk.i64_in _ (by omega),ml]
  simp;omega
 exact ai hS (aX hS aIM h73 (q_skip hS aIL (K _ hs hd aM aJ aK aW)))
theorem aNk(I:Is Γ D)(hk:b.kind≠.early)(hT:Tidy V w)(dS:0<=no)(hp:D.lo no<=p)(hpq:p<q)(hq:q<=D.hi Γ.me no){vo:Value}{xs:List Value}
  (nJ:ba V w iM (.cells #[vo] 25 (0,0)))(ir:Row V w 5 1 vo xs.length xs)(hxs:xs.length<=1000)(av0:ba V w n12 (.cells #[.int .i64 p,.int .i64 q] 32 (0,0)))
  (hB:∀j x,(D.cut Γ.me (D.lo no) (D.hi Γ.me no))[j]? =some x->V.ro ⟨bb,j,none⟩/\w.cell? ⟨bb,j,none⟩=some (dG x))(hc:(D.cut Γ.me (D.lo no) (D.hi Γ.me no)).length<=cap)
  (hs:a.tmps.size=93)(aM:a.eval (.tmp 10)=.pointer (some ⟨iM,0,none⟩))(aJ:a.eval (.tmp 12)=.pointer (some ⟨n12,0,none⟩))
  (aK:a.eval (.tmp 13)=.slice (some ⟨bb,0,none⟩) (D.cut Γ.me (D.lo no) (D.hi Γ.me no)).length cap)(aW:a.eval (.tmp 14)=.int .i64 (D.lo no))
  (K:∀jQ a' V' w',a'.defers=a.defers->aG (fun b=>b=iM\/some b=vo.ownBlock) aD V w V' w'->ba V' w' iM (.cells #[jQ] 25 (0,0))->Row V' w' 5 1 jQ (xs++D.fA Γ.me p q).length (xs++D.fA Γ.me p q)->(∀g,jQ.ownBlock=some g->vo.ownBlock=some g\/w.heap.size<=g)->Tidy V' w'->
   Loc prog false Stop V' (G (jO b l a' k) cs) w'):
  Loc prog false Stop V (G (jO b l a (.code Du::k)) cs) w:=by
 have hS:=vh (P:=prog) (main:=false) hk l;have rn:=I.ok.len Γ.me;have hlen:D.len Γ.me=((D.iH Γ.me).length:Int):=rfl;have hhi:D.hi Γ.me no<=D.len Γ.me:=Int.min_le_right _ _;have hu:=xf I.ok;have aNj:0<=D.lo no:=Int.mul_nonneg dS (by omega)
 have ml:=Nz (D:=D) (k:=Γ.me) (a:=D.lo no) (b:=D.hi Γ.me no) aNj (by omega) hhi
 have yq:=Uz (D:=D) (k:=Γ.me) (a:=p) (b:=q) (by omega) (by omega) (by omega)
 obtain⟨lo,hlo⟩:∃n:Nat,p-D.lo no=(n:Int):=⟨(p-D.lo no).toNat,by omega⟩
 obtain⟨up,aZ8⟩:∃n:Nat,q-D.lo no=(n:Int):=⟨(q-D.lo no).toNat,by omega⟩
 obtain⟨i5,hi5,hz5,hs5,NO⟩:=info_parts avG;have vj:∀j u,(D.fA Γ.me p q)[j]? =some u->V.ro ⟨bb,lo+j,none⟩/\w.cell? ⟨bb,lo+j,none⟩=some u:=fun j u hj=>by
  obtain⟨x,hx,rfl⟩:=avZ hj;refine hB (lo+j) x ?_;have:=ZY hx;rw [akr this]at hx;rw [akr (by omega),←hx,show(D.lo no).toNat+(lo+j)=p.toNat+j by omega]
 have aWc:∀g,vo.ownBlock=some g->g≠iM/\g≠n12:=fun g hg=>by
  rcases ir.1.2 with ⟨rfl,_⟩|⟨g',Nx,cur,rfl,_,h1,_⟩
  ·cases hg
  ·obtain rfl:g'=g:=by simpa [Value.ownBlock]using hg
   exact⟨fun e=>by rw [e,nJ.2]at h1;simp at h1,fun e=>by rw [e,av0.2]at h1;simp at h1⟩
 refine avW hS aIO [76,77,78,79,80,81,82,83,84,85,86] [.val vo,.val (.slice (some ⟨bb,0,none⟩) (D.cut Γ.me (D.lo no) (D.hi Γ.me no)).length cap),.val (.pointer (some ⟨n12,0,none⟩)),.val (.int .i64 p),.val (.int .i64 (D.lo no)),.val (.int .i64 (lo:Int)),.val (.pointer (some ⟨n12,1,none⟩)),.val (.int .i64 q),.val (.int .i64 (D.lo no)),.val (.int .i64 (up:Int)),.val (.slice (some ⟨bb,lo,none⟩) (up-lo) (cap-lo))] [(10,.pointer (some ⟨iM,0,none⟩)),(12,.pointer (some ⟨n12,0,none⟩)),(13,.slice (some ⟨bb,0,none⟩) (D.cut Γ.me (D.lo no) (D.hi Γ.me no)).length cap),(14,.int .i64 (D.lo no))] 11 rfl (by kernel_rfl) mz.a mA.a (fu:=8) (by kernel_rfl) (by kernel_rfl) rfl rfl (by decide) (by simp) (fun a' V' w'=>a'.tmps.size=93/\a'.defers=a.defers/\a'.eval (.tmp 10)=.pointer (some ⟨iM,0,none⟩)/\∃jQ,a'.eval (.tmp 87)=jQ/\aG (fun b=>some b=vo.ownBlock) aD V w V' w'/\Row V' w' 5 1 jQ (xs.length+(up-lo)) (xs++D.fA Γ.me p q)/\(∀g,jQ.ownBlock=some g->vo.ownBlock=some g\/w.heap.size<=g)/\Tidy V' w') (fun a' V' w'=>a'.defers=a.defers/\∃jQ,aG (fun b=>b=iM\/some b=vo.ownBlock) aD V w V' w'/\ba V' w' iM (.cells #[jQ] 25 (0,0))/\Row V' w' 5 1 jQ (xs++D.fA Γ.me p q).length (xs++D.fA Γ.me p q)/\(∀g,jQ.ownBlock=some g->vo.ownBlock=some g\/w.heap.size<=g)/\Tidy V' w') (by simp [aM,aJ,aK,aW]) hT ?_ ?_ ?_ ?_
 ·intro i d s o rest hi aV aZ ho aa VV ww hB hI K;match i,hi with
  |0,_=>
   cases aV;cases aZ;obtain rfl:=Dv.w ho;have aM:=hB.sl 10 rfl;exact cU Dv hS hB hs (aL Dv.o aM isAgg25 ((nJ.go hB.aC).cK rfl)) K
  |1,_=>
   cases aV;cases aZ;obtain rfl:=Dw.w ho;have aK:=hB.sl 13 rfl;exact cU Dw hS hB hs (af Dw.o aK) K
  |2,_=>
   cases aV;cases aZ;obtain rfl:=Dx.w ho;have aJ:=hB.sl 12 rfl;exact cU Dx hS hB hs (aB Dx.o aJ underlying32 rfl sizeOf2 (by decide) rfl) K
  |3,_=>
   cases aV;cases aZ;obtain rfl:=Dy.w ho;have Ga:=hI.av 2;exact cU Dy hS hB hs (aL Dy.o Ga isAgg2 ((av0.go hB.aC).cK rfl)) K
  |4,_=>
   cases aV;cases aZ;obtain rfl:=Dz.w ho;have aW:=hB.sl 14 rfl;exact cU Dz hS hB hs (af Dz.o aW) K
  |5,_=>
   cases aV;cases aZ;obtain rfl:=DC.w ho;have h79:=hI.av 3;have NN:=hI.av 4;have hy:=BX (P:=prog) (V:=VV) (w:=ww) DC.o h79 NN;rw [IntWalk.i64_in _ (by omega),hlo]at hy
   exact cU DC hS hB hs hy K
  |6,_=>
   cases aV;cases aZ;obtain rfl:=DD.w ho;have aJ:=hB.sl 12 rfl;exact cU DD hS hB hs (aB DD.o aJ underlying32 rfl sizeOf2 (by decide) rfl) K
  |7,_=>
   cases aV;cases aZ;obtain rfl:=DF.w ho;have c9:=hI.av 6;exact cU DF hS hB hs (aL DF.o c9 isAgg2 ((av0.go hB.aC).cK rfl)) K
  |8,_=>
   cases aV;cases aZ;obtain rfl:=DG.w ho;have aW:=hB.sl 14 rfl;exact cU DG hS hB hs (af DG.o aW) K
  |9,_=>
   cases aV;cases aZ;obtain rfl:=DI.w ho;have dI:=hI.av 7;have dQ:=hI.av 8;have hy:=BX (P:=prog) (V:=VV) (w:=ww) DI.o dI dQ;rw [IntWalk.i64_in _ (by omega),aZ8]at hy
   exact cU DI hS hB hs hy K
  |10,_=>
   cases aV;cases aZ;obtain rfl:=xS.w ho;have F9:=hI.av 1;have h81:=hI.av 5;have h85:=hI.av 9;have hy:=ab3 (P:=prog) (V:=VV) (w:=ww) (s:=1) xS.o F9 h81 h85 underlying25 sizeOf5 (by omega) (by omega)
   rw [if_neg (by omega),Nat.mul_one,Nat.zero_add]at hy
   exact cU xS hS hB hs hy K
  |n+11,hn=>exact absurd hn (by omega)
 ·intro rest aa VV ww hB hI K;have h76:aa.eval (.tmp 76)=vo:=hI.all 0 76 (.val vo) (by decide) rfl rfl
  have h86:aa.eval (.tmp 86)=(.slice (some ⟨bb,lo,none⟩) (up-lo) (cap-lo)):=hI.all 10 86 (.val (.slice (some ⟨bb,lo,none⟩) (up-lo) (cap-lo))) (by decide) rfl rfl
  refine QL mz.a mz.f hS mz.d (by rw [hB.size,hs];decide) hB.tidy mz.o h76 h86 underlying25 hi5 hz5 hs5 rfl (by decide) (ir.go hB.aC) (news:=D.fA Γ.me p q) (by rw [yq];omega) (fun j u hj=>?_) al1 (Nat.le_trans (show _<=2000 by omega) (by decide)) (by rw [NO];omega) fun jQ a' V' w' e1 e2 e3 e4 e5 e6 e7 e8=>K a' V' w' ⟨e1.trans (hB.size.trans hs),e2.trans hB.defers,(e3 10 (by decide)).trans (hB.slot 10 (.pointer (some ⟨iM,0,none⟩)) (by simp)),jQ,e4,(hB.aC.mono (fun _ h=>h.elim) fun _ h=>h).trans e5,e6,fun g hg=>(e7 g hg).imp id fun x=>Nat.le_trans hB.aC.size x,e8⟩
  have:=vj j u hj;have e:(⟨bb,lo,none⟩:Addr).add j=⟨bb,lo+j,none⟩:=by unfold Addr.add;split<;>simp_all
  rw [e];exact⟨.inr (.inl (by rw [hB.aC.ro];exact this.1)),(hB.aC.cell _ (.inl this.1) id).trans this.2⟩
 ·intro rest aa VV ww hM K;obtain⟨m1,m2,m3,jQ,m4,m5,m6,m7,m8⟩:=hM;have Z0:ba VV ww iM (.cells #[vo] 25 (0,0)):=nJ.aC m5 fun x=>(aWc iM x.symm).1 rfl;refine gg mA.a mA.f hS mA.d mA.o m3 m4 (vs:=[jQ]) ?_ sizeOf25 (fun u hu=>?_) Z0 (by simp) m8 fun w' e1 e2 e3 e4=>K _ _ _ ⟨m2,jQ,(m5.mono (fun _ h=>.inr h) fun _ h=>h).trans (e1.mono (fun _ h=>.inl h) fun _ h=>h),e2,?_,m7,e3⟩
  ·rcases m6.1.2 with ⟨rfl,_⟩|⟨g',Nx,cur,rfl,_⟩<;>rfl
  ·obtain rfl:=List.mem_singleton.1 hu;rcases m6.1.2 with ⟨rfl,_⟩|⟨g',Nx,cur,rfl,_⟩<;>rfl
  ·have hl:(xs++D.fA Γ.me p q).length=xs.length+(up-lo):=by rw [List.length_append,yq];omega
   rw [hl];refine m6.aC e1 fun g hg x=>?_;rcases m6.1.2 with ⟨rfl,_⟩|⟨g',Nx,cur,rfl,_,h1,_⟩
   ·cases hg
   ·obtain rfl:g'=g:=by simpa [Value.ownBlock]using hg
    rw [x,Z0.2]at h1;simp at h1
 ·skip;rintro a' V' w' ⟨e1,jQ,e2,e3,e4,e5,e6⟩;exact K jQ a' V' w' e1 e2 e3 e4 e5 e6
end
section
variable {w:World} {b b':Nat} {o o':Obj} {e:TypeId} {size:Nat} {v:Value}
theorem ba.ne(h:ba V w b o)(h':ba V w b' o')(cM:o≠o'):b≠b':=fun x=>cM (by have:=h.2;rw [x,h'.2]at this;exact(Option.some.inj this).symm)
theorem Row.ne(h:Row V w e size v n xs)(hb:ba V w b o)(ho:∀c,o≠.cells c e (0,0)):∀g,v.ownBlock=some g->g≠b:=fun g hg x=>by
 rcases h.1.2 with ⟨rfl,_⟩|⟨g',Nx,cur,rfl,_,h1,_⟩
 ·cases hg
 ·obtain rfl:g'=g:=by simpa [Value.ownBlock]using hg
  rw [x,hb.2]at h1;exact ho _ (Option.some.inj h1)
end
section
variable {D:cY} {w:World} {a:Act} {q:Int}
theorem Z1(I:Is Γ D)(hW:Wk Γ D V w)(hN:j5 Γ V)(dS:0<=no)(hp:D.lo no<=p)(hpq:p<q)(hq:q<=D.hi Γ.me no)(rp:no=Γ.item s)(BW:1<=s)(hn:6<=n)
  (E1:ba V w b3 (.cells #[.pointer (some ⟨Γ.src Γ.me,0,none⟩)] 51 (0,0)))(NO:ba V w b5 (.cells #[.chan (some Γ.off)] 106 (0,0)))(nJ:ba V w iM (.cells #[vo] 25 (0,0)))
  (ir:Row V w 5 1 vo xs.length xs)(hxs:xs.length<=1000)(hl:ba V w l (.loop r))(nf:r.state=.ready)(hrp:r.pending=none)
  (hs:a.tmps.size=93)(h3:a.eval (.tmp 3)=.pointer (some ⟨b3,0,none⟩))(h5:a.eval (.tmp 5)=.pointer (some ⟨b5,0,none⟩))(aM:a.eval (.tmp 10)=.pointer (some ⟨iM,0,none⟩))(Fe:a.eval (.tmp 55)=.int .i64 no)(Ff:a.eval (.tmp 56)=.agg #[.int .i64 p,.int .i64 q])
  (K:∀V' w' jQ,Wk Γ D V' w'->j5 Γ V'->Left (fun b=>b=iM\/b=l\/some b=vo.ownBlock) V w V' w'->ba V' w' iM (.cells #[jQ] 25 (0,0))->ba V' w' l (.loop r)->Row V' w' 5 1 jQ (xs++D.fA Γ.me p q).length (xs++D.fA Γ.me p q)->(∀g,jQ.ownBlock=some g->vo.ownBlock=some g\/w.heap.size<=g)->
   bf (At Γ) (Next Γ ⟨n-5,s⟩ .none) V' (G (c.finish (.bool true)) cs) w'):
  bf (At Γ) (Next Γ ⟨n,s+1⟩ .none) V (G (jO (base 27) l a [.code te,.beginRound,.code xO]) (c::cs)) w:=by
 have aU:D.lo no<D.len Γ.me:=by
  have:D.hi Γ.me no<=D.len Γ.me:=Int.min_le_right _ _;omega
 refine aNf (k:=[]) (by decide) hW.tidy hl nf hs h3 h5 aM Fe Ff fun n12 a1 V1 w1 s1 d1 f3 f5 f10 f11 f12 a4S W1 B12 Bl T1=>?_
 have n3:b3≠l:=E1.ne hl (by simp)
 have n5:b5≠l:=NO.ne hl (by simp)
 have n10:iM≠l:=nJ.ne hl (by simp)
 have nr:∀g,vo.ownBlock=some g->g≠l:=ir.ne hl (by simp)
 have a4T:∀g,vo.ownBlock=some g->g≠iM:=ir.ne nJ (by simp)
 refine(aNg (e:=⟨n-1,s⟩) I (by decide) (hW.go W1) (hN.aC W1) dS aU rp (by show 5<=n-1;omega) (E1.off W1 n3) (NO.off W1 n5) s1 f3 f5 f10 f11 f12 fun V2 w2 bb cap a2 K2 Uv hN2 hB hc s2 d2 g3 g5 g10 g11 g12 g13=>?_).aNa fun t ht=>by
  subst ht;exact⟨by show n-1<n;omega,rfl,rfl,.inl ⟨by show s≠0;omega,rfl⟩⟩
 refine aNi I (by decide) Uv dS hp hpq hq ((E1.off W1 n3).keeps K2) (B12.keeps K2) s2 g3 g10 g11 g12 g13 fun a3 s3 d3 p10 p12 p13 p14=>?_
 have R2:Row V2 w2 5 1 vo xs.length xs:=(ir.aC W1 nr).keeps K2;refine aNk I (by decide) Uv.tidy dS hp hpq hq ((nJ.off W1 n10).keeps K2) R2 hxs (B12.keeps K2) hB hc s3 p10 p12 p13 p14 fun jQ a4 V4 w4 d4 W4 Z0 R4 F4 T4=>?_
 have Bl4:ba V4 w4 l (.loop {r with state:=.busy}):=(Bl.keeps K2).aC W4 fun x=>x.elim (fun y=>n10 y.symm) fun y=>nr l y.symm rfl
 refine c7 (vh (by decide) l) (Xo (k:=[]) false rfl T4 Bl4 fun w5 W5 B5 T5=>?_)
 have W45:Wk Γ D V4 w5:=(Uv.go W4).go W5;have jU:({{r with state:=LoopState.busy}with state:=if false=true then .done else .ready,pending:=if false=true then some .ret else none}:Loop)=r:=by
  obtain⟨st,pe,x1,x2,x3,x4,x5,x6⟩:=r;simp at nf hrp;subst nf;subst hrp;rfl
 rw [jU]at B5;refine K V4 w5 jQ W45 ((hN2.aC W4).aC W5) ?_ (Z0.off W5 n10) B5 (R4.aC W5 (R4.ne Bl4 (by simp))) fun g hg=>(F4 g hg).imp id fun x=>Nat.le_trans (Nat.le_trans W1.size K2.size) x
 refine Left.trans (.jk (W1.mono (fun _ h=>.inr (.inl h)) fun _ h=>h)) (Left.trans (Left.Uy K2).none (Left.trans (.jk (W4.mono (fun _ h=>h.imp id .inr) fun _ h=>h)) (.jk (W5.mono (fun _ h=>.inr (.inl h)) fun _ h=>h))))
end
theorem UC(a:Act)(k:List Item):(b.at a k).eval=a.eval:=by funext x;cases x<;>rfl
theorem azS{ops:Array Oper}{i:Nat}{rest:List Nat}{o:Oper}{a:Act}{k:List Item}{cs:List Frame}{w:World}(ho:ops[i]? =some o)(hw:Region.wanted o (yielded ops a.tmps)=true)(hd:∀c,o.op≠.defer c):
  stepG P main (G (b.at a (.inRegion ops (i::rest)::k)) cs) w=stepG.apply P true (b.at a (.inRegion ops (i::rest)::k)) cs none (execOp a.eval o) w:=by
 have he:=UC (b:=b) a (.inRegion ops (i::rest)::k);simp only [Frame.at]at he;simp only [G,stepG,stepG.exec,stepG.oper,Frame.oper?,Frame.at,ho,Option.map_some,Option.getD_some,hw,if_true,he]
theorem azT(p q:Int):prog.built 32 [(0,.int .i64 p),(1,.int .i64 q)]=some #[.int .i64 p,.int .i64 q]:=by kernel_rfl
section
variable {D:cY} {w:World} {a:Act} {f:Int}
structure Rnd(r:Loop)(b3 b5 iM:Nat):Prop where
 fn:r.fn=27
 st:r.state=.ready
 pd:r.pending=none
 ps:r.params=#[55,56]
 ac:r.assign=te
 bd:r.body=xO
 sz:r.tmps.size=93
 h3:(Act.mk r.tmps []).eval (.tmp 3)=.pointer (some ⟨b3,0,none⟩)
 h5:(Act.mk r.tmps []).eval (.tmp 5)=.pointer (some ⟨b5,0,none⟩)
 aM:(Act.mk r.tmps []).eval (.tmp 10)=.pointer (some ⟨iM,0,none⟩)
def cY.oa(D:cY)(p t:Int):Int:=min ((p/D.u+1)*D.u) t
theorem iter(I:Is Γ D)(hk:b.kind≠.early)(hW:Wk Γ D V w)(hN:j5 Γ V)(hp0:0<=p)(hpt:p<t)(ht:t<=D.len Γ.me)(rp:p/D.u=Γ.item s)(BW:1<=s)(hn:6<=n)
  (E1:ba V w b3 (.cells #[.pointer (some ⟨Γ.src Γ.me,0,none⟩)] 51 (0,0)))(NO:ba V w b5 (.cells #[.chan (some Γ.off)] 106 (0,0)))(nJ:ba V w iM (.cells #[vo] 25 (0,0)))
  (hbw:ba V w bw (.cells #[.int .i64 f,.int .i64 t] 32 (0,0)))(hbu:ba V w bu (.cells #[.int .i64 D.u] 2 (0,0)))
  (ir:Row V w 5 1 vo xs.length xs)(hxs:xs.length<=1000)(hl:ba V w l (.loop r))(hr:Rnd r b3 b5 iM)
  (hs:a.tmps.size=39)(hd:a.defers=[])(h0:a.eval (.tmp 0)=.func (.yield l) #[] #[])(h1:a.eval (.tmp 1)=.pointer (some ⟨bw,0,none⟩))(h2:a.eval (.tmp 2)=.pointer (some ⟨bu,0,none⟩))(h4:a.eval (.tmp 4)=.int .i64 p)
  (K:∀V' w' jQ a',a'.tmps.size=39->a'.defers=[]->a'.eval (.tmp 0)=.func (.yield l) #[] #[]->a'.eval (.tmp 1)=.pointer (some ⟨bw,0,none⟩)->a'.eval (.tmp 2)=.pointer (some ⟨bu,0,none⟩)->a'.eval (.tmp 4)=.int .i64 (D.oa p t)->
   Wk Γ D V' w'->j5 Γ V'->Left (fun b=>b=iM\/b=l\/some b=vo.ownBlock) V w V' w'->ba V' w' iM (.cells #[jQ] 25 (0,0))->ba V' w' l (.loop r)->Row V' w' 5 1 jQ (xs++D.fA Γ.me p (D.oa p t)).length (xs++D.fA Γ.me p (D.oa p t))->(∀g,jQ.ownBlock=some g->vo.ownBlock=some g\/w.heap.size<=g)->
   bf (At Γ) (Next Γ ⟨n-5,s⟩ .none) V' (G (b.at a' (.inLoop kO::k)) cs) w'):
  bf (At Γ) (Next Γ ⟨n,s+1⟩ .none) V (G (b.at a (.code kO::.inLoop kO::k)) cs) w:=by
 have hS:=bh (P:=prog) (main:=false) hk;have hu:=xf I.ok;have rn:=I.ok.len Γ.me;have hlen:D.len Γ.me=((D.iH Γ.me).length:Int):=rfl;have hq0:0<=p/D.u:=Int.ediv_nonneg hp0 (by omega)
 have hq1:p/D.u*D.u<=p:=Int.ediv_mul_le p (by omega)
 have hq2:p<(p/D.u+1)*D.u:=Int.lt_ediv_add_one_mul_self p (by omega)
 have hq3:(p/D.u+1)*D.u=p/D.u*D.u+D.u:=by rw [Int.add_mul,Int.one_mul]
 have hq4:p/D.u<=p:=Int.le_trans (by have:=Int.mul_le_mul_of_nonneg_left hu.1 hq0;omega) hq1
 obtain⟨no,dS⟩:∃no,no=p/D.u:=⟨_,rfl⟩;rw [←dS]at hq0 hq1 hq2 hq3 hq4 rp;have GJ:D.oa p t=min ((no+1)*D.u) t:=by rw [dS];rfl
 rw [GJ]at K;obtain⟨q,hq⟩:∃q,q=min ((no+1)*D.u) t:=⟨_,rfl⟩;rw [←hq]at K;have hqt:q<=t:=by omega
 have hpq:p<q:=by omega
 have hqh:q<=D.hi Γ.me no:=by unfold cY.hi;omega
 refine aj hS ap4 (aj hS ap1 (ag hS apX aBT (ay zT hS hs (af zT.o h4) fun a ae bT=>t4 ae hs hd h0 h1 h2 h4 fun hs hd h0 h1 h2 h4=>?_)));refine ay zU hS hs (aB zU.o h1 underlying32 rfl sizeOf2 (by decide) rfl) fun a ae jL=>t5 ae hs hd h0 h1 h2 h4 bT fun hs hd h0 h1 h2 h4 bT=>?_
 refine ay zV hS hs (aL zV.o jL isAgg2 (hbw.cK rfl)) fun a ae dz=>t5 ae hs hd h0 h1 h2 h4 bT fun hs hd h0 h1 h2 h4 bT=>?_;refine ay zW hS hs (du zW.o bT dz) fun a ae dE=>t4 ae hs hd h0 h1 h2 h4 fun hs hd h0 h1 h2 h4=>?_;have dE:a.eval (.tmp 20)=.bool true:=by rw [dE];simp;omega
 refine ai hS (bY hS ap0 dE (q_skip hS aIg (bV hS aIt (aj hS aIs (ag hS aIi (rl [0,1,2,3] rfl) (ay adx hS hs (af adx.o h4) fun a ae cD=>t4 ae hs hd h0 h1 h2 h4 fun hs hd h0 h1 h2 h4=>?_))))));refine ay ady hS hs (aL ady.o h2 isAgg2 (hbu.cK rfl)) fun a ae kE=>t5 ae hs hd h0 h1 h2 h4 cD fun hs hd h0 h1 h2 h4 cD=>?_;refine ay adz hS hs (aBr adz.o cD kE (by omega)) fun a ae ga=>t4 ae hs hd h0 h1 h2 h4 fun hs hd h0 h1 h2 h4=>?_
 have ga:a.eval (.tmp 23)=.int .i64 no:=by rw [ga,Int.tdiv_eq_ediv_of_nonneg hp0,←dS,IntWalk.i64_in _ (by omega)]
 refine ay adA hS hs (ak adA.o ga) fun a ae h5=>t4 ae hs hd h0 h1 h2 h4 fun hs hd h0 h1 h2 h4=>?_;refine ai hS (aj hS aIr (ag hS aIj (rl [0,1,2,3,4,5,6,7] rfl) (ay adB hS hs (af adB.o h5) fun a ae oi=>t5 ae hs hd h0 h1 h2 h4 h5 fun hs hd h0 h1 h2 h4 h5=>?_)));refine ay adC hS hs (gQ adC.o oi rfl) fun a ae o9=>t5 ae hs hd h0 h1 h2 h4 h5 fun hs hd h0 h1 h2 h4 h5=>?_;have o9:a.eval (.tmp 25)=.int .i64 (no+1):=by rw [o9,IntWalk.i64_in _ (by omega)]
 refine ay adD hS hs (aL adD.o h2 isAgg2 (hbu.cK rfl)) fun a ae fe=>t6 ae hs hd h0 h1 h2 h4 h5 o9 fun hs hd h0 h1 h2 h4 h5 o9=>?_;refine ay adE hS hs (aAX adE.o o9 fe) fun a ae dT=>t5 ae hs hd h0 h1 h2 h4 h5 fun hs hd h0 h1 h2 h4 h5=>?_;refine ay adF hS hs (aB adF.o h1 underlying32 rfl sizeOf2 (by decide) rfl) fun a ae cI=>t6 ae hs hd h0 h1 h2 h4 h5 dT fun hs hd h0 h1 h2 h4 h5 dT=>?_
 have dT:a.eval (.tmp 27)=.int .i64 ((no+1)*D.u):=by rw [dT,IntWalk.i64_in _ (by omega)]
 refine ay adG hS hs (aL adG.o cI isAgg2 (hbw.cK rfl)) fun a ae fc=>t6 ae hs hd h0 h1 h2 h4 h5 dT fun hs hd h0 h1 h2 h4 h5 dT=>?_;refine ay adH hS hs (ao4 adH.o dT fc) fun a ae eK=>t5 ae hs hd h0 h1 h2 h4 h5 fun hs hd h0 h1 h2 h4 h5=>?_;have eK:a.eval (.tmp 30)=.int .i64 q:=by
  rw [eK,hq];congr 1;split<;>omega
 refine ay adI hS hs (ak adI.o eK) fun a ae h6=>t5 ae hs hd h0 h1 h2 h4 h5 fun hs hd h0 h1 h2 h4 h5=>?_;refine ai hS (aj hS aIq (aj hS aIo (ag hS aIk (rl [0,1,2,3,4,5,6] rfl) (ay adJ hS hs (af adJ.o h0) fun a ae lg=>t6 ae hs hd h0 h1 h2 h4 h5 h6 fun hs hd h0 h1 h2 h4 h5 h6=>?_))));refine ay adK hS hs (af adK.o h5) fun a ae bG=>t6 ae hs hd h0 h1 h2 h4 h6 lg fun hs hd h0 h1 h2 h4 h6 lg=>?_;refine ay adL hS hs (af adL.o h4) fun a ae bJ=>t7 ae hs hd h0 h1 h2 h4 h6 lg bG fun hs hd h0 h1 h2 h4 h6 lg bG=>?_;refine ay adM hS hs (af adM.o h6) fun a ae cQ=>t8 ae hs hd h0 h1 h2 h4 h6 lg bG bJ fun hs hd h0 h1 h2 h4 h6 lg bG bJ=>?_;refine ay adN hS hs (lA adN.o (by simp only [List.map_toArray,List.map_cons,List.map_nil,bJ,cQ];exact azT p q)) fun a ae iF=>t7 ae hs hd h0 h1 h2 h4 h6 lg bG fun hs hd h0 h1 h2 h4 h6 lg bG=>?_
 refine ayT (S:=b.at) (l:=l) (r:=r) hS (fun a k=>⟨UC a k,hk,rfl⟩) (fun a k cs w sm ho hw hd e=>by rw [e];exact azS ho hw hd) Kp.a Kp.f Kp.o lg hl (by rw [hr.ps];rfl) ?_
 rw [hr.fn,hr.ac,hr.bd];have ht0:((r.params.zip (#[Operand.tmp 32,Operand.tmp 35].map a.eval)).foldl (fun t (p,v)=>t.setIfInBounds p v) r.tmps)=(r.tmps.setIfInBounds 55 (.int .i64 no)).setIfInBounds 56 (.agg #[.int .i64 p,.int .i64 q]):=by
  rw [hr.ps];simp [bG,iF]
 obtain⟨ar,Z2⟩:∃ar:Act,ar={tmps:=(r.params.zip (#[Operand.tmp 32,Operand.tmp 35].map a.eval)).foldl (fun t (p,v)=>t.setIfInBounds p v) r.tmps,defers:=[]}:=⟨_,rfl⟩;rw [←Z2];rw [ht0]at Z2;have gN:∀j,j≠55->j≠56->ar.eval (.tmp j)=(Act.mk r.tmps []).eval (.tmp j):=fun j h1 h2=>by
  rw [Z2];simp only [Act.eval,Array.getD_eq_getD_getElem?,Array.getElem?_setIfInBounds];rw [if_neg (Ne.symm h2),if_neg (Ne.symm h1)]
 have e55:ar.eval (.tmp 55)=.int .i64 no:=by
  rw [Z2];simp [Act.eval,Array.getElem?_setIfInBounds,hr.sz]
 have e56:ar.eval (.tmp 56)=.agg #[.int .i64 p,.int .i64 q]:=by
  rw [Z2];simp [Act.eval,Array.getElem?_setIfInBounds,hr.sz]
 refine Z1 I hW hN hq0 hq1 hpq hqh rp BW hn E1 NO nJ ir hxs hl hr.st hr.pd (by rw [Z2];simp [hr.sz]) ((gN 3 (by decide) (by decide)).trans hr.h3) ((gN 5 (by decide) (by decide)).trans hr.h5) ((gN 10 (by decide) (by decide)).trans hr.aM) e55 e56 fun V' w' jQ Xm hN' hL' av1 hBl hR' OE=>?_
 rw [hS.finish];have u:=bj a ((pF[5]?).bind (·.dst)) (.bool true);have hdd:(pF[5]?).bind (·.dst)=some 36:=rfl;generalize a.put ((pF[5]?).bind (·.dst)) (.bool true)=a1 at u;rw [hdd]at u;have rh:a1.eval (.tmp 36)=.bool true:=u.eq 36 rfl (by rw [hs];decide)
 have au:=u.size;have an:=u.defers;have ah:∀j,36≠j->a1.eval (.tmp j)=a.eval (.tmp j):=fun j hj=>u.ne j (by intro h;exact hj (Option.some.inj h))
 clear u gN e55 e56 Z2 ht0;obtain⟨a,rfl⟩:∃x,x=a1:=⟨_,rfl⟩;refine t4 ⟨au,an,ah⟩ hs hd h0 h1 h2 h6 fun hs hd h0 h1 h2 h6=>?_;refine ay adO hS hs (kl adO.o rh) fun a ae iI=>t4 ae hs hd h0 h1 h2 h6 fun hs hd h0 h1 h2 h6=>?_;refine ai hS (aX hS aIn iI (q_skip hS aIm (ag hS aIp (rl [0,1] rfl) (ay adP hS hs (af adP.o h6) fun a ae nz=>t3 ae hs hd h0 h1 h2 fun hs hd h0 h1 h2=>?_))));refine ay adQ hS hs (ak adQ.o nz) fun a ae h4=>t3 ae hs hd h0 h1 h2 fun hs hd h0 h1 h2=>?_;exact ai hS (c7 hS (K V' w' jQ _ hs hd h0 h1 h2 h4 Xm hN' hL' av1 hBl hR' OE))
end
def cY.leftOf(D:cY)(p t:Int)(s:Nat):Prop:=(p=t/\s=0)\/(p<t/\1<=s/\p/D.u+s=(t-1)/D.u+1)
theorem al3{Γ:Rc}{D:cY}{p t:Int}{s:Nat}(h:lH Γ D)(hp0:0<=p)(hpt:p<t)(hs:p/D.u+((s+1:Nat):Int)=(t-1)/D.u+1):D.leftOf (D.oa p t) t s/\0<=D.oa p t/\p<=D.oa p t/\D.oa p t<=t:=by
 have hu:=xf h;have hq0:0<=p/D.u:=Int.ediv_nonneg hp0 (by omega)
 have hq1:p/D.u*D.u<=p:=Int.ediv_mul_le p (by omega)
 have hq2:p<(p/D.u+1)*D.u:=Int.lt_ediv_add_one_mul_self p (by omega)
 have hq3:(p/D.u+1)*D.u=p/D.u*D.u+D.u:=by rw [Int.add_mul,Int.one_mul]
 unfold cY.oa cY.leftOf;generalize dS:p/D.u=no at*;refine⟨?_,by omega,by omega,by omega⟩
 by_cases hc:(no+1)*D.u<t
 ·rw [Int.min_eq_left (by omega)]
  have e1:(no+1)*D.u/D.u=no+1:=Int.mul_ediv_cancel _ (by omega)
  have e2:no+1<=(t-1)/D.u:=(Int.le_ediv_iff_mul_le (by omega)).2 (by omega)
  exact .inr ⟨hc,by omega,by rw [e1];omega⟩
 ·rw [Int.min_eq_right (by omega)]
  have e1:(t-1)/D.u<no+1:=(Int.ediv_lt_iff_lt_mul (by omega)).2 (by omega)
  have e2:no<=(t-1)/D.u:=(Int.le_ediv_iff_mul_le (by omega)).2 (by omega)
  exact .inl ⟨rfl,by omega⟩
section
variable {D:cY} {w:World} {a:Act} {f:Int}
theorem azU{Stop:View->Goroutine->World->Prop}(hk:b.kind≠.early)(hbw:ba V w bw (.cells #[.int .i64 f,.int .i64 t] 32 (0,0)))
  (hs:a.tmps.size=39)(hd:a.defers=[])(h1:a.eval (.tmp 1)=.pointer (some ⟨bw,0,none⟩))(h4:a.eval (.tmp 4)=.int .i64 t)
  (K:∀a',a'.tmps.size=39->a'.defers=[]->Loc prog false Stop V (G (b.at a' k) cs) w):Loc prog false Stop V (G (b.at a (.code kO::.inLoop kO::.inBlock 0::k)) cs) w:=by
 have hS:=bh (P:=prog) (main:=false) hk;refine aj hS ap4 (aj hS ap1 (ag hS apX aBT (ay zT hS hs (af zT.o h4) fun a ae bT=>t1 ae hs hd h1 fun hs hd h1=>?_)));refine ay zU hS hs (aB zU.o h1 underlying32 rfl sizeOf2 (by decide) rfl) fun a ae jL=>t1 ae hs hd bT fun hs hd bT=>?_
 refine ay zV hS hs (aL zV.o jL isAgg2 (hbw.cK rfl)) fun a ae dz=>t1 ae hs hd bT fun hs hd bT=>?_;refine ay zW hS hs (du zW.o bT dz) fun a ae dE=>t0 ae hs hd fun hs hd=>?_;have dE:a.eval (.tmp 20)=.bool false:=by rw [dE];simp
 exact ai hS (aX hS ap0 dE (q_exit hS aIh rfl (K _ hs hd)))
theorem al4(I:Is Γ D)(hk:b.kind≠.early){V0:View}{w0:World}(hT0:Tidy V0 w0)(hf0:0<=f)(ht:t<=D.len Γ.me)
  (E1:ba V0 w0 b3 (.cells #[.pointer (some ⟨Γ.src Γ.me,0,none⟩)] 51 (0,0)))(NO:ba V0 w0 b5 (.cells #[.chan (some Γ.off)] 106 (0,0)))
  (hbw:ba V0 w0 bw (.cells #[.int .i64 f,.int .i64 t] 32 (0,0)))(hbu:ba V0 w0 bu (.cells #[.int .i64 D.u] 2 (0,0)))(hl0:ba V0 w0 l (.loop r)){vo0:Value}(yR:ba V0 w0 iM (.cells #[vo0] 25 (0,0)))(hr:Rnd r b3 b5 iM)
  (K:∀V' w' jQ a' n',5<=n'->a'.tmps.size=39->a'.defers=[]->Wk Γ D V' w'->j5 Γ V'->Left (fun b=>b=iM\/b=l) V0 w0 V' w'->ba V' w' iM (.cells #[jQ] 25 (0,0))->ba V' w' l (.loop r)->Row V' w' 5 1 jQ (D.fA Γ.me f t).length (D.fA Γ.me f t)->(∀g,jQ.ownBlock=some g->w0.heap.size<=g)->
   bf (At Γ) (Next Γ ⟨n',1⟩ .none) V' (G (b.at a' k) cs) w'):
  ∀(s n:Nat) (p:Int) (V:View) (w:World) (a:Act) (vo:Value),D.leftOf p t s->f<=p->p<=t->(∀s',1<=s'->s'<=s->Γ.item s'=(t-1)/D.u+1-s')->5*s+5<=n->Wk Γ D V w->j5 Γ V->Left (fun b=>b=iM\/b=l) V0 w0 V w->
   ba V w iM (.cells #[vo] 25 (0,0))->ba V w l (.loop r)->Row V w 5 1 vo (D.fA Γ.me f p).length (D.fA Γ.me f p)->(∀g,vo.ownBlock=some g->w0.heap.size<=g)->
   a.tmps.size=39->a.defers=[]->a.eval (.tmp 0)=.func (.yield l) #[] #[]->a.eval (.tmp 1)=.pointer (some ⟨bw,0,none⟩)->a.eval (.tmp 2)=.pointer (some ⟨bu,0,none⟩)->a.eval (.tmp 4)=.int .i64 p->
   bf (At Γ) (Next Γ ⟨n,s+1⟩ .none) V (G (b.at a (.code kO::.inLoop kO::.inBlock 0::k)) cs) w:=by
 have hS:=bh (P:=prog) (main:=false) hk;have n3:¬(b3=iM\/b3=l):=fun x=>x.elim (E1.ne yR (by simp)) (E1.ne hl0 (by simp))
 have n5:¬(b5=iM\/b5=l):=fun x=>x.elim (NO.ne yR (by simp)) (NO.ne hl0 (by simp))
 have nw:¬(bw=iM\/bw=l):=fun x=>x.elim (hbw.ne yR (by simp)) (hbw.ne hl0 (by simp))
 have nu:¬(bu=iM\/bu=l):=fun x=>x.elim (hbu.ne yR (by simp)) (hbu.ne hl0 (by simp))
 have hlen:D.len Γ.me=((D.iH Γ.me).length:Int):=rfl;have rn:=I.ok.len Γ.me;intro s;induction s with
 |zero=>
  intro n p V w a vo hI hfp hpt rp hn hW hN hL nJ hl ir Hq hs hd h0 h1 h2 h4;have hp:p=t:=hI.elim (fun h=>h.1) fun h=>absurd h.2.1 (by omega)
  subst hp;exact azU hk (hbw.eN hL nw) hs hd h1 h4 fun a' s' d'=>K V w vo a' n (by omega) s' d' hW hN hL nJ hl ir Hq
 |succ s ih=>
  intro n p V w a vo hI hfp hpt rp hn hW hN hL nJ hl ir Hq hs hd h0 h1 h2 h4;have hI':p<t/\p/D.u+((s+1:Nat):Int)=(t-1)/D.u+1:=hI.elim (fun h=>absurd h.2 (by omega)) fun h=>⟨h.1,h.2.2⟩
  obtain⟨i1,i2,i3,i4⟩:=al3 I.ok (by omega) hI'.1 hI'.2
  have hxs:(D.fA Γ.me f p).length<=1000:=by rw [Uz hf0 hfp (by omega)];omega
  refine iter (s:=s+1) I hk hW hN (by omega) hI'.1 ht (by rw [rp (s+1) (by omega) (by omega)];omega) (by omega) (by omega) (E1.eN hL n3) (NO.eN hL n5) nJ (hbw.eN hL nw) (hbu.eN hL nu) ir hxs hl hr hs hd h0 h1 h2 h4 fun V' w' jQ a' s' d' g0 g1 g2 g4 Xm hN' hL' av1 hBl hR' OE=>dW hS ?_
  rw [UB hf0 hfp i3]at hR';refine ih (n-5) (D.oa p t) V' w' a' jQ i1 (by omega) i4 (fun s' a b=>rp s' a (by omega)) (by omega) Xm hN' ?_ av1 hBl hR' (fun g hg=>(OE g hg).elim (Hq g) fun x=>Nat.le_trans hL.size x) s' d' g0 g1 g2 g4
  refine Left.mono (B:=fun b=>b=iM\/b=l\/some b=vo.ownBlock) ((hL.mono fun b _ h=>h.imp id .inl).trans hL') fun b hb h=>?_;rcases h with h|h|h
  ·exact .inl h
  ·exact .inr h
  ·have:=Hq b h.symm;have:=hT0.low.own b hb;omega
end
section
variable {D:cY} {w:World} {a:Act} {f:Int}
theorem Z3(I:Is Γ D)(hW:Wk Γ D V w)(hN:j5 Γ V)(hf0:0<=f)(hft:f<=t)(ht:t<=D.len Γ.me)(hI:D.leftOf f t s)(rp:∀s',1<=s'->s'<=s->Γ.item s'=(t-1)/D.u+1-s')(hn:5*s+5<=n)
  (E1:ba V w b3 (.cells #[.pointer (some ⟨Γ.src Γ.me,0,none⟩)] 51 (0,0)))(NO:ba V w b5 (.cells #[.chan (some Γ.off)] 106 (0,0)))(nJ:ba V w iM (.cells #[.slice none 0 0] 25 (0,0)))
  (hbw:ba V w bw (.cells #[.int .i64 f,.int .i64 t] 32 (0,0)))(hbu:ba V w bu (.cells #[.int .i64 D.u] 2 (0,0)))(hl:ba V w l (.loop r))(hr:Rnd r b3 b5 iM)
  (hs:a.tmps.size=39)(hd:a.defers=[])(h0:a.eval (.tmp 0)=.func (.yield l) #[] #[])(h1:a.eval (.tmp 1)=.pointer (some ⟨bw,0,none⟩))(h2:a.eval (.tmp 2)=.pointer (some ⟨bu,0,none⟩))
  (K:∀V' w' jQ n',5<=n'->Wk Γ D V' w'->j5 Γ V'->Left (fun b=>b=iM\/b=l) V w V' w'->ba V' w' iM (.cells #[jQ] 25 (0,0))->ba V' w' l (.loop r)->Row V' w' 5 1 jQ (D.fA Γ.me f t).length (D.fA Γ.me f t)->(∀g,jQ.ownBlock=some g->w.heap.size<=g)->
   bf (At Γ) (Next Γ ⟨n',1⟩ .none) V' (G (c.finish (.tuple #[])) cs) w'):
  bf (At Γ) (Next Γ ⟨n,s+1⟩ .none) V (G ((base 73).at a [.code Sb]) (c::cs)) w:=by
 have hk:(base 73).kind≠.early:=by decide
 have hS:=bh (P:=prog) (main:=false) hk;have rn:=I.ok.len Γ.me;have hlen:D.len Γ.me=((D.iH Γ.me).length:Int):=rfl;have hrb:Rg.dJ f t=true:=by unfold Rg.dJ;simp;omega
 have Vb:Rg.fv D.u=true:=by rcases I.ok.u with x|x|x|x|x<;>rw [x]<;>decide
 refine aj hS aRT (aj hS aRO (ag hS aRK (rl [0,1,2,3,4,5,6,7] rfl) (ay adl hS hs (eu adl.o h1 isAgg32 sizeOf32 (hbw.cK rfl) (hbw.cK rfl)) fun a ae h7=>t3 ae hs hd h0 h1 h2 fun hs hd h0 h1 h2=>?_)));refine qK zR.a zR.f hS zR.d (by rw [hs];decide) hW.tidy zR.o (by kernel_rfl) (vl:=.bool true) (fun U n=>?_) (fun w'=>?_) (.bool _) fun a V1 w1 au an ah h8 W1 T1=>?_
 ·simp only [List.map_toArray,List.map_cons,List.map_nil,h7];exact ar1 ((Flat.Ul (.int _ _) (.int _ _)) U n)
 ·simp only [List.map_toArray,List.map_cons,List.map_nil,h7];have:=Rg.gT f t w';rwa [hrb]at this
 refine t3 ⟨au,an,ah⟩ hs hd h0 h1 h2 fun hs hd h0 h1 h2=>?_;refine ay adm hS hs (kl adm.o h8) fun a ae h9=>t3 ae hs hd h0 h1 h2 fun hs hd h0 h1 h2=>?_;refine ay adn hS hs (af adn.o h9) fun a ae aM=>t3 ae hs hd h0 h1 h2 fun hs hd h0 h1 h2=>?_;refine mo ado rfl aM hS hs (aL ado.o h2 isAgg2 ((hbu.go W1).cK rfl)) fun a ae aH=>t4 ae hs hd h0 h1 h2 aM fun hs hd h0 h1 h2 aM=>?_;refine qK zS.a (ax (x:=false) zS.g rfl aM) hS zS.d (by rw [hs];decide) T1 zS.o (by kernel_rfl) (vl:=.bool true) (fun U n=>?_) (fun w'=>?_) (.bool _) fun a V2 w2 au an ah aJ W2 T2=>?_
 ·simp only [List.map_toArray,List.map_cons,List.map_nil,aH];exact ar1 (.int _ _)
 ·simp only [List.map_toArray,List.map_cons,List.map_nil,aH];have:=(Rg.da D.u w').mono fun e cO (h:e=.returned (.bool (Rg.fv D.u))/\w'=cO)=>(⟨h.1,h.2▸.refl _⟩:e=.returned (.bool (Rg.fv D.u))/\Rg.Ext w' cO);rwa [Vb]at this
 refine t4 ⟨au,an,ah⟩ hs hd h0 h1 h2 aM fun hs hd h0 h1 h2 aM=>?_;refine mo adp rfl aM hS hs (kl adp.o aJ) fun a ae aK=>t4 ae hs hd h0 h1 h2 aM fun hs hd h0 h1 h2 aM=>?_;refine ay adq hS hs (bn adq.o aM aK) fun a ae aW=>t3 ae hs hd h0 h1 h2 fun hs hd h0 h1 h2=>?_;refine ai hS (aX hS aRN aW (q_skip hS aRM (aj hS aRS ?_)));have W:=W1.trans W2;refine ag hS aRP (rl [0,1,2] rfl) (ay adu hS hs (aB adu.o h1 underlying32 rfl sizeOf2 (by decide) rfl) fun a ae eS=>t3 ae hs hd h0 h1 h2 fun hs hd h0 h1 h2=>?_)
 refine ay adv hS hs (aL adv.o eS isAgg2 ((hbw.go W).cK rfl)) fun a ae fP=>t3 ae hs hd h0 h1 h2 fun hs hd h0 h1 h2=>?_;refine ay adw hS hs (ak adw.o fP) fun a ae h4=>t3 ae hs hd h0 h1 h2 fun hs hd h0 h1 h2=>?_;refine ai hS (bV hS aRR (iU hS aRQ ?_));have a0d:∀g,(Value.slice none 0 0).ownBlock=some g->w2.heap.size<=g:=fun g h=>by cases h
 have aWf:Row V2 w2 5 1 (.slice none 0 0) (D.fA Γ.me f f).length (D.fA Γ.me f f):=by rw [UA];exact Row.nil V2 w2 5 1
 refine al4 (k:=[]) I hk T2 hf0 ht (E1.go W) (NO.go W) (hbw.go W) (hbu.go W) (hl.go W) (nJ.go W) hr (fun V' w' jQ a' n' CY s' d' Xm hN' hL' av1 hBl hR' OE=>?_) s n f V2 w2 _ (.slice none 0 0) hI (Int.le_refl f) hft rp hn (hW.go W) (hN.aC W) (Left.refl V2 w2).none (nJ.go W) (hl.go W) aWf a0d hs hd h0 h1 h2 h4;exact rX (QH rfl d' func73 rfl (K V' w' jQ n' CY Xm hN' (Left.trans (Left.jk W).none hL') av1 hBl hR' fun g hg=>Nat.le_trans W.size (OE g hg)))
end
def av2(ops:Array Oper)(om:Oper)(m f fl:Nat):Bool:=(List.range m).all fun j=>j==fl||((Oper.fI om).elem j||(Oper.fI om).any fun l=>EG ops f l j)
theorem UD{ops:Array Oper}{om:Oper}{m f fl:Nat}(h:av2 ops om m f fl=true){ex:Nat->Prop}(h1:∀j∈Oper.fI om,ex j)(h2:∀j oj,ops[j]? =some oj->ex j->∀d∈Oper.fI oj,ex d):∀j,j<m->j≠fl->ex j:=fun j hj hn=>by
 unfold av2 at h;have:=List.all_eq_true.1 h j (List.mem_range.2 hj);simp only [Bool.or_eq_true,List.any_eq_true,beq_iff_eq]at this;rcases this with h|h|⟨l,h3,h4⟩
 ·exact absurd h hn
 ·exact h1 j (fZ h)
 ·exact EI h2 f l j h4 (h1 l h3)
def akt(ops:Array Oper)(m:Region.Mode)(rk:Nat->Nat):Bool:=(List.range ops.size).all fun i=>((ops[i]?).map fun o=>o.after.toList.all fun e=>!(Region.binds m e)||(Nat.blt (rk e.on) (rk i)&&Nat.blt e.on ops.size)).getD true
def rkG(fl m:Nat)(i:Nat):Nat:=if Nat.beq i fl then 2*m+1 else 2*i
def av3(ops:Array Oper)(fl m:Nat):Bool:=akt ops .any (fun i=>i)&&(akt ops .text (fun i=>i)&&akt ops .gc (rkG fl m))
theorem EK{ops:Array Oper}{m:Region.Mode}{rk:Nat->Nat}(h:akt ops m rk=true):∃rk:Nat->Nat,∀(i:Nat) (o:Oper),ops[i]? =some o->∀e∈o.after,Region.binds m e=true->rk e.on<rk i/\e.on<ops.size:=⟨rk,fun i o ho e he hb=>by
 have hi:=(Array.getElem?_eq_some_iff.1 ho).1;have:=List.all_eq_true.1 h i (List.mem_range.2 hi);rw [ho]at this;have:=List.all_eq_true.1 this e (Array.mem_toList_iff.2 he);rw [hb]at this;simpa using this⟩
theorem av4{ops:Array Oper}{fl m:Nat}(h:av3 ops fl m=true):avA ops:=fun x=>by
 unfold av3 at h;rw [Bool.and_eq_true,Bool.and_eq_true]at h;cases x with
 |any=>exact EK h.1
 |text=>exact EK h.2.1
 |gc=>exact EK h.2.2
theorem ye{id:Nat}{c:Code}(hS:fg P main S)(e:c=.region id ops true)(D:List Nat)(F:List Spec)(live:List (Nat×Value))(m:Nat)(hm:ops.size=m+1)(yd:akm ops=true){om:Oper}(hom:ops[m]? =some om)
  {fu:Nat}(lq:EH ops om m fu=true)(hD:D.length=m)(hF:F.length=m)(ZP:D.Nodup)(hdl:∀p∈live,p.1∉D){a:Act}{V:View}{w:World}(Fin:Act->View->World->Prop)
  (hl:∀p∈live,a.eval (.tmp p.1)=p.2)(hT:Tidy V w)
  (step:∀(i:Nat) (d:Nat) (s:Spec) (o:Oper) (rest:List Nat),i<m->D[i]? =some d->F[i]? =some s->ops[i]? =some o->∀a' V' w',Std a.tmps.size a.defers live V w a' V' w'->ey D F (fun j=>j∈Oper.fI o) a' V' w'->
   (∀dA dq cO,dA.tmps.size=a'.tmps.size->dA.defers=a'.defers->(∀j,d≠j->dA.eval (.tmp j)=a'.eval (.tmp j))->aG aI aD V' w' dq cO->Tidy dq cO->s.ok (dA.eval (.tmp d)) dq cO->Loc P main Stop dq (G (S dA (.inRegion ops rest::k)) cs) cO)->
   Loc P main Stop V' (G (S a' (.inRegion ops (i::rest)::k)) cs) w')
  (last:∀(rest:List Nat) a' V' w',Std a.tmps.size a.defers live V w a' V' w'->ey D F (fun j=>j<m) a' V' w'->
   (∀dA dq cO,Fin dA dq cO->Loc P main Stop dq (G (S dA (.inRegion ops rest::k)) cs) cO)->
   Loc P main Stop V' (G (S a' (.inRegion ops (m::rest)::k)) cs) w')
  (K:∀a' V' w',Fin a' V' w'->Loc P main Stop V' (G (S a' k) cs) w'):Loc P main Stop V (G (S a (.code c::k)) cs) w:=
 q_reg (β:=Unit) (St:=fun _=>Stop) (q:=()) hS e D F live m hm (BB yd) (fun o ex ho=>by
   obtain rfl:=Option.some.inj (hom.symm.trans ho);exact iz lq) hD hF ZP hdl (fun _=>Fin) hl hT
  (fun i d s o rest hi hd hs ho _ a' V' w' h1 h2 h3=>step i d s o rest hi hd hs ho a' V' w' h1 h2 (h3 ()))
  (fun o rest ho _ a' V' w' h1 h2 h3=>last rest a' V' w' h1 h2 (h3 ()))
  (fun _=>K)
theorem aNm{id:Nat}{c:Code}(hS:fg P main S)(e:c=.region id ops true)(D:List Nat)(F:List Spec)(live:List (Nat×Value))(m fl dfl:Nat)(vfl:Value)(hm:ops.size=m+2)(hfl:fl<m)(hDf:D[fl]? =some dfl)(hFf:F[fl]? =some (.val vfl))(yd:av3 ops fl m=true){om on:Oper}(hom:ops[m]? =some om)(hon:ops[m+1]? =some on)
  {fu:Nat}(lq:av2 ops om m fu fl=true)(EJ:EH ops on (m+1) (fu+1)=true)(hD:D.length=m)(hF:F.length=m)(ZP:D.Nodup)(hdl:∀p∈live,p.1∉D){a:Act}{V:View}{w:World}(Mid Fin:Act->View->World->Prop)
  (hl:∀p∈live,a.eval (.tmp p.1)=p.2)(hT:Tidy V w)
  (step:∀(i:Nat) (d:Nat) (s:Spec) (o:Oper) (rest:List Nat),i<m->D[i]? =some d->F[i]? =some s->ops[i]? =some o->∀a' V' w',Std a.tmps.size a.defers live V w a' V' w'->ey D F (fun j=>j∈Oper.fI o) a' V' w'->
   (∀dA dq cO,dA.tmps.size=a'.tmps.size->dA.defers=a'.defers->(∀j,d≠j->dA.eval (.tmp j)=a'.eval (.tmp j))->aG aI aD V' w' dq cO->Tidy dq cO->s.ok (dA.eval (.tmp d)) dq cO->Loc P main Stop dq (G (S dA (.inRegion ops rest::k)) cs) cO)->
   Loc P main Stop V' (G (S a' (.inRegion ops (i::rest)::k)) cs) w')
  (last:∀(rest:List Nat) a' V' w',Std a.tmps.size a.defers live V w a' V' w'->ey D F (fun j=>j<m/\j≠fl) a' V' w'->
   (∀dA dq cO,Mid dA dq cO->dA.eval (.tmp dfl)=a'.eval (.tmp dfl)->Loc P main Stop dq (G (S dA (.inRegion ops rest::k)) cs) cO)->
   Loc P main Stop V' (G (S a' (.inRegion ops (m::rest)::k)) cs) w')
  (late:∀(o:Oper) (rest:List Nat) a' V' w',ops[fl]? =some o->Mid a' V' w'->
   (∀dA dq cO,Mid dA dq cO->dA.eval (.tmp dfl)=vfl->Loc P main Stop dq (G (S dA (.inRegion ops rest::k)) cs) cO)->
   Loc P main Stop V' (G (S a' (.inRegion ops (fl::rest)::k)) cs) w')
  (avX:∀(rest:List Nat) a' V' w',Mid a' V' w'->a'.eval (.tmp dfl)=vfl->
   (∀dA dq cO,Fin dA dq cO->Loc P main Stop dq (G (S dA (.inRegion ops rest::k)) cs) cO)->
   Loc P main Stop V' (G (S a' (.inRegion ops ((m+1)::rest)::k)) cs) w')
  (K:∀a' V' w',Fin a' V' w'->Loc P main Stop V' (G (S a' k) cs) w'):Loc P main Stop V (G (S a (.code c::k)) cs) w:=by
 refine xd (β:=Unit) (St:=fun _=>Stop) (q:=()) hS e (fun ex _ a' V' w'=>(ex (m+1)->Fin a' V' w')/\(¬ex (m+1)->ex m->Mid a' V' w'/\(ex fl->a'.eval (.tmp dfl)=vfl))/\(¬ex (m+1)->¬ex m->Std a.tmps.size a.defers live V w a' V' w'/\ey D F (fun j=>ex j/\j<m) a' V' w')) (av4 yd)
  (fun ex w₁ hex hr=>⟨fun h=>absurd h (hex _),fun _ h=>absurd h (hex m),fun _ _=>⟨⟨rfl,rfl,hl,.bk hr,hT.aC (.bk hr)⟩,fun j d s h=>absurd h.1 (hex j)⟩⟩) ?_ fun ex q a V w h1 h2=>K a V w (h2.1 (h1 _ (by omega)))
 intro ex i o rest ho GJ yN ml q a' V' w' hB hK;have hi:=(Array.getElem?_eq_some_iff.1 ho).1;by_cases eD:i=m+1
 ·subst eD;obtain rfl:=Option.some.inj (hon.symm.trans ho);have hex:=iz EJ yN ml;obtain⟨h1,h2⟩:=hB.2.1 GJ (hex m (by omega))
  exact avX rest a' V' w' h1 (h2 (hex fl (by omega))) fun dA dq cO hf=>hK () dA dq cO ⟨fun _=>hf,fun hn=>absurd (.inl rfl) hn,fun hn=>absurd (.inl rfl) hn⟩
 have hnn:¬ex (m+1):=fun x=>GJ (iz EJ (ml _ on hon x) ml i (by omega))
 by_cases him:i=m
 ·subst him;obtain rfl:=Option.some.inj (hom.symm.trans ho);obtain⟨h1,h2⟩:=hB.2.2 hnn GJ;refine last rest a' V' w' h1 (fun j d s hj hd hs=>h2 j d s ⟨UD lq yN ml j hj.1 hj.2,hj.1⟩ hd hs) fun dA dq cO hf he=>hK () dA dq cO ⟨fun h=>h.elim (fun x=>absurd x (by omega)) fun x=>absurd x hnn,fun _ _=>⟨hf,fun h=>?_⟩,fun _ hn=>absurd (.inl rfl) hn⟩
  have hx:ex fl:=h.resolve_left (by omega)
  exact he.trans (h2 fl dfl _ ⟨hx,hfl⟩ hDf hFf)
 have Un:i<m:=by omega
 by_cases hxm:ex m
 ·have hif:i=fl:=Classical.byContradiction fun hn=>GJ (UD lq (ml m om hom hxm) ml i Un hn);subst hif;obtain⟨h1,h2⟩:=hB.2.1 hnn hxm;exact late o rest a' V' w' ho h1 fun dA dq cO hf he=>hK () dA dq cO ⟨fun h=>h.elim (fun x=>absurd x.symm eD) fun x=>absurd x hnn,fun _ _=>⟨hf,fun _=>he⟩,fun _ hn=>absurd (.inr hxm) hn⟩
 ·have hnm:=hxm;obtain⟨h1,h2⟩:=hB.2.2 hnn hnm;obtain⟨d,hd⟩:∃d,D[i]? =some d:=⟨_,List.getElem?_eq_getElem (show i<D.length by omega)⟩
  obtain⟨s,hs⟩:∃s,F[i]? =some s:=⟨_,List.getElem?_eq_getElem (show i<F.length by omega)⟩
  refine step i d s o rest Un hd hs ho a' V' w' h1 (fun j d' s' hj aV aZ=>h2 j d' s' ⟨yN j hj,?_⟩ aV aZ) fun dA dq cO e1 e2 e3 e4 e5 e6=>hK () dA dq cO ⟨fun h=>?_,fun _ h=>?_,fun _ _=>⟨⟨e1.trans h1.size,e2.trans h1.defers,fun p hp=>?_,h1.aC.trans e4,e5⟩,?_⟩⟩
  ·have:=(List.getElem?_eq_some_iff.1 aV).1;omega
  ·exact h.elim (fun x=>absurd x.symm eD) fun x=>absurd x hnn
  ·exact h.elim (fun x=>absurd x.symm him) fun x=>absurd x hnm
  ·have cM:d≠p.1:=fun x=>hdl p hp (x▸List.mem_of_getElem? hd);exact(e3 p.1 cM).trans (h1.live p hp)
  ·rintro j d' s' ⟨hj,hjm⟩ aV aZ;by_cases Fc:j=i
   ·subst Fc;rw [hd]at aV;cases aV;rw [hs]at aZ;cases aZ;exact e6
   ·have lO:ex j:=hj.resolve_left Fc;have cM:d≠d':=fun x=>by
     subst x;obtain⟨l1,m1⟩:=List.getElem?_eq_some_iff.1 hd;obtain⟨l2,m2⟩:=List.getElem?_eq_some_iff.1 aV;exact Fc ((List.getElem_inj ZP).1 (m2.trans m1.symm))
    rw [e3 d' cM];exact(h2 j d' s' ⟨lO,hjm⟩ aV aZ).go e4
structure Jb where
 f:Int
 t:Int
 q:Int
variable {j:Jb}
def Jb.some(j:Jb)(n:Int):Bool:=Rg.meets j.f j.t 0 n
def Jb.hf(j:Jb)(n:Int):Int:=if j.some n then max j.f 0 else 0
def Jb.ht(j:Jb)(n:Int):Int:=if j.some n then min j.t n else 0
def Jb.wt(j:Jb)(n:Int):Int:=if j.q=-1 then j.ht n else min (j.ht n) (j.hf n+min j.q (j.ht n-j.hf n))
theorem Jb.jH(j:Jb)(n:Int):Rg.jH j.f j.t 0 n=.agg #[.int .i64 (j.hf n),.int .i64 (j.ht n)]:=by
 unfold Rg.jH Jb.hf Jb.ht Jb.some;split<;>rfl
theorem av5(n:Int):prog.built 32 [(1,.int .i64 n)]=some #[.int .i64 0,.int .i64 n]:=by kernel_rfl
section
variable {D:cY} {w:World} {a:Act}
theorem a0f(hk:b.kind≠.early)(hT:Tidy V w)(hs:a.tmps.size=93)(h0:a.eval (.tmp 0)=.pointer (some ⟨Γ.src Γ.me,0,none⟩))(h1:a.eval (.tmp 1)=.agg #[.int .i64 jo,.int .i64 j.f,.int .i64 j.t,.int .i64 j.q])(h2:a.eval (.tmp 2)=.chan (some Γ.off))
  (K:∀b3 b4 b5 b6 a' V' w',a'.tmps.size=93->a'.defers=a.defers->a'.eval (.tmp 3)=.pointer (some ⟨b3,0,none⟩)->a'.eval (.tmp 4)=.pointer (some ⟨b4,0,none⟩)->a'.eval (.tmp 5)=.pointer (some ⟨b5,0,none⟩)->a'.eval (.tmp 6)=.pointer (some ⟨b6,0,none⟩)->aG aI aD V w V' w'->Tidy V' w'->
   ba V' w' b3 (.cells #[.pointer (some ⟨Γ.src Γ.me,0,none⟩)] 51 (0,0))->ba V' w' b4 (.cells #[.int .i64 jo,.int .i64 j.f,.int .i64 j.t,.int .i64 j.q] 34 (0,0))->ba V' w' b5 (.cells #[.chan (some Γ.off)] 106 (0,0))->ba V' w' b6 (.cells #[.slice none 0 0,.bool false] 36 (0,0))->w.heap.size<=b6->
   Loc prog false Stop V' (G (b.at a' (.code Gm::k)) cs) w'):
  Loc prog false Stop V (G (b.at a (.code Gl::k)) cs) w:=by
 have hS:=bh (P:=prog) (main:=false) hk;obtain⟨ds,hd⟩:∃ds,a.defers=ds:=⟨_,rfl⟩;rw [hd]at K;refine aj hS aRZ (ag hS aRU (rl [0,1,2,3] rfl) (pg zX.a zX.f hS zX.d (by rw [hs];decide) hT zX.o h0 fun b3 a V1 w1 au an ah h3 W1 g1 B1 T1=>t2 ⟨au,an,ah⟩ hs hd h1 h2 fun hs hd h1 h2=>?_))
 refine pg zY.a zY.f hS zY.d (by rw [hs];decide) T1 zY.o h1 fun b4 a V2 w2 au an ah h4 W2 g2 B2 T2=>t2 ⟨au,an,ah⟩ hs hd h2 h3 fun hs hd h2 h3=>?_
 refine pg zZ.a zZ.f hS zZ.d (by rw [hs];decide) T2 zZ.o h2 fun b5 a V3 w3 au an ah h5 W3 g3 B3 T3=>t2 ⟨au,an,ah⟩ hs hd h3 h4 fun hs hd h3 h4=>?_
 refine dN z8.a z8.f hS z8.d (by rw [hs];decide) T3 z8.o Tryz.zeroValue36 fun b6 a V4 w4 au an ah h6 W4 g4 B4 T4=>t3 ⟨au,an,ah⟩ hs hd h3 h4 h5 fun hs hd h3 h4 h5=>?_
 have W12:=W1.trans W2;have aWg:=W12.trans W3;exact ai hS (K b3 b4 b5 b6 _ _ _ hs hd h3 h4 h5 h6 (aWg.trans W4) T4 (((B1.go W2).go W3).go W4) ((B2.go W3).go W4) (B3.go W4) B4 (Nat.le_trans aWg.size g4))
theorem a0g(I:Is Γ D)(hk:b.kind≠.early)(hW:Wk Γ D V w)
  (E1:ba V w b3 (.cells #[.pointer (some ⟨Γ.src Γ.me,0,none⟩)] 51 (0,0)))(hb4:ba V w b4 (.cells #[.int .i64 jo,.int .i64 j.f,.int .i64 j.t,.int .i64 j.q] 34 (0,0)))
  (hs:a.tmps.size=93)(h3:a.eval (.tmp 3)=.pointer (some ⟨b3,0,none⟩))(h4:a.eval (.tmp 4)=.pointer (some ⟨b4,0,none⟩)){x5 x6:Value}(h5:a.eval (.tmp 5)=x5)(h6:a.eval (.tmp 6)=x6)
  (K:∀b7 a' V' w',a'.tmps.size=93->a'.defers=a.defers->a'.eval (.tmp 3)=.pointer (some ⟨b3,0,none⟩)->a'.eval (.tmp 4)=.pointer (some ⟨b4,0,none⟩)->a'.eval (.tmp 5)=x5->a'.eval (.tmp 6)=x6->a'.eval (.tmp 7)=.pointer (some ⟨b7,0,none⟩)->a'.eval (.tmp 8)=.bool (j.some (D.len Γ.me))->aG aI aD V w V' w'->Tidy V' w'->
   ba V' w' b7 (.cells #[.int .i64 (j.hf (D.len Γ.me)),.int .i64 (j.ht (D.len Γ.me))] 32 (0,0))->
   Loc prog false Stop V' (G (b.at a' (.code Dr::k)) cs) w'):
  Loc prog false Stop V (G (b.at a (.code Gm::k)) cs) w:=by
 have hS:=bh (P:=prog) (main:=false) hk;have hT:=hW.tidy;refine aj hS aRY (aNm hS aRV [16,17,18,19,20,21,22,23,24,15,25,26,7] [.val (.pointer (some ⟨b4,1,none⟩)),.val (.agg #[.int .i64 j.f,.int .i64 j.t]),.val (.pointer (some ⟨Γ.src Γ.me,0,none⟩)),.val (.pointer (some ⟨Γ.src Γ.me,0,none⟩)),.val (.pointer (some ⟨Γ.src Γ.me,0,none⟩)),.val (D.obj Γ.me),.val (.int .i64 (D.len Γ.me)),.val (.agg #[.int .i64 0,.int .i64 (D.len Γ.me)]),.val (.tuple #[.agg #[.int .i64 (j.hf (D.len Γ.me)),.int .i64 (j.ht (D.len Γ.me))],.bool (j.some (D.len Γ.me))]),.val (.tuple #[.agg #[.int .i64 (j.hf (D.len Γ.me)),.int .i64 (j.ht (D.len Γ.me))],.bool (j.some (D.len Γ.me))]),.val (.agg #[.int .i64 (j.hf (D.len Γ.me)),.int .i64 (j.ht (D.len Γ.me))]),.val (.bool (j.some (D.len Γ.me))),.var #[.int .i64 0,.int .i64 0] 32 w.heap.size] [(3,.pointer (some ⟨b3,0,none⟩)),(4,.pointer (some ⟨b4,0,none⟩)),(5,x5),(6,x6)] 13 11 26 ((.bool (j.some (D.len Γ.me)))) rfl (by decide) rfl rfl (by kernel_rfl) pH.a pI.a (fu:=8) (by kernel_rfl) (by kernel_rfl) rfl rfl (by decide) (by simp) (fun a' V' w'=>a'.tmps.size=93/\a'.defers=a.defers/\a'.eval (.tmp 3)=.pointer (some ⟨b3,0,none⟩)/\a'.eval (.tmp 4)=.pointer (some ⟨b4,0,none⟩)/\a'.eval (.tmp 5)=x5/\a'.eval (.tmp 6)=x6/\a'.eval (.tmp 15)=.tuple #[.agg #[.int .i64 (j.hf (D.len Γ.me)),.int .i64 (j.ht (D.len Γ.me))],.bool (j.some (D.len Γ.me))]/\∃b7,a'.eval (.tmp 7)=.pointer (some ⟨b7,0,none⟩)/\aG aI aD V w V' w'/\Tidy V' w'/\ba V' w' b7 (.cells #[.int .i64 (j.hf (D.len Γ.me)),.int .i64 (j.ht (D.len Γ.me))] 32 (0,0))) (fun a' V' w'=>∃b7,a'.tmps.size=93/\a'.defers=a.defers/\a'.eval (.tmp 3)=.pointer (some ⟨b3,0,none⟩)/\a'.eval (.tmp 4)=.pointer (some ⟨b4,0,none⟩)/\a'.eval (.tmp 5)=x5/\a'.eval (.tmp 6)=x6/\a'.eval (.tmp 7)=.pointer (some ⟨b7,0,none⟩)/\a'.eval (.tmp 8)=.bool (j.some (D.len Γ.me))/\aG aI aD V w V' w'/\Tidy V' w'/\ba V' w' b7 (.cells #[.int .i64 (j.hf (D.len Γ.me)),.int .i64 (j.ht (D.len Γ.me))] 32 (0,0))) (by simp [h3,h4,h5,h6]) hT ?_ ?_ ?_ ?_ ?_)
 ·intro i d s o rest hi aV aZ ho aa VV ww hB hI K;match i,hi with
  |0,_=>
   cases aV;cases aZ;obtain rfl:=Kr.w ho;have h4:=hB.sl 4 rfl;exact cU Kr hS hB hs (aB Kr.o h4 underlying34 rfl sizeOf32 (by decide) rfl) K
  |1,_=>
   cases aV;cases aZ;obtain rfl:=Ks.w ho;have fP:=hI.av 0;exact cU Ks hS hB hs (eu Ks.o fP isAgg32 sizeOf32 ((hb4.go hB.aC).cK rfl) ((hb4.go hB.aC).cK rfl)) K
  |2,_=>
   cases aV;cases aZ;obtain rfl:=Kt.w ho;have h3:=hB.sl 3 rfl;exact cU Kt hS hB hs (aL Kt.o h3 isAgg51 ((E1.go hB.aC).cK rfl)) K
  |3,_=>
   cases aV;cases aZ;obtain rfl:=Ku.w ho;have jL:=hI.av 2;exact cU Ku hS hB hs (bE Ku.o jL) K
  |4,_=>
   cases aV;cases aZ;obtain rfl:=Kv.w ho;have dz:=hI.av 3;exact cU Kv hS hB hs (aB Kv.o dz underlying61 rfl sizeOf25 (by decide) rfl) K
  |5,_=>
   cases aV;cases aZ;obtain rfl:=Kw.w ho;have dE:=hI.av 4;exact cU Kw hS hB hs (aL Kw.o dE isAgg25 ((hW.src.obj.go hB.aC).cK)) K
  |6,_=>
   cases aV;cases aZ;obtain rfl:=Kx.w ho;have cD:=hI.av 5;exact cU Kx hS hB hs (dk Kx.o cD underlying25) K
  |7,_=>
   cases aV;cases aZ;obtain rfl:=Ky.w ho;have kE:=hI.av 6;exact cU Ky hS hB hs (lA Ky.o (by simp only [List.map_toArray,List.map_cons,List.map_nil,kE];exact av5 (D.len Γ.me))) K
  |8,_=>
   cases aV;cases aZ;obtain rfl:=vP.w ho;have bT:=hI.av 1;have ga:=hI.av 7;refine qK vP.a vP.f hS vP.d (by rw [hB.size,hs];decide) hB.tidy vP.o (by kernel_rfl) (vl:=.tuple #[.agg #[.int .i64 (j.hf (D.len Γ.me)),.int .i64 (j.ht (D.len Γ.me))],.bool (j.some (D.len Γ.me))]) (fun U n=>?_) (fun w'=>?_) (.aZJ (.Ul (.int _ _) (.int _ _)) (.bool _)) fun a' V' w' e1 e2 e3 e4 e5 e6=>K a' V' w' e1 e2 e3 e5 e6 e4
   ·simp only [List.map_toArray,List.map_cons,List.map_nil,bT,ga];exact ar2 ((Flat.Ul (.int _ _) (.int _ _)) U n) ((Flat.Ul (.int _ _) (.int _ _)) U n)
   ·simp only [List.map_toArray,List.map_cons,List.map_nil,bT,ga];have:=Rg.Ey j.f j.t 0 (D.len Γ.me) w';rw [j.jH]at this;exact this
  |9,_=>
   cases aV;cases aZ;obtain rfl:=Kz.w ho;have oi:=hI.av 8;exact cU Kz hS hB hs (af Kz.o oi) K
  |10,_=>
   cases aV;cases aZ;obtain rfl:=Dq.w ho;have eS:=hI.av 9;exact cU Dq hS hB hs (bR Dq.o eS rfl) K
  |11,_=>
   cases aV;cases aZ;obtain rfl:=jE.w ho;have eS:=hI.av 9;exact cU jE hS hB hs (bR jE.o eS rfl) K
  |12,_=>
   cases aV;cases aZ;obtain rfl:=pG.w ho;exact dN pG.a pG.f hS pG.d (by rw [hB.size,hs];decide) hB.tidy pG.o Tryz.zeroValue32 fun n a' V' w' e1 e2 e3 e4 e5 e6 e7 e8=>K a' V' w' e1 e2 e3 e5 e8 ⟨n,e4,Nat.le_trans hB.aC.size e6,e7⟩
  |n+13,hn=>exact absurd hn (by omega)
 ·intro rest aa VV ww hB hI K;have h7:=hI 12 7 (.var #[.int .i64 0,.int .i64 0] 32 w.heap.size) (by decide) rfl rfl
  have o9:aa.eval (.tmp 25)=(.agg #[.int .i64 (j.hf (D.len Γ.me)),.int .i64 (j.ht (D.len Γ.me))]):=hI 10 25 (.val (.agg #[.int .i64 (j.hf (D.len Γ.me)),.int .i64 (j.ht (D.len Γ.me))])) (by decide) rfl rfl
  obtain⟨n,h7,hn,hb7⟩:=h7;have eS:aa.eval (.tmp 15)=.tuple #[.agg #[.int .i64 (j.hf (D.len Γ.me)),.int .i64 (j.ht (D.len Γ.me))],.bool (j.some (D.len Γ.me))]:=hI 9 15 (.val (.tuple #[.agg #[.int .i64 (j.hf (D.len Γ.me)),.int .i64 (j.ht (D.len Γ.me))],.bool (j.some (D.len Γ.me))])) (by decide) rfl rfl
  refine gg pH.a pH.f hS pH.d pH.o h7 o9 (vs:=[.int .i64 (j.hf (D.len Γ.me)),.int .i64 (j.ht (D.len Γ.me))]) rfl sizeOf32 (fun u hu=>by simp at hu;rcases hu with rfl|rfl<;>rfl) hb7 (by simp) hB.tidy fun w' e1 e2 e3 e4=>K _ _ _ ⟨hB.size.trans hs,hB.defers,hB.slot 3 _ (by simp),hB.slot 4 _ (by simp),hB.slot 5 _ (by simp),hB.slot 6 _ (by simp),eS,n,h7,hB.aC.fresh e1 hn hT,e3,e2⟩ rfl
 ·intro o rest aa VV ww ho hM K;obtain rfl:=jE.w ho;obtain⟨m1,m2,m3,m4,m5,m6,m15,b7,m7,mW,mT,mB⟩:=hM;refine zw jE.a jE.f hS jE.d (by rw [m1];decide) (bR jE.o m15 rfl) fun a' e1 e2 e3 e4=>K a' VV ww ⟨e1.trans m1,e2.trans m2,(e3 3 (by decide)).trans m3,(e3 4 (by decide)).trans m4,(e3 5 (by decide)).trans m5,(e3 6 (by decide)).trans m6,(e3 15 (by decide)).trans m15,b7,(e3 7 (by decide)).trans m7,mW,mT,mB⟩ e4
 ·intro rest aa VV ww hM hfl K;obtain⟨m1,m2,m3,m4,m5,m6,m15,b7,m7,mW,mT,mB⟩:=hM;refine zw pI.a pI.f hS pI.d (by rw [m1];decide) (ak pI.o hfl) fun a' e1 e2 e3 e4=>K a' VV ww ⟨b7,e1.trans m1,e2.trans m2,(e3 3 (by decide)).trans m3,(e3 4 (by decide)).trans m4,(e3 5 (by decide)).trans m5,(e3 6 (by decide)).trans m6,(e3 7 (by decide)).trans m7,e4,mW,mT,mB⟩
 ·skip;rintro a' V' w' ⟨b7,e1,e2,e3,e4,e5,e6,e7,e8,e9,Vx,e11⟩;exact K b7 a' V' w' e1 e2 e3 e4 e5 e6 e7 e8 e9 Vx e11
end
theorem av6:prog.built 36 [(1,.bool true)]=some #[.slice none 0 0,.bool true]:=by kernel_rfl
theorem Jb.aku{j:Jb}{n:Int}(h:j.some n=false)(hq:-1<=j.q):j.hf n=0/\j.ht n=0/\j.wt n=0:=by
 have h1:j.hf n=0:=by simp [Jb.hf,h]
 have h2:j.ht n=0:=by simp [Jb.ht,h]
 refine⟨h1,h2,?_⟩;unfold Jb.wt;rw [h1,h2];split
 ·rfl
 ·omega
theorem Jb.NA{j:Jb}{n:Int}(h:j.some n=true)(hq:-1<=j.q):0<=j.hf n/\j.hf n<j.ht n/\j.ht n<=n/\j.hf n<=j.wt n/\j.wt n<=j.ht n:=by
 have h1:j.hf n=max j.f 0:=by simp [Jb.hf,h]
 have h2:j.ht n=min j.t n:=by simp [Jb.ht,h]
 have h3:max j.f 0<min j.t n:=by
  unfold Jb.some Rg.meets at h;simp only [Bool.and_eq_true,decide_eq_true_eq]at h;exact h.2
 have h5:j.hf n<=j.wt n/\j.wt n<=j.ht n:=by
  unfold Jb.wt;rw [h1,h2];split<;>omega
 omega
section
variable {w:World} {a:Act}
theorem aWh(hk:b.kind≠.early)(hT:Tidy V w)(hb6:ba V w b6 (.cells #[.slice none 0 0,.bool false] 36 (0,0)))
  (hs:a.tmps.size=93)(h6:a.eval (.tmp 6)=.pointer (some ⟨b6,0,none⟩))(h8:a.eval (.tmp 8)=.bool false)
  (K:∀a' todo w',a'.defers=a.defers->a'.eval (.tmp 6)=.pointer (some ⟨b6,0,none⟩)->aG (· =b6) aD V w V w'->Tidy V w'->ba V w' b6 (.cells #[.slice none 0 0,.bool true] 36 (0,0))->Loc prog false Stop V (G {b.at a' todo with mode:=.returning} cs) w'):
  Loc prog false Stop V (G (b.at a (.code Dr::k)) cs) w:=by
 have hS:=bh (P:=prog) (main:=false) hk;obtain⟨ds,hd⟩:∃ds,a.defers=ds:=⟨_,rfl⟩;rw [hd]at K;refine aj hS aB0 (aj hS aBX (ag hS aBU aBV (ay Aa hS hs (af Aa.o h8) fun a ae dT=>t1 ae hs hd h6 fun hs hd h6=>?_)));refine ay Ab hS hs (kl Ab.o dT) fun a ae cI=>t1 ae hs hd h6 fun hs hd h6=>?_;refine ai hS (bY hS aBW cI (aj hS aRX (ag hS aRW (rl [0,1] rfl) (ay adV hS hs (lA adV.o (by simp only [List.map_toArray,List.map_cons,List.map_nil];exact av6)) fun a ae fc=>t1 ae hs hd h6 fun hs hd h6=>?_))))
 refine gg Ac.a Ac.f hS Ac.d Ac.o h6 fc (vs:=[.slice none 0 0,.bool true]) rfl sizeOf36 (fun u hu=>by simp at hu;rcases hu with rfl|rfl<;>rfl) hb6 (by simp) hT fun w' e1 e2 e3 e4=>ai hS (dg aIv fun todo=>K _ todo w' hd h6 e1 e3 e2)
theorem a0h(hk:b.kind≠.early)(hT:Tidy V w)(hb4:ba V w b4 (.cells #[.int .i64 jo,.int .i64 j.f,.int .i64 j.t,.int .i64 j.q] 34 (0,0))){n:Int}(hb7:ba V w b7 (.cells #[.int .i64 (j.hf n),.int .i64 (j.ht n)] 32 (0,0)))(hj:j.some n=true)(hq:-1<=j.q)(hn:n<=60)
  (hs:a.tmps.size=93){x3 x5 x6:Value}(h3:a.eval (.tmp 3)=x3)(h4:a.eval (.tmp 4)=.pointer (some ⟨b4,0,none⟩))(h5:a.eval (.tmp 5)=x5)(h6:a.eval (.tmp 6)=x6)(h7:a.eval (.tmp 7)=.pointer (some ⟨b7,0,none⟩))(h8:a.eval (.tmp 8)=.bool true)
  (K:∀b9 a' V' w',a'.tmps.size=93->a'.defers=a.defers->a'.eval (.tmp 3)=x3->a'.eval (.tmp 5)=x5->a'.eval (.tmp 6)=x6->a'.eval (.tmp 7)=.pointer (some ⟨b7,0,none⟩)->a'.eval (.tmp 9)=.pointer (some ⟨b9,0,none⟩)->aG aI aD V w V' w'->Tidy V' w'->ba V' w' b9 (.cells #[.int .i64 (j.hf n),.int .i64 (j.wt n)] 32 (0,0))->
   Loc prog false Stop V' (G (b.at a' (.code xN::k)) cs) w'):
  Loc prog false Stop V (G (b.at a (.code Dr::k)) cs) w:=by
 have hS:=bh (P:=prog) (main:=false) hk;obtain⟨z1,z2,z3,z4,z5⟩:=Jb.NA hj hq;obtain⟨ds,hd⟩:∃ds,a.defers=ds:=⟨_,rfl⟩;rw [hd]at K;refine aj hS aB0 (aj hS aBX (ag hS aBU aBV (ay Aa hS hs (af Aa.o h8) fun a ae dT=>t5 ae hs hd h3 h4 h5 h6 h7 fun hs hd h3 h4 h5 h6 h7=>?_)));refine ay Ab hS hs (kl Ab.o dT) fun a ae cI=>t5 ae hs hd h3 h4 h5 h6 h7 fun hs hd h3 h4 h5 h6 h7=>?_;refine ai hS (aX hS aBW cI (q_skip hS aIw (aj hS aI2 (ag hS aIx (rl [0,1,2] rfl) (ay adX hS hs (eu adX.o h7 isAgg32 sizeOf32 (hb7.cK rfl) (hb7.cK rfl)) fun a ae eK=>t5 ae hs hd h3 h4 h5 h6 h7 fun hs hd h3 h4 h5 h6 h7=>?_)))));refine dN Ad.a Ad.f hS Ad.d (by rw [hs];decide) hT Ad.o Tryz.zeroValue32 fun b9 a V1 w1 au an ah h9 W1 g1 B1 T1=>t6 ⟨au,an,ah⟩ hs hd h3 h4 h5 h6 h7 eK fun hs hd h3 h4 h5 h6 h7 eK=>?_
 refine gg Ae.a Ae.f hS Ae.d Ae.o h9 eK (vs:=[.int .i64 (j.hf n),.int .i64 (j.ht n)]) rfl sizeOf32 (fun u hu=>by simp at hu;rcases hu with rfl|rfl<;>rfl) (show ba V1 w1 b9 (.cells #[.int .i64 0,.int .i64 0] 32 (0,0))from B1) (by simp) T1 fun w2 W2 B2 T2 z2=>ai hS (aj hS aI1 (aj hS aIB ?_))
 have W:aG aI aD V w V1 w2:=W1.fresh W2 g1 hT;have aWi:=hb4.go W;refine ag hS aIy (rl [0,1,2] rfl) (ay adZ hS hs (aB adZ.o h4 underlying34 rfl sizeOf2 (by decide) rfl) fun a ae lg=>t6 ae hs hd h3 h4 h5 h6 h7 h9 fun hs hd h3 h4 h5 h6 h7 h9=>?_)
 refine ay ad0 hS hs (aL ad0.o lg isAgg2 (aWi.cK rfl)) fun a ae bG=>t6 ae hs hd h3 h4 h5 h6 h7 h9 fun hs hd h3 h4 h5 h6 h7 h9=>?_;refine ay ad1 hS hs (eI ad1.o bG rfl) fun a ae bJ=>t6 ae hs hd h3 h4 h5 h6 h7 h9 fun hs hd h3 h4 h5 h6 h7 h9=>?_;refine ai hS ?_;by_cases hq1:j.q=-1
 ·have bJ:a.eval (.tmp 33)=.bool false:=by rw [bJ];simp [hq1]
  have hwt:j.wt n=j.ht n:=by simp [Jb.wt,hq1]
  refine aX hS aqd bJ (q_skip hS aIA (K b9 _ _ _ hs hd h3 h5 h6 h7 h9 W T2 ?_));rw [hwt];exact B2
 ·have bJ:a.eval (.tmp 33)=.bool true:=by rw [bJ];simp [hq1]
  have hwt:j.wt n=min (j.ht n) (j.hf n+min j.q (j.ht n-j.hf n)):=by simp [Jb.wt,hq1]
  have B2:ba V1 w2 b9 (.cells #[.int .i64 (j.hf n),.int .i64 (j.ht n)] 32 (0,0)):=B2;refine bY hS aqd bJ (ag hS aIz (rl [0,1,2,3,4,5,6,7,8,9,10,11,12,13,14,15] rfl) (ay ad2 hS hs (aB ad2.o h9 underlying32 rfl sizeOf2 (by decide) rfl) fun a ae cQ=>t6 ae hs hd h3 h4 h5 h6 h7 h9 fun hs hd h3 h4 h5 h6 h7 h9=>?_))
  refine ay ad3 hS hs (aL ad3.o cQ isAgg2 (B2.cK rfl)) fun a ae iF=>t6 ae hs hd h3 h4 h5 h6 h7 h9 fun hs hd h3 h4 h5 h6 h7 h9=>?_;refine ay ad4 hS hs (aB ad4.o h9 underlying32 rfl sizeOf2 (by decide) rfl) fun a ae rh=>t7 ae hs hd h3 h4 h5 h6 h7 h9 iF fun hs hd h3 h4 h5 h6 h7 h9 iF=>?_
  refine ay ad5 hS hs (aL ad5.o rh isAgg2 (B2.cK rfl)) fun a ae iI=>t7 ae hs hd h3 h4 h5 h6 h7 h9 iF fun hs hd h3 h4 h5 h6 h7 h9 iF=>?_;refine ay ad6 hS hs (aB ad6.o h4 underlying34 rfl sizeOf2 (by decide) rfl) fun a ae nz=>t7 ae hs hd h3 h5 h6 h7 h9 iF iI fun hs hd h3 h5 h6 h7 h9 iF iI=>?_
  refine ay ad7 hS hs (aL ad7.o nz isAgg2 (aWi.cK rfl)) fun a ae im=>t7 ae hs hd h3 h5 h6 h7 h9 iF iI fun hs hd h3 h5 h6 h7 h9 iF iI=>?_;refine ay ad8 hS hs (aB ad8.o h9 underlying32 rfl sizeOf2 (by decide) rfl) fun a ae fQ=>t8 ae hs hd h3 h5 h6 h7 h9 iF iI im fun hs hd h3 h5 h6 h7 h9 iF iI im=>?_
  refine ay ad9 hS hs (aL ad9.o fQ isAgg2 (B2.cK rfl)) fun a ae iT=>t8 ae hs hd h3 h5 h6 h7 h9 iF iI im fun hs hd h3 h5 h6 h7 h9 iF iI im=>?_;refine ay aea hS hs (aB aea.o h9 underlying32 rfl sizeOf2 (by decide) rfl) fun a ae j8=>t9 ae hs hd h3 h5 h6 h7 h9 iF iI im iT fun hs hd h3 h5 h6 h7 h9 iF iI im iT=>?_
  refine ay aeb hS hs (aL aeb.o j8 isAgg2 (B2.cK rfl)) fun a ae zz=>t9 ae hs hd h3 h5 h6 h7 h9 iF iI im iT fun hs hd h3 h5 h6 h7 h9 iF iI im iT=>?_;refine ay Se hS hs (BX Se.o iT zz) fun a ae mS=>t8 ae hs hd h3 h5 h6 h7 h9 iF iI im fun hs hd h3 h5 h6 h7 h9 iF iI im=>?_;have mS:a.eval (.tmp 44)=.int .i64 (j.ht n-j.hf n):=by rw [mS,IntWalk.i64_in _ (by omega)]
  refine ay Sf hS hs (ao4 Sf.o im mS) fun a ae xu=>t7 ae hs hd h3 h5 h6 h7 h9 iF iI fun hs hd h3 h5 h6 h7 h9 iF iI=>?_;have xu:a.eval (.tmp 45)=.int .i64 (min j.q (j.ht n-j.hf n)):=by
   rw [xu];congr 1;split<;>omega
  refine ay Sg hS hs (gQ Sg.o iI xu) fun a ae jZ=>t6 ae hs hd h3 h5 h6 h7 h9 iF fun hs hd h3 h5 h6 h7 h9 iF=>?_;have jZ:a.eval (.tmp 46)=.int .i64 (j.hf n+min j.q (j.ht n-j.hf n)):=by rw [jZ,IntWalk.i64_in _ (by omega)]
  refine ay Si hS hs (ao4 Si.o iF jZ) fun a ae lV=>t5 ae hs hd h3 h5 h6 h7 h9 fun hs hd h3 h5 h6 h7 h9=>?_;have lV:a.eval (.tmp 47)=.int .i64 (j.wt n):=by
   rw [lV,hwt];congr 1;split<;>omega
  refine ay Sj hS hs (aB Sj.o h9 underlying32 rfl sizeOf2 (by decide) rfl) fun a ae E0=>t6 ae hs hd h3 h5 h6 h7 h9 lV fun hs hd h3 h5 h6 h7 h9 lV=>?_
  refine gg vQ.a vQ.f hS vQ.d vQ.o E0 lV (vs:=[.int .i64 (j.wt n)]) rfl sizeOf2 (fun u hu=>by simp at hu;subst hu;rfl) B2 (by simp) T2 fun w3 W3 B3 T3 z3=>ai hS (K b9 _ _ _ hs hd h3 h5 h6 h7 h9 (W.fresh W3 g1 hT) T3 B3)
end
section
variable {D:cY} {w:World} {a:Act} {f u:Int}
theorem aNp(hk:b.kind≠.early)(hT:Tidy V w)(hs:a.tmps.size=6)(hd:a.defers=[])(h0:a.eval (.tmp 0)=.agg #[.int .i64 f,.int .i64 t])(h1:a.eval (.tmp 1)=.int .i64 u)
  (K:∀bw bu a' todo V' w',a'.defers=[]->a'.eval (.tmp 4)=.func (.func 73) #[] #[.pointer (some ⟨bw,0,none⟩),.pointer (some ⟨bu,0,none⟩)]->aG aI aD V w V' w'->Tidy V' w'->ba V' w' bw (.cells #[.int .i64 f,.int .i64 t] 32 (0,0))->ba V' w' bu (.cells #[.int .i64 u] 2 (0,0))->
   Loc prog false Stop V' (G {b.at a' todo with mode:=.returning} cs) w'):
  Loc prog false Stop V (G (b.at a (.code Sa::k)) cs) w:=by
 have hS:=bh (P:=prog) (main:=false) hk;refine aj hS aRJ (ag hS aRF (rl [0,1,2] rfl) (pg zP.a zP.f hS zP.d (by rw [hs];decide) hT zP.o h0 fun bw a V1 w1 au an ah h2 W1 g1 B1 T1=>t1 ⟨au,an,ah⟩ hs hd h1 fun hs hd h1=>?_))
 refine pg zQ.a zQ.f hS zQ.d (by rw [hs];decide) T1 zQ.o h1 fun bu a V2 w2 au an ah h3 W2 g2 B2 T2=>t1 ⟨au,an,ah⟩ hs hd h2 fun hs hd h2=>?_
 refine ay adg hS hs (ak adg.o rfl) fun a ae h4=>t2 ae hs hd h2 h3 fun hs hd h2 h3=>?_;refine ai hS (aj hS aRI (ag hS aRG (rl [0,1] rfl) ?_));refine ay adi hS hs (show Yl prog V2 w2 _ _ (.func (.func 73) #[] #[.pointer (some ⟨bw,0,none⟩),.pointer (some ⟨bu,0,none⟩)])from by have:=CS (P:=prog) (V:=V2) (w:=w2) (a:=a) adi.o;simpa [h2,h3]using this) fun a ae h5=>t0 ae hs hd fun hs hd=>?_
 refine ay adj hS hs (ak adj.o h5) fun a ae h4=>t0 ae hs hd fun hs hd=>?_;exact ai hS (dg aRH fun todo=>K bw bu _ todo _ _ hd h4 (W1.trans W2) T2 (B1.go W2) B2)
theorem a0i(I:Is Γ D)(hk:b.kind≠.early)(hW:Wk Γ D V w)
  (E1:ba V w b3 (.cells #[.pointer (some ⟨Γ.src Γ.me,0,none⟩)] 51 (0,0)))(hb9:ba V w b9 (.cells #[.int .i64 f,.int .i64 t] 32 (0,0)))
  (hs:a.tmps.size=93)(h3:a.eval (.tmp 3)=.pointer (some ⟨b3,0,none⟩)){x5 x6 x7:Value}(h5:a.eval (.tmp 5)=x5)(h6:a.eval (.tmp 6)=x6)(h7:a.eval (.tmp 7)=x7)(h9:a.eval (.tmp 9)=.pointer (some ⟨b9,0,none⟩))
  (K:∀iM bw bu a' V' w',a'.tmps.size=93->a'.defers=a.defers->a'.eval (.tmp 3)=.pointer (some ⟨b3,0,none⟩)->a'.eval (.tmp 5)=x5->a'.eval (.tmp 6)=x6->a'.eval (.tmp 7)=x7->a'.eval (.tmp 9)=.pointer (some ⟨b9,0,none⟩)->a'.eval (.tmp 10)=.pointer (some ⟨iM,0,none⟩)->
   a'.eval (.tmp 54)=.func (.func 73) #[] #[.pointer (some ⟨bw,0,none⟩),.pointer (some ⟨bu,0,none⟩)]->aG aI aD V w V' w'->Tidy V' w'->w.heap.size<=iM->ba V' w' iM (.cells #[.slice none 0 0] 25 (0,0))->ba V' w' bw (.cells #[.int .i64 f,.int .i64 t] 32 (0,0))->ba V' w' bu (.cells #[.int .i64 D.u] 2 (0,0))->
   Loc prog false Stop V' (G (b.at a' (.code KM::.code pM::k)) cs) w'):
  Loc prog false Stop V (G (b.at a (.code xN::k)) cs) w:=by
 have hS:=bh (P:=prog) (main:=false) hk;obtain⟨ds,hd⟩:∃ds,a.defers=ds:=⟨_,rfl⟩;rw [hd]at K;refine aj hS aI0 (ag hS aIC (rl [0] rfl) (dN Af.a Af.f hS Af.d (by rw [hs];decide) hW.tidy Af.o Tryz.zeroValue25 fun iM a V1 w1 au an ah aM W1 g1 B1 T1=>t5 ⟨au,an,ah⟩ hs hd h3 h5 h6 h7 h9 fun hs hd h3 h5 h6 h7 h9=>?_))
 refine ai hS (aj hS aIZ (aj hS aIV ?_));have hT:=T1;have zx:=hW.go W1;have a0j:=E1.go W1;have aWj:=hb9.go W1;refine ye hS aID [49,50,51,52,53] [.val (.agg #[.int .i64 f,.int .i64 t]),.val (.pointer (some ⟨Γ.src Γ.me,0,none⟩)),.val (.pointer (some ⟨Γ.src Γ.me,0,none⟩)),.val (.pointer (some ⟨Γ.src Γ.me,1,none⟩)),.val (.int .i64 D.u)] [(3,.pointer (some ⟨b3,0,none⟩)),(5,x5),(6,x6),(7,x7),(9,.pointer (some ⟨b9,0,none⟩)),(10,.pointer (some ⟨iM,0,none⟩))] 5 rfl (by kernel_rfl) ry.a (fu:=8) (by kernel_rfl) rfl rfl (by decide) (by simp) (fun a' V' w'=>∃bw bu,a'.tmps.size=93/\a'.defers=ds/\a'.eval (.tmp 3)=.pointer (some ⟨b3,0,none⟩)/\a'.eval (.tmp 5)=x5/\a'.eval (.tmp 6)=x6/\a'.eval (.tmp 7)=x7/\a'.eval (.tmp 9)=.pointer (some ⟨b9,0,none⟩)/\a'.eval (.tmp 10)=.pointer (some ⟨iM,0,none⟩)/\a'.eval (.tmp 54)=.func (.func 73) #[] #[.pointer (some ⟨bw,0,none⟩),.pointer (some ⟨bu,0,none⟩)]/\aG aI aD V1 w1 V' w'/\Tidy V' w'/\ba V' w' bw (.cells #[.int .i64 f,.int .i64 t] 32 (0,0))/\ba V' w' bu (.cells #[.int .i64 D.u] 2 (0,0))) (by simp [h3,h5,h6,h7,h9,aM]) hT ?_ ?_ ?_
 ·intro i d s o rest hi aV aZ ho aa VV ww hB hI K;match i,hi with
  |0,_=>
   cases aV;cases aZ;obtain rfl:=KG.w ho;have h9:=hB.sl 9 rfl;exact cU KG hS hB hs (eu KG.o h9 isAgg32 sizeOf32 ((aWj.go hB.aC).cK rfl) ((aWj.go hB.aC).cK rfl)) K
  |1,_=>
   cases aV;cases aZ;obtain rfl:=KH.w ho;have h3:=hB.sl 3 rfl;exact cU KH hS hB hs (aL KH.o h3 isAgg51 ((a0j.go hB.aC).cK rfl)) K
  |2,_=>
   cases aV;cases aZ;obtain rfl:=KI.w ho;have sf:=hI.av 1;exact cU KI hS hB hs (bE KI.o sf) K
  |3,_=>
   cases aV;cases aZ;obtain rfl:=KJ.w ho;have rP:=hI.av 2;exact cU KJ hS hB hs (aB KJ.o rP underlying61 rfl sizeOf2 (by decide) rfl) K
  |4,_=>
   cases aV;cases aZ;obtain rfl:=KL.w ho;have tA:=hI.av 3;exact cU KL hS hB hs (aL KL.o tA isAgg2 ((zx.src.unit.go hB.aC).cK)) K
  |n+5,hn=>exact absurd hn (by omega)
 ·intro rest aa VV ww hB hI K;have yQ:aa.eval (.tmp 49)=(.agg #[.int .i64 f,.int .i64 t]):=hI.all 0 49 (.val (.agg #[.int .i64 f,.int .i64 t])) (by decide) rfl rfl
  have xK:aa.eval (.tmp 53)=(.int .i64 D.u):=hI.all 4 53 (.val (.int .i64 D.u)) (by decide) rfl rfl
  refine bI ry.a ry.f hS ry.o func50 (by kernel_rfl) aIf (aNp (b:=base 50) (by decide) hB.tidy (by simp [show Tryz.f50.ntmps=6 from rfl]) rfl (by simpa [Act.eval]using yQ) (by simpa [Act.eval]using xK) fun bw bu a' todo V' w' d' h4' W' T' Bw Bu=>?_)
  refine dM hS rfl d' func50 rfl ry.a ry.d (by rw [hB.size,hs];decide) fun dA e1 e2 e3 e4=>K dA V' w' ⟨bw,bu,e1.trans (hB.size.trans hs),e2.trans (hB.defers.trans hd),(e3 3 (by decide)).trans (hB.slot 3 _ (by simp)),(e3 5 (by decide)).trans (hB.slot 5 _ (by simp)),(e3 6 (by decide)).trans (hB.slot 6 _ (by simp)),(e3 7 (by decide)).trans (hB.slot 7 _ (by simp)),(e3 9 (by decide)).trans (hB.slot 9 _ (by simp)),(e3 10 (by decide)).trans (hB.slot 10 _ (by simp)),e4.trans h4',hB.aC.trans W',T',Bw,Bu⟩
 ·skip;rintro a' V' w' ⟨bw,bu,e1,e2,e3,e5,e6,e7,e9,Vx,e54,eW,eT,eBw,eBu⟩;exact K iM bw bu a' V' w' e1 e2 e3 e5 e6 e7 e9 Vx e54 (W1.trans eW) eT g1 (B1.go eW) eBw eBu
end
theorem aWk(a b c d:Int)(w:World):(Op.equalIn 10000 32 (.agg #[.int .i64 a,.int .i64 b]) (.agg #[.int .i64 c,.int .i64 d])).run prog w=.ok (a==c&&b==d) w:=by
 have u3:=underlying2;have a3:=isAgg2;have z3:=sizeOf2;have hS:prog.underlying 32=some (.struct (prog.fieldsOf 32)):=by kernel_rfl
 have hp:prog.stoodInHeld 32=false:=by kernel_rfl
 rw [show(10000:Nat)=9999+1 from rfl,run_equalIn_agg w 9999 32 _ _ hS hp]
 simp only [Program.fieldsOf,underlying32];go_simp;by_cases h1:a=c<;>by_cases h2:b=d<;>simp [h1,h2]
theorem eq_int(dd:Nat)(a c:Int)(w:World)(es:Array Event):(Op.equalIn (dd+1) 2 (.int .i64 a) (.int .i64 c)).events prog w es=es/\(Op.equalIn (dd+1) 2 (.int .i64 a) (.int .i64 c)).run prog w=.ok (a==c) w:=by
 simp [Op.equalIn,go_sem]
theorem xg{t:TypeId}{xs:Array Value}{o:Nat}{v:Value}(ha:∀w,(isAgg t).run prog w=.ok false w)(hx:xs[o]? =some v)(w:World)(es:Array Event):(part t xs o).events prog w es=es/\(part t xs o).run prog w=.ok v w:=by
 have h1:(isAgg t).events prog w es=es:=by
  unfold isAgg;simp [go_sem];cases hu:(underlying t).run prog w with
  |ok x w'=>cases x<;>simp [Result.evThen]
  |halt x w'=>simp [Result.evThen]
 constructor
 ·simp [part,h1,ha,hx]
 ·simp [part,ha,hx]
theorem aWl(dd:Nat)(a b c d:Int)(w:World)(es:Array Event):(Op.equalIn (dd+1+1) 32 (.agg #[.int .i64 a,.int .i64 b]) (.agg #[.int .i64 c,.int .i64 d])).events prog w es=es:=by
 have hp:prog.stoodInHeld 32=false:=by kernel_rfl
 have p1:=fun w es=>xg (xs:=#[.int .i64 a,.int .i64 b]) (o:=0) (v:=.int .i64 a) isAgg2 rfl w es;have p2:=fun w es=>xg (xs:=#[.int .i64 c,.int .i64 d]) (o:=0) (v:=.int .i64 c) isAgg2 rfl w es;have p3:=fun w es=>xg (xs:=#[.int .i64 a,.int .i64 b]) (o:=1) (v:=.int .i64 b) isAgg2 rfl w es;have p4:=fun w es=>xg (xs:=#[.int .i64 c,.int .i64 d]) (o:=1) (v:=.int .i64 d) isAgg2 rfl w es;have q1:=eq_int dd a c;have q2:=eq_int dd b d;rw [Op.equalIn];simp only [Sem.events_bind,run_underlying underlying32,events_underlying,Result.evThen_ok,run_program,events_program,hp,Bool.false_eq_true,if_false];have e1:=fun w=>(p1 w es).2;have e2:=fun w=>(p2 w es).2;have e3:=fun w=>(p3 w es).2;have e4:=fun w=>(p4 w es).2;have f1:=fun w es=>(p1 w es).1;have f2:=fun w es=>(p2 w es).1;have f3:=fun w es=>(p3 w es).1;have f4:=fun w es=>(p4 w es).1;have g1:=fun w=>(q1 w es).2;have g2:=fun w=>(q2 w es).2;have k1:=fun w es=>(q1 w es).1;have k2:=fun w es=>(q2 w es).1;clear p1 p2 p3 p4 q1 q2;cases h1:(a==c)<;>cases h2:(b==d)<;>rw [h1]at g1<;>rw [h2]at g2<;>simp [e1,e2,e3,e4,f1,f2,f3,f4,g1,g2,k1,k2]
theorem aNq{V:View}{w:World}{o:Oper}{a:Act}{x y:Operand}{p q p' q':Int}(aE:o.op=.binOp .eql 32 x y 32)(hx:a.eval x=.agg #[.int .i64 p,.int .i64 q])(hy:a.eval y=.agg #[.int .i64 p',.int .i64 q']):Yl prog V w o a (.bool (p==p'&&q==q')):=by
 have hg:prog.eqGuardType prog.depth 32=false:=by kernel_rfl
 have e1:=aWk p q p' q';have e2:=fun w es=>aWl 9998 p q p' q' w es;refine .pure fun w₁=>⟨?_,?_⟩
 ·simp [execOp,aE,hx,hy,run_eqGuard_agg,hg,run_eql_struct,e1]
 ·simp [execOp,aE,hx,hy,eqGuard,hg,binOp,Op.equal,Op.maxDepth,e2]
theorem azV(A:Option Addr)(n c:Nat)(b:Bool):prog.built 36 [(0,.slice A n c),(1,.bool b)]=some #[.slice A n c,.bool b]:=by kernel_rfl
theorem Row.one{V:View}{w:World}{e:TypeId}{size n:Nat}{v:Value}{xs:List Value}(h:Row V w e size v n xs):∃A c,v=.slice A n c:=by
 rcases h.1.2 with ⟨rfl,h2⟩|⟨g',Nx,cur,rfl,_⟩
 ·exact⟨none,0,by simp_all⟩
 ·exact⟨_,_,rfl⟩
section
variable {w:World} {a:Act} {f t':Int}
theorem a0k(hk:b.kind≠.early)(hT:Tidy V w)(hb6:ba V w b6 (.cells #[.slice none 0 0,.bool false] 36 (0,0)))(hb7:ba V w b7 (.cells #[.int .i64 f,.int .i64 t'] 32 (0,0)))(hb9:ba V w b9 (.cells #[.int .i64 f,.int .i64 t] 32 (0,0)))(nJ:ba V w iM (.cells #[vo] 25 (0,0)))(ir:Row V w 5 1 vo xs.length xs)
  (hs:a.tmps.size=93)(h6:a.eval (.tmp 6)=.pointer (some ⟨b6,0,none⟩))(h7:a.eval (.tmp 7)=.pointer (some ⟨b7,0,none⟩))(h9:a.eval (.tmp 9)=.pointer (some ⟨b9,0,none⟩))(aM:a.eval (.tmp 10)=.pointer (some ⟨iM,0,none⟩))
  (K:∀a' todo V' w',a'.defers=a.defers->a'.eval (.tmp 6)=.pointer (some ⟨b6,0,none⟩)->aG (· =b6) aD V w V' w'->Tidy V' w'->ba V' w' b6 (.cells #[vo,.bool (t==t')] 36 (0,0))->Loc prog false Stop V' (G {b.at a' todo with mode:=.returning} cs) w'):
  Loc prog false Stop V (G (b.at a (.code pM::k)) cs) w:=by
 have hS:=bh (P:=prog) (main:=false) hk;obtain⟨A,c,hvo⟩:=ir.one;refine aj hS aIY (ye hS aIW [88,89,90,91,92] [.val vo,.val (.agg #[.int .i64 f,.int .i64 t]),.val (.agg #[.int .i64 f,.int .i64 t']),.val (.bool (t==t')),.val (.agg #[vo,.bool (t==t')])] [(6,.pointer (some ⟨b6,0,none⟩)),(7,.pointer (some ⟨b7,0,none⟩)),(9,.pointer (some ⟨b9,0,none⟩)),(10,.pointer (some ⟨iM,0,none⟩))] 5 rfl (by kernel_rfl) pN.a (fu:=8) (by kernel_rfl) rfl rfl (by decide) (by simp) (fun a' V' w'=>a'.defers=a.defers/\a'.eval (.tmp 6)=.pointer (some ⟨b6,0,none⟩)/\aG (· =b6) aD V w V' w'/\Tidy V' w'/\ba V' w' b6 (.cells #[vo,.bool (t==t')] 36 (0,0))) (by simp [h6,h7,h9,aM]) hT ?_ ?_ ?_)
 ·intro i d s o rest hi aV aZ ho aa VV ww hB hI K;match i,hi with
  |0,_=>
   cases aV;cases aZ;obtain rfl:=DJ.w ho;have aM:=hB.sl 10 rfl;exact cU DJ hS hB hs (aL DJ.o aM isAgg25 ((nJ.go hB.aC).cK rfl)) K
  |1,_=>
   cases aV;cases aZ;obtain rfl:=DK.w ho;have h9:=hB.sl 9 rfl;exact cU DK hS hB hs (eu DK.o h9 isAgg32 sizeOf32 ((hb9.go hB.aC).cK rfl) ((hb9.go hB.aC).cK rfl)) K
  |2,_=>
   cases aV;cases aZ;obtain rfl:=DL.w ho;have h7:=hB.sl 7 rfl;exact cU DL hS hB hs (eu DL.o h7 isAgg32 sizeOf32 ((hb7.go hB.aC).cK rfl) ((hb7.go hB.aC).cK rfl)) K
  |3,_=>
   cases aV;cases aZ;obtain rfl:=DN.w ho;have h89:=hI.av 1;have h90:=hI.av 2;have hy:=aNq (V:=VV) (w:=ww) DN.o h89 h90;rw [show(f==f&&t==t')=(t==t') by simp]at hy
   exact cU DN hS hB hs hy K
  |4,_=>
   cases aV;cases aZ;obtain rfl:=DO.w ho;have h88:aa.eval (.tmp 88)=vo:=hI.at_ 0 88 (.val vo) (by kernel_rfl) rfl rfl
   have C3:=hI.av 3;exact cU DO hS hB hs (lA DO.o (by simp only [List.map_toArray,List.map_cons,List.map_nil,h88,C3];subst hvo;exact azV A xs.length c (t==t'))) K
  |n+5,hn=>exact absurd hn (by omega)
 ·intro rest aa VV ww hB hI K;have h6:=hB.sl 6 rfl;have h92:aa.eval (.tmp 92)=(.agg #[vo,.bool (t==t')]):=hI.all 4 92 (.val (.agg #[vo,.bool (t==t')])) (by decide) rfl rfl
  refine gg pN.a pN.f hS pN.d pN.o h6 h92 (vs:=[vo,.bool (t==t')]) (by subst hvo;rfl) sizeOf36 (fun u hu=>by subst hvo;simp at hu;rcases hu with rfl|rfl<;>rfl) (hb6.go hB.aC) (by simp) hB.tidy fun w' e1 e2 e3 e4=>K _ _ _ ⟨hB.defers,hB.slot 6 _ (by simp),(hB.aC.mono (fun _ h=>h.elim) fun _ h=>h).trans e1,e3,e2⟩
 ·skip;rintro a' V' w' ⟨e1,e2,e3,e4,e5⟩;exact dg aIX fun todo=>K a' todo V' w' e1 e2 e3 e4 e5
end
section
variable {D:cY} {w:World} {a:Act}
def a0l(Γ:Rc)(D:cY)(j:Jb)(V:View)(w:World)(cs:List Frame):Prop:=
 ∀V' w' b6 vo n' a' todo,5<=n'->Wk Γ D V' w'->j5 Γ V'->Left aI V w V' w'->w.heap.size<=b6->ba V' w' b6 (.cells #[vo,.bool (j.wt (D.len Γ.me)==j.ht (D.len Γ.me))] 36 (0,0))->
  Row V' w' 5 1 vo (D.fA Γ.me (j.hf (D.len Γ.me)) (j.wt (D.len Γ.me))).length (D.fA Γ.me (j.hf (D.len Γ.me)) (j.wt (D.len Γ.me)))->(∀g,vo.ownBlock=some g->w.heap.size<=g)->
  a'.defers=[]->a'.eval (.tmp 6)=.pointer (some ⟨b6,0,none⟩)->bf (At Γ) (Next Γ ⟨n',1⟩ .none) V' (G {(base 27).at a' todo with mode:=.returning} cs) w'
theorem av7(I:Is Γ D)(hW:Wk Γ D V w)(hN:j5 Γ V)(hq:-1<=j.q)(hI:D.leftOf (j.hf (D.len Γ.me)) (j.wt (D.len Γ.me)) s)(rp:∀s',1<=s'->s'<=s->Γ.item s'=(j.wt (D.len Γ.me)-1)/D.u+1-s')(hn:5*s+5<=n)
  (hs:a.tmps.size=93)(hd:a.defers=[])(h0:a.eval (.tmp 0)=.pointer (some ⟨Γ.src Γ.me,0,none⟩))(h1:a.eval (.tmp 1)=.agg #[.int .i64 jo,.int .i64 j.f,.int .i64 j.t,.int .i64 j.q])(h2:a.eval (.tmp 2)=.chan (some Γ.off))
  (K:a0l Γ D j V w cs):bf (At Γ) (Next Γ ⟨n,s+1⟩ .none) V (G ((base 27).at a (.code Gl::[])) cs) w:=by
 have hk:(base 27).kind≠.early:=by decide
 have hS:=bh (P:=prog) (main:=false) hk;have rn:=I.ok.len Γ.me;have hlen:D.len Γ.me=((D.iH Γ.me).length:Int):=rfl;refine a0f hk hW.tidy hs h0 h1 h2 fun b3 b4 b5 b6 a1 V1 w1 s1 d1 g3 g4 g5 g6 W1 T1 B3 B4 B5 B6 hb6=>?_;have zx:=hW.go W1;refine a0g I hk zx B3 B4 s1 g3 g4 g5 g6 fun b7 a2 V2 w2 s2 d2 f3 f4 f5 f6 f7 f8 W2 T2 B7=>?_;have W12:=W1.trans W2;cases hj:j.some (D.len Γ.me)with
 |false=>
  rw [hj]at f8;obtain⟨z1,z2,z3⟩:=Jb.aku hj hq;have hs0:s=0:=hI.elim (fun h=>h.2) fun h=>absurd h.1 (by omega)
  subst hs0;refine aWh hk T2 (B6.go W2) s2 f6 f8 fun a3 todo w3 d3 h6 W3 T3 B6'=>?_;have NB:=W12.fresh W3 hb6 hW.tidy;refine K V2 w3 b6 (.slice none 0 0) n a3 todo (by omega) (hW.go NB) (hN.aC NB) (.jk NB) hb6 ?_ ?_ (fun g h=>by cases h) (d3.trans (d2.trans (d1.trans hd))) h6
  ·rw [z2,z3];exact B6'
  ·rw [z1,z3,UA];exact Row.nil _ _ _ _
 |true=>
  rw [hj]at f8;obtain⟨z1,z2,z3,z4,z5⟩:=Jb.NA hj hq;refine a0h hk T2 (B4.go W2) B7 hj hq (by omega) s2 f3 f4 f5 f6 f7 f8 fun b9 a3 V3 w3 s3 d3 p3 p5 p6 p7 p9 W3 T3 B9=>?_
  have W23:=W2.trans W3;have NB:=W12.trans W3;have hW3:=hW.go NB;refine a0i I hk hW3 (B3.go W23) B9 s3 p3 p5 p6 p7 p9 fun iM bw bu a4 V4 w4 s4 d4 q3 q5 q6 q7 q9 q10 q54 W4 T4 nJ Z0 Bw Bu=>bV hS aIU ?_;have W14:=NB.trans W4;have hd4:a4.defers=[]:=d4.trans (d3.trans (d2.trans (d1.trans hd)));rw [aIT];refine QO hk T4 q54 func73 (by kernel_rfl) aIu fun Dd l V5 w5 W5 BD Bl hDl hD hl T5=>?_
  have W15:=W14.trans W5;have W25:=W23.trans (W4.trans W5);have W35:=W4.trans W5;rw [hd4];refine Z3 I (hW.go W15) (hN.aC W15) z1 z4 (by omega) hI rp hn (B3.go W25) (B5.go W25) (Z0.go W5) (Bw.go W5) (Bu.go W5) Bl ⟨rfl,rfl,rfl,rfl,rfl,rfl,s4,by simpa [Act.eval]using q3,by simpa [Act.eval]using q5,by simpa [Act.eval]using q10⟩ (by simp [show Tryz.f73.ntmps=39 from rfl]) rfl (by simp [Act.eval]) (by simp [Act.eval]) (by simp [Act.eval]) fun V6 w6 vo n' CY hW6 hN6 L6 a0n Bl' R6 F6=>?_
  show bf _ _ _ (G ((base 27).at ⟨a4.tmps,[{target:=.collected Dd,args:=#[]}]⟩ (.endRangeFunc l::.inBlock 0::.code pM::[])) cs) w6
  refine alA hW6.tidy Bl' (.inl rfl) fun w7 W7 T7=>?_;show bf _ _ _ (G ((base 27).at ⟨a4.tmps,[{target:=.collected Dd,args:=#[]}]⟩ (.inBlock 0::.code pM::[])) cs) w7
  have a0p:b6≠iM:=fun x=>by have:=(B6.go W23).lt;omega
  have n6l:b6≠l:=fun x=>by have:=((B6.go W23).go W4).lt;omega
  have a0q:Dd≠iM:=fun x=>by have:=Z0.lt;omega
  have B6':ba V6 w7 b6 _:=((B6.go W25).eN L6 fun x=>x.elim a0p n6l).off W7 n6l;have B7':ba V6 w7 b7 _:=((B7.go (W3.trans W35)).eN L6 fun x=>x.elim ((B7.go (W3.trans W35)).ne (Z0.go W5) (by simp)) ((B7.go (W3.trans W35)).ne Bl (by simp))).off W7 ((B7.go (W3.trans W35)).ne Bl (by simp))
  have B9':ba V6 w7 b9 _:=((B9.go W35).eN L6 fun x=>x.elim ((B9.go W35).ne (Z0.go W5) (by simp)) ((B9.go W35).ne Bl (by simp))).off W7 ((B9.go W35).ne Bl (by simp))
  have a0r:iM≠l:=(Z0.go W5).ne Bl (by simp)
  refine c7 hS (a0k hk T7 B6' B7' B9' (a0n.off W7 a0r) (R6.aC W7 (R6.ne Bl' (by simp))) s4 (by simpa [Act.eval]using q6) (by simpa [Act.eval]using q7) (by simpa [Act.eval]using q9) (by simpa [Act.eval]using q10) fun a8 todo V8 w8 d8 h6 W8 T8 a0s=>?_)
  obtain⟨tm,ds⟩:=a8;simp only at d8;subst d8;have BD8:ba V8 w8 Dd (.deferred (some [])):=((BD.eN L6 fun x=>x.elim a0q hDl).off W7 hDl).off W8 fun x=>by have:=((B6.go W23).go W4).lt;omega
  refine aGH T8 BD8 fun w9 W9 T9=>?_;have n6D:b6≠Dd:=fun x=>by have:=((B6.go W23).go W4).lt;omega
  refine K V8 w9 b6 vo n' ⟨tm,[]⟩ todo CY (((hW6.go W7).go W8).go W9) (((hN6.aC W7).aC W8).aC W9) ?_ hb6 (a0s.off W9 n6D) ?_ (fun g hg=>Nat.le_trans W15.size (F6 g hg)) rfl h6
  ·refine Left.mono (B:=fun b=>b=iM\/b=l\/b=b6\/b=Dd) (Left.trans (Left.jk W15).none (Left.trans (L6.mono fun _ _ h=>h.imp id .inl) (Left.trans (.jk (W7.mono (fun _ h=>.inr (.inl h)) fun _ h=>h)) (Left.trans (.jk (W8.mono (fun _ h=>.inr (.inr (.inl h))) fun _ h=>h)) (.jk (W9.mono (fun _ h=>.inr (.inr (.inr h))) fun _ h=>h)))))) fun b hb h=>?_;have h1:=hW.tidy.low.own b hb;have h2:=NB.size;have h3:=W14.size;rcases h with h|h|h|h<;>exact absurd h1 (by omega)
  ·have R7:=R6.aC W7 (R6.ne Bl' (by simp))
   have R8:=R7.aC W8 (R7.ne B6' (by simp))
   exact R8.aC W9 (R8.ne BD8 (by simp))
end
open Go.ConcR (stA smA WgAt KK rd wr)
inductive Fs(P:Program)(C:World->Prop):Goroutine->Goroutine->Prop
 |here (g:Goroutine):Fs P C g g
 |step {g g' g'':Goroutine} (hs:g.status=.running) (h:∀w,C w->stepG P false g w=.go g' w #[]) (k:Fs P C g' g''):Fs P C g g''
section
variable {C:World->Prop} {g g' g1 g2 gR gD:Goroutine} {w:World}
theorem Fs.loc(h:Fs P C g g')(hC:∀w₁,aP V w w₁->C w₁)(K:Loc P false Stop V g' w):Loc P false Stop V g w:=by
 induction h with
 |here=>exact K
 |step hs h k ih=>exact Loc.step hs fun w₁ hr=>⟨_,w₁,#[],V,h w₁ (hC w₁ hr),aY V w₁,(ih K).rely hr⟩
theorem Fs.goes{R:World->World->Prop}{D:World->World->Array Event->Prop}{St:Goroutine->World->Prop}(h:Fs P C g g')(hC:C w)(hR:R w w)(bF:∀g,St g w->∀g1,stepG P false g w≠.go g1 w #[]):∀n,Goes P false R D St n g w->∃n',Goes P false R D St n' g' w:=by
 induction h with
 |here=>exact fun n h=>⟨n,h⟩
 |step hs h k ih=>
  intro n hg;cases n with
  |zero=>exact absurd (h w hC) (bF _ (hg w hR) _)
  |succ n=>
   rcases hg with hg|⟨_,hg⟩
   ·exact absurd (h w hC) (bF _ (hg w hR) _)
   ·have:=hg w hR;rw [h w hC,goes_go]at this;exact ih n this.2
theorem lI{pl:ConcR.Payload}{ty:TypeId}{Wg C n mP i:Nat}(w:World):@ConcN.RW pl ty Wg C n mP i w w:=⟨fun _ _ _ _=>rfl,id,id,rfl⟩
theorem aWo{pl:ConcR.Payload}{ty:TypeId}{Wg Cb n k m:Nat}{v:Value}{Own Rd:Nat->Go.Loc->Prop}(h1:Fs P C g gR)(sR:∀w,C w->stepG P false gR w=.go g1 w #[⟨.mark (.releaseMerge (stA Wg)),false,true⟩])
  (h2:Fs P C g1 gD)(sD:∀w,C w->stepG P false gD w=.go g2 w #[⟨.mark .disable,false,true⟩])(hC:C w)
  (hg:Goes P false (@ConcN.RW pl ty Wg Cb n 0 (k-1)) (@ConcN.DWs pl Wg Own Rd Cb n k) (@ConcN.AtR0 pl P ty Wg Cb n 0 k v) m g w):@ConcN.AtR0 pl P ty Wg Cb n 0 k v gR w:=by
 have bF:∀g,@ConcN.AtR0 pl P ty Wg Cb n 0 k v g w->∀g1,stepG P false g w≠.go g1 w #[]:=fun g h g1 e=>by
  obtain⟨_,_,g',e2,_⟩:=h;rw [e]at e2;simp at e2
 obtain⟨n1,q1⟩:=h1.goes hC (lI w) bF m hg;cases n1 with
 |zero=>exact q1 w (lI w)
 |succ n1=>
  rcases q1 with q1|⟨_,q1⟩
  ·exact q1 w (lI w)
  ·have:=q1 w (lI w);rw [sR w hC,goes_go]at this;obtain⟨n2,q2⟩:=h2.goes hC (lI w) bF n1 this.2;have bad:¬@ConcN.AtR0 pl P ty Wg Cb n 0 k v gD w:=fun⟨_,_,g',e2,_⟩=>by
    rw [sD w hC]at e2;simp [ConcR.mk]at e2
   cases n2 with
   |zero=>exact absurd (q2 w (lI w)) bad
   |succ n2=>
    rcases q2 with q2|⟨_,q2⟩
    ·exact absurd (q2 w (lI w)) bad
    ·have:=q2 w (lI w);rw [sD w hC,goes_go]at this;exact absurd rfl (this.1.2 ⟨.mark .disable,false,true⟩ (by simp)).2.1
def Sil(P:Program)(C:World->Prop)(X:Goroutine->Prop)(g:Goroutine):Prop:=∃g',Fs P C g g'/\X g'
theorem UE{X:Goroutine->Prop}(h:X g):Sil P C X g:=⟨g,.here g,h⟩
theorem EL{X:Goroutine->Prop}(hs:g.status=.running)(h:∀w,C w->stepG P false g w=.go g' w #[])(K:Sil P C X g'):Sil P C X g:=let⟨g'',k,hx⟩:=K;⟨g'',.step hs h k,hx⟩
theorem gG{X:Goroutine->Prop}(hs:g.status=.running)(h:∀w,stepG P false g w=.go g' w #[])(K:Sil P C X g'):Sil P C X g:=EL hs (fun w _=>h w) K
theorem UF{X:Goroutine->Prop}{b:Frame}{a:Act}{k:List Item}{cs:List Frame}{ops:Array Oper}{i d:Nat}{rest:List Nat}{o:Oper}{v:Value}(ho:ops[i]? =some o)(hw:Region.wanted o (yielded ops a.tmps)=true)(hk:b.kind≠.early)(hd:o.dst=some d)(aU:d<a.tmps.size)
  (h:∀w,C w->(execOp a.eval o).run P w=.ok (.value v) w/\(execOp a.eval o).events P w #[]=#[])
  (K:∀a',a'.tmps.size=a.tmps.size->a'.defers=a.defers->(∀j,d≠j->a'.eval (.tmp j)=a.eval (.tmp j))->a'.eval (.tmp d)=v->Sil P C X (G (b.at a' (.inRegion ops rest::k)) cs)):
  Sil P C X (G (b.at a (.inRegion ops (i::rest)::k)) cs):=by
 have u:=bj a o.dst v;refine EL rfl (fun w hC=>?_) (K _ u.size u.defers (fun j hj=>u.ne j (by rw [hd];intro h;exact hj (Option.some.inj h))) (u.eq d hd aU))
 obtain⟨e1,e2⟩:=h w hC;rw [stepG_value ho hw hk e1];simp [listed,e2,seen_none]
end
def WgC(Wg:Nat)(w:World):Prop:=∃c e fr,w.heap[Wg]? =some (.cells c e fr)/\0<c.size
theorem av9{ty:TypeId}{Wg:Nat}{w:World}(h:ConcN.WgLive ty Wg w):WgC Wg w:=by
 obtain⟨st,sm,h⟩:=h;exact⟨_,_,_,h,by simp⟩
theorem NC:(prog.info? 85).map (fun i=>decide (i.size=0))=some false:=by kernel_rfl
def a0t(Wg:Nat)(gD:Goroutine):Prop:=∃g2,∀w,WgC Wg w->stepG prog false gD w=.go g2 w #[⟨.mark .disable,false,true⟩]
def aWp(Wg:Nat)(gR:Goroutine):Prop:=gR.status=.running/\∃g1,(∀w,WgC Wg w->stepG prog false gR w=.go g1 w #[⟨.mark (.releaseMerge (stA Wg)),false,true⟩])/\Sil prog (WgC Wg) (a0t Wg) g1
section
variable {Wg:Nat} {a:Act}
theorem Z4(hk:b.kind≠.early)(hs:a.tmps.size=117)(h0:a.eval (.tmp 0)=.pointer (some ⟨Wg,0,none⟩))(h1:a.eval (.tmp 1)=.int .i64 (-1)):Sil prog (WgC Wg) (aWp Wg) (G (b.at a [.code Db]) cs):=by
 rw [aBQ];refine gG rfl (fun w=>stepG_seq) ?_;rw [aBN];refine gG rfl (fun w=>stepG_cond (t:=true) rfl) ?_;simp only [if_true];rw [aBM];refine gG rfl (fun w=>stepG_seq) ?_;rw [aBH];refine gG rfl (fun w=>stepG_seq) ?_;rw [aBD];refine gG rfl (fun w=>stepG_region) ?_;rw [aBE];refine UF ru.a ru.f hk ru.d (by rw [hs];decide) (v:=.int .i64 (-1)) (fun w _=>by simp [execOp,ru.o,h1]) fun a1 s1 d1 n1 h9=>?_
 replace hs:=s1.trans hs;have h0:=(n1 0 (by decide)).trans h0
 refine UF rv.a rv.f hk rv.d (by rw [hs];decide) (v:=.bool true) (fun w _=>by simp [execOp,rv.o,h9,show a1.eval (.const (.int .i64 0))=.int .i64 0 from rfl,eqGuard,binOp,Op.intCmp]) fun a2 s2 d2 n2 aM=>?_
 replace hs:=s2.trans hs;replace h0:=(n2 0 (by decide)).trans h0
 refine gG rfl (fun w=>stepG_region_end) ?_;rw [aBG];refine gG rfl (fun w=>stepG_cond (t:=true) aM) ?_;simp only [if_true];rw [aRD];refine gG rfl (fun w=>stepG_region) ?_;rw [(rl [0,1,2] rfl)];refine UF zM.a zM.f hk zM.d (by rw [hs];decide) (v:=.pointer (some ⟨Wg,0,none⟩)) (fun w _=>by simp [execOp,zM.o,h0]) fun a3 s3 d3 n3 aH=>?_
 replace hs:=s3.trans hs;replace h0:=(n3 0 (by decide)).trans h0
 refine UF vM.a vM.f hk vM.d (by rw [hs];decide) (v:=.pointer (some ⟨Wg,0,none⟩)) (fun w hC=>?_) fun a4 s4 d4 n4 aJ=>?_
 ·obtain⟨c,e,fr,hb,aU⟩:=hC;have hc:w.cell? ⟨Wg,0,none⟩=some c[0]:=by simp [World.cell?,hb,aU]
  have e1:=run_convert_to_unsafe underlying94 underlying96 NC hc;have e2:=events_convert_to_unsafe underlying94 underlying96 NC hc #[];exact⟨by simp [execOp,vM.o,aH,e1],by simp [execOp,vM.o,aH,e1,e2]⟩
 replace hs:=s4.trans hs;refine UE ⟨rfl,_,fun w hC=>stepG_markAt .releaseMerge (by simp) JW.a JW.f hk JW.o func36 aAy aAz aAA aAB (by simp;exact aJ),?_⟩
 have u:=bj a4 (nR Gi 2).dst (.tuple #[]);generalize a4.put (nR Gi 2).dst (.tuple #[])=a5 at u;refine gG rfl (fun w=>stepG_region_end) ?_;rw [aBL];refine gG rfl (fun w=>stepG_seq) ?_;rw [aBI];refine gG rfl (fun w=>stepG_region) ?_;rw [aBJ];exact UE ⟨_,fun w hC=>stepG_mark0 .disable (by simp) nE.a nE.f hk nE.o func37 NQ NR NS NU⟩
theorem awa(hk:b.kind≠.early)(hs:a.tmps.size=4)(h0:a.eval (.tmp 0)=.pointer (some ⟨Wg,0,none⟩)):Sil prog (WgC Wg) (aWp Wg) (G (b.at a [.code ac5]) cs):=by
 rw [aRC];refine gG rfl (fun w=>stepG_region) ?_;rw [(rl [0,1] rfl)];refine UF zL.a zL.f hk zL.d (by rw [hs];decide) (v:=.pointer (some ⟨Wg,0,none⟩)) (fun w _=>by simp [execOp,zL.o,h0]) fun a1 s1 d1 n1 h2=>?_
 have hn:¬Tryz.f24.name= "runtime.NumGoroutine" :=by
  have:(Tryz.f24.name== "runtime.NumGoroutine")=false:=by kernel_rfl
  simpa using this
 have e1:=execOp_call_func (a:=a1) JV.o;have body:Tryz.f24.body=some Db:=XW;refine EL rfl (fun w hC=>?_) (g':=G (Frame.enter prog 24 (#[Operand.tmp 2,Operand.const (Value.int IntKind.i64 (-1))].map a1.eval) .normal) (b.at a1 (.inRegion Ra [1]::[])::cs)) ?_
 ·rw [stepG_enter (w':=w) (f:=24) (args:=#[Operand.tmp 2,Operand.const (Value.int IntKind.i64 (-1))].map a1.eval) JV.a JV.f hk (by rw [e1];simp [callFunc,func24,hn,body])]
  have:(execOp a1.eval (nR Ra 1)).events prog w #[]=#[]:=by rw [e1];simp [callFunc,func24,hn,body]
  simp [listed,this,seen_none]
 ·rw [enter_at _ func24 XW];exact Z4 (by decide) (by simp [show Tryz.f24.ntmps=117 from rfl]) (by simpa [Act.eval]using h2) (by simp [Act.eval])
end
noncomputable def Ft:Frame:={(default:Frame)with fn:=prog.funcs.size,defers:=[],mode:=.panicking [goexitEntry]}
theorem azW(T:Array Value)(todo:List Item):QuitsD prog 2 0 (G {(baseD 25).at ⟨T,[]⟩ todo with mode:=.returning} [Ft]):=by
 refine QuitsD.ctl (g':=G Ft []) rfl (fun w=>?_) ?_
 ·simp [G,stepG,unwind,doReturn,results,Frame.at,baseD,Ft,func25,show Tryz.f25.results=#[]from rfl,seen,GStep.after,goexitEntry]
 refine QuitsD.ctl (g':={G Ft []with status:=.finished}) rfl (fun w=>?_) ⟨rfl,rfl⟩
 simp [G,stepG,unwind,Ft,goexitEntry,Frame.catches,show(default:Frame).todo=[]from rfl]
theorem aNr(c:Array Value)(w:World):
  stepG prog false (born prog {target:=.fn (.func 25) c,args:=#[]}) w=.go (G ((baseD 25).at {tmps:=c++Array.replicate (Tryz.f25.ntmps-c.size) undef,defers:=[]} [.code Q9]) [Ft]) w #[]:=by
 have hn:¬Tryz.f25.name= "runtime.NumGoroutine" :=by
  have:(Tryz.f25.name== "runtime.NumGoroutine")=false:=by kernel_rfl
  simpa using this
 simp [born,stepG,unwind,callDeferred,invoke,callFunc,func25,hn,aHt,seen,GStep.after,G,Frame.enter,Frame.at,baseD,Ft]
section
variable {w:World} {a:Act} {todo:List Item} {v:Value}
theorem al6(mQ:Γ.wgT=85)(hV:V.deaf=0)(hC:∀w₁,aP V w w₁->WgC Γ.wg w₁)(jV:V.wc ⟨C,i,none⟩)(hv:w.cell? ⟨C,i,none⟩=some v)(sG:∀w₁,aP V w w₁->Γ.res V w₁)(hn:1<=n)(hd:a.defers=[dcall 26 #[.pointer (some ⟨Γ.wg,0,none⟩)]]):
  bf (At Γ) (Next Γ ⟨n,1⟩ .none) V (G {(baseD 25).at a todo with mode:=.returning} [Ft]) w:=by
 refine Up hd func26 (by kernel_rfl) aHu ?_
 obtain⟨gR,bF,cr,g1,sR,gD,h2,g2,sD⟩:=awa (Wg:=Γ.wg) (b:=baseD 26) (a:={tmps:=#[.pointer (some ⟨Γ.wg,0,none⟩)]++Array.replicate (Tryz.f26.ntmps-(#[Value.pointer (some ⟨Γ.wg,0,none⟩)]).size) undef,defers:=[]}) (cs:=[{(baseD 25).at ⟨a.tmps,[]⟩ todo with mode:=.returning},Ft]) (by decide) (by simp [show Tryz.f26.ntmps=4 from rfl]) (by simp [Act.eval])
 refine bF.loc hC (di ⟨⟨0,0⟩,.none,.E8⟩ ⟨by show 0<n;omega,rfl,rfl,.inr ⟨rfl,rfl⟩⟩ fun w₁ hr=>At.fold ⟨cr,rfl,hV,rfl,⟨0⟩,C,i,0,v,jV,fun fy hr2 r6=>⟨sG fy (hr.trans hr2),?_⟩⟩)
 rw [mQ]at r6⊢;have a0u:ConcN.Has C (i+1-1) v fy:=((hr.trans hr2).cell _ (.inr jV)).trans hv;exact aWo bF sR h2 sD (av9 r6) (@ConcN.Gen.doneN ⟨0⟩ anv prog aPx (fun _ _=>False) (fun _ _=>False) Γ.wg C 0 0 (i+1) v _ [Ft] 2 rfl (azW a.tmps todo) fy ⟨r6,a0u⟩)
end
section
variable {w:World} {a:Act} {d:Nat} {rest:List Nat} {o:Oper}
theorem azX{b:Frame}{fn:Func}{ab:Act}{todo:List Item}{t:Tmp}{ty:TypeId}{g:Nat}{vs:List Value}(hS:fg P main S)(hn:b.kind=.normal)(hd:ab.defers=[])(hf:P.funcs[b.fn]? =some fn)(hr:fn.results=#[.cell t ty])(ho:ops[i]? =some o)(hdd:o.dst=some d)(aU:d<a.tmps.size)
  (ha:∀w,(isAgg ty).run P w=.ok true w)(hz:∀w,(sizeOf ty).run P w=.ok vs.length w)(ht:ab.eval (.tmp t)=.pointer (some ⟨g,0,none⟩))(hb:∀j u,vs[j]? =some u->iJ V w ((⟨g,0,none⟩:Addr).add j) u)
  (K:∀a',a'.tmps.size=a.tmps.size->a'.defers=a.defers->(∀j,d≠j->a'.eval (.tmp j)=a.eval (.tmp j))->a'.eval (.tmp d)=.agg vs.toArray->Loc P main Stop V (G (S a' (.inRegion ops rest::k)) cs) w):
  Loc P main Stop V (G {b.at ab todo with mode:=.returning} (S a (.inRegion ops (i::rest)::k)::cs)) w:=by
 have ht':ab.tmps[t]?.getD undef=.pointer (some ⟨g,0,none⟩):=by simpa [Act.eval,Array.getD_eq_getD_getElem?]using ht
 refine Loc.step rfl fun w₁ hrl=>?_;have hc:∀j u,vs[j]? =some u->w₁.cell? ((⟨g,0,none⟩:Addr).add j)=some u:=fun j u hj=>((hrl.oz (hb j u hj).1)).trans (hb j u hj).2;have yL:=run_loadCells_list (P:=P) w₁ ⟨g,0,none⟩ vs hc;have e1:(results fn ab.tmps).run P w₁=.ok (.agg vs.toArray) w₁:=by simp [results,hr,ht',asAddr,loadVar,ha,hz,yL]
 have e2:(results fn ab.tmps).events P w₁ #[]=(loadCells ⟨g,0,none⟩ vs.length).events P w₁ #[]:=by simp [results,hr,ht',asAddr,loadVar,ha,hz,yL]
 have u:=bj a o.dst (.agg vs.toArray);have key:stepG P main (G {b.at ab todo with mode:=.returning} (S a (.inRegion ops (i::rest)::k)::cs)) w₁=.go (G (S (a.put o.dst (.agg vs.toArray)) (.inRegion ops rest::k)) cs) w₁ (seen P b.fn ((loadCells ⟨g,0,none⟩ vs.length).events P w₁ #[])):=by
  rw [show S (a.put o.dst (.agg vs.toArray)) (.inRegion ops rest::k)=(S a (.inRegion ops (i::rest)::k)).finish (.agg vs.toArray) by rw [hS.finish,ho];rfl]
  simp [G,stepG,unwind,doReturn,Frame.at,hn,hd,hf,e1,e2,GStep.after]
 refine⟨_,w₁,_,V,key,?_,(K _ u.size u.defers (fun j hj=>u.ne j (by rw [hdd];intro h;exact hj (Option.some.inj h))) (u.eq d hdd aU)).rely hrl⟩
 have F7:=(ia.refl V w₁).eY (es:=seen P b.fn ((loadCells ⟨g,0,none⟩ vs.length).events P w₁ #[])) fun e hx=>by
  rw [View.bB V rfl];rcases iq (P:=P) (w₁:=w₁) vs.length 0 #[] #[] (fun j hj=>by rw [Nat.zero_add,hc j vs[j] (List.getElem?_eq_getElem hj)];rfl) e (mem_seen hx)with he|⟨j,hj,rfl⟩
  ·simp at he
  ·rw [Nat.zero_add];exact oB (hb j vs[j] (List.getElem?_eq_getElem hj)).1
 rwa [View.bB V rfl]at F7
end
structure al7(Γ:Rc)(i C gs b8 jR lZ ns N:Nat)(V:View)(w:World):Prop where
 gC:Cl V w ⟨b8,0,none⟩ (.slice (some ⟨gs,0,none⟩) ns ns)
 elem:Cl V w ⟨gs,Γ.me,none⟩ (.pointer (some ⟨Γ.src Γ.me,0,none⟩))
 off:Cl V w ⟨lZ,0,none⟩ (.chan (some Γ.off))
 Z5:Cl V w ⟨jR,0,none⟩ (.slice (some ⟨C,0,none⟩) N N)
 c0:V.wc ⟨C,i*2,none⟩/\(w.cell? ⟨C,i*2,none⟩).isSome=true
 c1:V.wc ⟨C,i*2+1,none⟩/\(w.cell? ⟨C,i*2+1,none⟩).isSome=true
 blk:∃c e,w.heap[C]? =some (.cells c e (0,0))
 me:Γ.me<ns
 idx:i<N
theorem al7.eN{Γ:Rc}{i C gs b8 jR lZ ns N:Nat}{V V':View}{w w':World}{B:Nat->Prop}(h:al7 Γ i C gs b8 jR lZ ns N V w)(K:Left B V w V' w'):al7 Γ i C gs b8 jR lZ ns N V' w':=by
 refine⟨h.gC.eN K,h.elem.eN K,h.off.eN K,h.Z5.eN K,⟨(K.wc _ h.c0.1).1,by rw [(K.wc _ h.c0.1).2];exact h.c0.2⟩,⟨(K.wc _ h.c1.1).1,by rw [(K.wc _ h.c1.1).2];exact h.c1.2⟩,?_,h.me,h.idx⟩
 obtain⟨c,e,hb⟩:=h.blk;obtain⟨c',h3,_⟩:=K.kind _ _ _ _ hb;exact⟨c',e,h3⟩
structure Task(Γ:Rc)(D:cY)(F:List Value)(x16:Value)(L:List Value)(wh:Bool)(ds:List Deferred)(x1 x2 x3 x4 x5:Value)(V0:View)(w0:World)(ex:Nat->Prop)(q:Bool)(a:Act)(V:View)(w:World):Prop where
 sz:a.tmps.size=17
 df:a.defers=ds
 h1:a.eval (.tmp 1)=x1
 h2:a.eval (.tmp 2)=x2
 h3:a.eval (.tmp 3)=x3
 h4:a.eval (.tmp 4)=x4
 h5:a.eval (.tmp 5)=x5
 dC:∀j v,ex j->F[j]? =some v->a.eval (.tmp (6+j))=v
 v16:ex 10->a.eval (.tmp 16)=x16
 wk:Wk Γ D V w
 n56:j5 Γ V
 left:Left aI V0 w0 V w
 no9:¬ex 9->q=false
 aNt:ex 9->q=true/\∃vo,a.eval (.tmp 15)=.agg #[vo,.bool wh]/\Row V w 5 1 vo L.length L/\∀g,vo.ownBlock=some g->w0.heap.size<=g
section
variable {D:cY} {F:List Value} {x16:Value} {L:List Value} {wh:Bool} {ds:List Deferred} {x1 x2 x3 x4 x5:Value} {V0:View} {w0:World} {ex:Nat->Prop} {q:Bool} {a:Act} {w:World} {St:Bool->View->Goroutine->World->Prop} {j:Nat} {v:Value} {o:Oper} {rest:List Nat}
theorem Task.read(hF9:F.length=9)(hM:Task Γ D F x16 L wh ds x1 x2 x3 x4 x5 V0 w0 ex q a V w)(hk:b.kind≠.early)(hF:F[j]? =some v)(ho:ops[j]? =some o)(hg:o.guard=none)(hd:o.dst=some (6+j))(hy:Yl prog V w o a v)
  (hK:∀q' a' V' w',Task Γ D F x16 L wh ds x1 x2 x3 x4 x5 V0 w0 (fun x=>x=j\/ex x) q' a' V' w'->Loc prog false (St q') V' (G (b.at a' (.inRegion ops rest::k)) cs) w'):
  Loc prog false (St q) V (G (b.at a (.inRegion ops (j::rest)::k)) cs) w:=by
 have hj:j<9:=by have:=(List.getElem?_eq_some_iff.1 hF).1;omega
 refine zw ho (gO hg) (bh hk) hd (by rw [hM.sz];omega) hy fun a' e1 e2 e3 e4=>hK q a' V w ⟨e1.trans hM.sz,e2.trans hM.df,(e3 1 (by omega)).trans hM.h1,(e3 2 (by omega)).trans hM.h2,(e3 3 (by omega)).trans hM.h3,(e3 4 (by omega)).trans hM.h4,(e3 5 (by omega)).trans hM.h5,?_,?_,hM.wk,hM.n56,hM.left,?_,?_⟩
 ·intro j' v' h hv;by_cases e:j'=j
  ·subst e;rw [hF]at hv;cases hv;exact e4
  ·exact(e3 (6+j') (by omega)).trans (hM.dC j' v' (h.resolve_left e) hv)
 ·intro h;exact(e3 16 (by omega)).trans (hM.v16 (h.resolve_left (by omega)))
 ·intro h;exact hM.no9 fun x=>h (.inr x)
 ·intro h;obtain⟨h1,vo,h2,h3⟩:=hM.aNt (h.resolve_left (by omega))
  exact⟨h1,vo,(e3 15 (by omega)).trans h2,h3⟩
end
def tgs(Γ:Rc)(n s:Nat):Bool->Tag->Prop
 |false=>Next Γ ⟨n,s+1⟩ .none
 |true=>Next Γ ⟨5,1⟩ .none
structure akv(i C:Nat)(L:List Value)(wh:Bool)(ds:List Deferred)(w0:World)(a:Act)(V:View)(w:World):Prop where
 df:a.defers=ds
 deaf:V.deaf=0
 kind:eG w0 w
 wc0:V.wc ⟨C,i*2,none⟩
 wc1:V.wc ⟨C,i*2+1,none⟩
 res:∃vo,w.cell? ⟨C,i*2,none⟩=some vo/\w.cell? ⟨C,i*2+1,none⟩=some (.bool wh)/\Row V w 5 1 vo L.length L/\∀g,vo.ownBlock=some g->w0.heap.size<=g
section
variable {D:cY} {w:World} {a:Act} {gs b8 jR lZ j9 jl ns N:Nat}
theorem al8(I:Is Γ D)(hk:b.kind≠.early)(hW:Wk Γ D V w)(hN:j5 Γ V)(hJ:al7 Γ i C gs b8 jR lZ ns N V w)(hq:-1<=j.q)(hI:D.leftOf (j.hf (D.len Γ.me)) (j.wt (D.len Γ.me)) s)(rp:∀s',1<=s'->s'<=s->Γ.item s'=(j.wt (D.len Γ.me)-1)/D.u+1-s')(hn:5*s+5<=n)
  (aNu:ba V w jl (.cells #[.int .i64 Γ.me,.int .i64 j.f,.int .i64 j.t,.int .i64 j.q] 34 (0,0)))(aNv:ba V w j9 (.cells #[.int .i64 i] 3 (0,0)))
  (hs:a.tmps.size=17)(h1:a.eval (.tmp 1)=.pointer (some ⟨b8,0,none⟩))(h2:a.eval (.tmp 2)=.pointer (some ⟨jl,0,none⟩))(h3:a.eval (.tmp 3)=.pointer (some ⟨lZ,0,none⟩))(h4:a.eval (.tmp 4)=.pointer (some ⟨jR,0,none⟩))(h5:a.eval (.tmp 5)=.pointer (some ⟨j9,0,none⟩))
  (K:∀a' V' w',akv i C (D.fA Γ.me (j.hf (D.len Γ.me)) (j.wt (D.len Γ.me))) (j.wt (D.len Γ.me)==j.ht (D.len Γ.me)) a.defers w a' V' w'->bf (At Γ) (Next Γ ⟨5,1⟩ .none) V' (G (b.at a' k) cs) w'):
  bf (At Γ) (Next Γ ⟨n,s+1⟩ .none) V (G (b.at a (.code ac4::k)) cs) w:=by
 have hS:=bh (P:=prog) (main:=false) hk;obtain⟨L,hL⟩:∃L,L=D.fA Γ.me (j.hf (D.len Γ.me)) (j.wt (D.len Γ.me)):=⟨_,rfl⟩;obtain⟨wh,hwh⟩:∃x,x=(j.wt (D.len Γ.me)==j.ht (D.len Γ.me)):=⟨_,rfl⟩;obtain⟨F,hF⟩:∃F:List Value,F=[.slice (some ⟨C,0,none⟩) N N,.int .i64 i,.slice (some ⟨gs,0,none⟩) ns ns,.pointer (some ⟨jl,0,none⟩),.int .i64 Γ.me,.pointer (some ⟨gs,Γ.me,none⟩),.pointer (some ⟨Γ.src Γ.me,0,none⟩),.agg #[.int .i64 Γ.me,.int .i64 j.f,.int .i64 j.t,.int .i64 j.q],.chan (some Γ.off)]:=⟨_,rfl⟩;have hF9:F.length=9:=by rw [hF];rfl
 rw [←hL,←hwh]at K;refine xd (β:=Bool) (St:=fun q V g w=>∃t,tgs Γ n s q t/\At Γ t V g w) (q:=false) hS aRA
  (fun ex q a' V' w'=>(ex 11->q=true/\akv i C L wh a.defers w a' V' w')/\(¬ex 11->Task Γ D F (.pointer (some ⟨C,i*2,none⟩)) L wh a.defers (.pointer (some ⟨b8,0,none⟩)) (.pointer (some ⟨jl,0,none⟩)) (.pointer (some ⟨lZ,0,none⟩)) (.pointer (some ⟨jR,0,none⟩)) (.pointer (some ⟨j9,0,none⟩)) V w ex q a' V' w'))
  (BB (by kernel_rfl)) (fun ex w₁ hex hr=>⟨fun h=>absurd h (hex 11),fun _=>⟨hs,rfl,h1,h2,h3,h4,h5,fun j v h=>absurd h (hex j),fun h=>absurd h (hex 10),hW.rely hr,hN,.Uy (.bk hr),fun _=>rfl,fun h=>absurd h (hex 9)⟩⟩) ?_ fun ex q a' V' w' h1 h2=>?_
 ·intro ex jj o rest ho GJ yN ml q a' V' w' hB hK;have hi:=(Array.getElem?_eq_some_iff.1 ho).1;have l11:EH iL (nR iL 11) 11 8=true:=by kernel_rfl
  by_cases aH:jj=11
  ·subst aH;obtain rfl:=my.w ho;have hex:=iz l11 yN ml;have hM:=hB.2 GJ;obtain⟨rfl,vo,m15,mR,mF⟩:=hM.aNt (hex 9 (by omega))
   have hJ':=hJ.eN hM.left;obtain⟨A,c,hvo⟩:=mR.one;refine I1 my.a my.f hS my.d my.o (hM.v16 (hex 10 (by omega))) m15 (vs:=[vo,.bool wh]) rfl sizeOf36 (fun u hu=>by subst hvo;simp at hu;rcases hu with rfl|rfl<;>rfl) (fun jx hj=>?_) hJ'.blk hM.wk.tidy fun w2 W2 C2 T2 z2=>hK true a' V' w2 ⟨fun _=>⟨rfl,hM.df,hM.wk.deaf,hM.left.kind.trans W2.kind,hJ'.c0.1,hJ'.c1.1,vo,(C2 0 vo rfl).2,(C2 1 (.bool wh) rfl).2,mR.go W2,mF⟩,fun h=>absurd (.inl rfl) h⟩
   match jx,hj with
   |0,_=>exact hJ'.c0
   |1,_=>exact hJ'.c1
   |n+2,h=>exact absurd h (by simp)
  have aWq:¬ex 11:=fun x=>GJ (iz l11 (ml 11 _ my.a x) ml jj (by have:iL.size=12:=rfl;omega))
  have hM:=hB.2 aWq;have hJ':=hJ.eN hM.left;have B14:=aNv.eN hM.left id;have B15:=aNu.eN hM.left id;have E7:∀q' dA dq cO,Task Γ D F (.pointer (some ⟨C,i*2,none⟩)) L wh a.defers (.pointer (some ⟨b8,0,none⟩)) (.pointer (some ⟨jl,0,none⟩)) (.pointer (some ⟨lZ,0,none⟩)) (.pointer (some ⟨jR,0,none⟩)) (.pointer (some ⟨j9,0,none⟩)) V w (fun x=>x=jj\/ex x) q' dA dq cO->Loc prog false (fun V g w=>∃t,tgs Γ n s q' t/\At Γ t V g w) dq (G (b.at dA (.inRegion iL rest::k)) cs) cO:=fun q' dA dq cO h=>hK q' dA dq cO ⟨fun x=>x.elim (fun y=>absurd y.symm aH) fun y=>absurd y aWq,fun _=>h⟩;clear hK hB;match jj,hi with
  |0,_=>
   obtain rfl:=vD.w ho;exact hM.read (St:=fun q V g w=>∃t,tgs Γ n s q t/\At Γ t V g w) hF9 hk (by rw [hF];rfl) vD.a vD.g vD.d (aL vD.o hM.h4 isAgg26 hJ'.Z5.cK) E7
  |1,_=>
   obtain rfl:=vE.w ho;exact hM.read (St:=fun q V g w=>∃t,tgs Γ n s q t/\At Γ t V g w) hF9 hk (by rw [hF];rfl) vE.a vE.g vE.d (aL vE.o hM.h5 isAgg3 (B14.cK rfl)) E7
  |2,_=>
   obtain rfl:=vF.w ho;exact hM.read (St:=fun q V g w=>∃t,tgs Γ n s q t/\At Γ t V g w) hF9 hk (by rw [hF];rfl) vF.a vF.g vF.d (aL vF.o hM.h1 isAgg48 hJ'.gC.cK) E7
  |3,_=>
   obtain rfl:=vG.w ho;exact hM.read (St:=fun q V g w=>∃t,tgs Γ n s q t/\At Γ t V g w) hF9 hk (by rw [hF];rfl) vG.a vG.g vG.d (aB vG.o hM.h2 underlying34 rfl sizeOf3 (by decide) rfl) E7
  |4,_=>
   obtain rfl:=vH.w ho;have v9:a'.eval (.tmp 9)=.pointer (some ⟨jl,0,none⟩):=hM.dC 3 _ (yN 3 (fZ (by kernel_rfl))) (by rw [hF];rfl)
   exact hM.read (St:=fun q V g w=>∃t,tgs Γ n s q t/\At Γ t V g w) hF9 hk (by rw [hF];rfl) vH.a vH.g vH.d (aL vH.o v9 isAgg3 (B15.cK rfl)) E7
  |5,_=>
   obtain rfl:=vI.w ho;have v8:a'.eval (.tmp 8)=.slice (some ⟨gs,0,none⟩) ns ns:=hM.dC 2 _ (yN 2 (fZ (by kernel_rfl))) (by rw [hF];rfl)
   have v10:a'.eval (.tmp 10)=.int .i64 (Γ.me:Int):=hM.dC 4 _ (yN 4 (fZ (by kernel_rfl))) (by rw [hF];rfl)
   have hy:=cT (P:=prog) (V:=V') (w:=w') (s:=1) vI.o v8 v10 underlying48 sizeOf51 hJ.me;rw [Nat.zero_add,Nat.mul_one]at hy;exact hM.read (St:=fun q V g w=>∃t,tgs Γ n s q t/\At Γ t V g w) hF9 hk (by rw [hF];rfl) vI.a vI.g vI.d hy E7
  |6,_=>
   obtain rfl:=vJ.w ho;have v11:a'.eval (.tmp 11)=.pointer (some ⟨gs,Γ.me,none⟩):=hM.dC 5 _ (yN 5 (fZ (by kernel_rfl))) (by rw [hF];rfl)
   exact hM.read (St:=fun q V g w=>∃t,tgs Γ n s q t/\At Γ t V g w) hF9 hk (by rw [hF];rfl) vJ.a vJ.g vJ.d (aL vJ.o v11 isAgg51 hJ'.elem.cK) E7
  |7,_=>
   obtain rfl:=vK.w ho;exact hM.read (St:=fun q V g w=>∃t,tgs Γ n s q t/\At Γ t V g w) hF9 hk (by rw [hF];rfl) vK.a vK.g vK.d (vi vK.o hM.h2 isAgg34 sizeOf34 (B15.cK rfl) (B15.cK rfl) (B15.cK rfl) (B15.cK rfl)) E7
  |8,_=>
   obtain rfl:=vL.w ho;exact hM.read (St:=fun q V g w=>∃t,tgs Γ n s q t/\At Γ t V g w) hF9 hk (by rw [hF];rfl) vL.a vL.g vL.d (aL vL.o hM.h3 isAgg78 hJ'.off.cK) E7
  |9,_=>
   obtain rfl:=rr.w ho;have v12:a'.eval (.tmp 12)=.pointer (some ⟨Γ.src Γ.me,0,none⟩):=hM.dC 6 _ (yN 6 (fZ (by kernel_rfl))) (by rw [hF];rfl)
   have v13:a'.eval (.tmp 13)=.agg #[.int .i64 Γ.me,.int .i64 j.f,.int .i64 j.t,.int .i64 j.q]:=hM.dC 7 _ (yN 7 (fZ (by kernel_rfl))) (by rw [hF];rfl)
   have v14:a'.eval (.tmp 14)=.chan (some Γ.off):=hM.dC 8 _ (yN 8 (fZ (by kernel_rfl))) (by rw [hF];rfl)
   obtain rfl:=hM.no9 GJ;refine bI rr.a rr.f hS rr.o func27 (by kernel_rfl) aI3 (av7 (jo:=(Γ.me:Int)) I hM.wk hM.n56 hq hI rp hn (by simp [show Tryz.f27.ntmps=93 from rfl]) rfl (by simpa [Act.eval]using v12) (by simpa [Act.eval]using v13) (by simpa [Act.eval]using v14) ?_)
   intro V2 w2 b6 vo n' a2 todo CY Uv hN2 hL2 hb6 B6 R2 F2 hd2 h6;rw [←hwh]at B6;rw [←hL]at R2;refine(bf.aNa (q:=Next Γ ⟨5,1⟩ .none) ?_ fun t ht=>Next.le (e:=⟨5,1⟩) (e':=⟨n',1⟩) rfl CY ht);refine azX (vs:=[vo,.bool wh]) hS rfl hd2 func27 rfl rr.a rr.d (by rw [hM.sz];decide) isAgg36 sizeOf36 h6 (fun jx u hj=>?_) fun a3 e1 e2 e3 e4=>E7 true a3 V2 w2 ⟨e1.trans hM.sz,e2.trans hM.df,(e3 1 (by decide)).trans hM.h1,(e3 2 (by decide)).trans hM.h2,(e3 3 (by decide)).trans hM.h3,(e3 4 (by decide)).trans hM.h4,(e3 5 (by decide)).trans hM.h5,fun jx v h hv=>?_,fun h=>(e3 16 (by decide)).trans (hM.v16 (h.resolve_left (by decide))),Uv,hN2,hM.left.trans hL2,fun h=>absurd (.inl rfl) h,fun _=>⟨rfl,vo,e4,R2,fun g hg=>Nat.le_trans hM.left.size (F2 g hg)⟩⟩
   ·match jx,hj with
    |0,hj=>cases hj;exact B6.cK rfl
    |1,hj=>cases hj;exact B6.cK rfl
   ·have aU:jx<9:=by have:=(List.getElem?_eq_some_iff.1 hv).1;omega
    exact(e3 (6+jx) (by omega)).trans (hM.dC jx v (h.resolve_left (by omega)) hv)
  |10,_=>
   obtain rfl:=pB.w ho;have v6:a'.eval (.tmp 6)=.slice (some ⟨C,0,none⟩) N N:=hM.dC 0 _ (yN 0 (fZ (by kernel_rfl))) (by rw [hF];rfl)
   have v7:a'.eval (.tmp 7)=.int .i64 (i:Int):=hM.dC 1 _ (yN 1 (fZ (by kernel_rfl))) (by rw [hF];rfl)
   have hy:=cT (P:=prog) (V:=V') (w:=w') (s:=2) pB.o v6 v7 underlying26 sizeOf36 hJ.idx;rw [Nat.zero_add]at hy;refine zw pB.a pB.f hS pB.d (by rw [hM.sz];decide) hy fun a3 e1 e2 e3 e4=>E7 q a3 V' w' ⟨e1.trans hM.sz,e2.trans hM.df,(e3 1 (by decide)).trans hM.h1,(e3 2 (by decide)).trans hM.h2,(e3 3 (by decide)).trans hM.h3,(e3 4 (by decide)).trans hM.h4,(e3 5 (by decide)).trans hM.h5,fun jx v h hv=>?_,fun _=>e4,hM.wk,hM.n56,hM.left,fun h=>hM.no9 fun x=>h (.inr x),fun h=>?_⟩
   ·have aU:jx<9:=by have:=(List.getElem?_eq_some_iff.1 hv).1;omega
    exact(e3 (6+jx) (by omega)).trans (hM.dC jx v (h.resolve_left (by omega)) hv)
   ·obtain⟨g1,vo,g2,g3⟩:=hM.aNt (h.resolve_left (by decide))
    exact⟨g1,vo,(e3 15 (by decide)).trans g2,g3⟩
  |n+11,h=>exact absurd h (by have:iL.size=12:=rfl;omega)
 ·obtain⟨rfl,he⟩:=h2.1 (h1 11 (by decide))
  exact K a' V' w' he
end
end Go.Proofs.YtmcddajniiaieaaGreatDoor
