/- TopRace: a part of the proof that it holds for every input and every schedule. -/
import Derived.Test.YtmcddajniiaieaaGreatDoorY06
import Derived.Test.YtmcddajniiaieaaGreatDoorY05
import Derived.Test.YtmcddajniiaieaaGreatDoorY04
import Derived.Test.YtmcddajniiaieaaGreatDoorProg
import Derived.KernelRfl
import Derived.Conc.DeferLaws
import Derived.BigRegion
import Derived.Shelf.SlSortCmp.WholeK
import Derived.Shelf.SlicesG.Cmp
import Derived.Ground.SlsfProg
import Derived.Ground.SlgcProg
import Derived.Deep.Cut
import Derived.Shelf.SlSortCmp.NoneTotal
set_option linter.unusedVariables false
set_option linter.unusedSimpArgs false
namespace Go.Proofs.YtmcddajniiaieaaGreatDoor
open Go Go.Conc Go.ConcM
variable {P:Program} {main:Bool} {Stop:View->Goroutine->World->Prop} {k:List Item} {cs:List Frame} {ops:Array Oper}
theorem fZ{o:Oper}{j:Nat}(h:(Oper.fI o).elem j=true):j∈Oper.fI o:=List.elem_iff.1 h
def lastB(ops:Array Oper)(om:Oper)(m:Nat):Bool:=(List.range m).all fun j=>(Oper.fI om).elem j||(Oper.fI om).any fun l=>((ops[l]?).map fun o=>(Oper.fI o).elem j).getD false
theorem azH{ops:Array Oper}{om:Oper}{m:Nat}(h:lastB ops om m=true){ex:Nat->Prop}(h1:∀j∈Oper.fI om,ex j)(h2:∀j oj,ops[j]? =some oj->ex j->∀d∈Oper.fI oj,ex d):∀j,j<m->ex j:=fun j hj=>by
 have:=List.all_eq_true.1 h j (List.mem_range.2 hj);rcases(Bool.or_eq_true _ _).mp this with x|x
 ·exact h1 j (List.elem_iff.1 x)
 ·obtain⟨l,hl,x⟩:=List.any_eq_true.1 x;cases ho:ops[l]? with
  |none=>rw [ho]at x;cases x
  |some o=>
   rw [ho]at x;exact h2 l o ho (h1 l hl) j (List.elem_iff.1 x)
def akm(ops:Array Oper):Bool:=(List.range ops.size).all fun i=>((ops[i]?).map fun o=>o.after.toList.all fun e=>Nat.blt e.on i).getD true
theorem BB{ops:Array Oper}(h:akm ops=true):avA ops:=fun m=>⟨fun i=>i,fun i o ho e he _=>by
 have hi:=(Array.getElem?_eq_some_iff.1 ho).1;have:=List.all_eq_true.1 h i (List.mem_range.2 hi);rw [ho]at this;have:=List.all_eq_true.1 this e (Array.mem_toList_iff.2 he);have:e.on<i:=by simpa using this
 exact⟨this,by omega⟩⟩
theorem ey.at_{D:List Nat}{F:List Spec}{o:Oper}{a:Act}{V:View}{w:World}(h:ey D F (fun j=>j∈Oper.fI o) a V w)(j d:Nat)(s:Spec)(hj:(Oper.fI o).elem j=true)(hd:D[j]? =some d)(hs:F[j]? =some s):s.ok (a.eval (.tmp d)) V w:=h j d s (fZ hj) hd hs
theorem ey.av{D:List Nat}{F:List Spec}{o:Oper}{a:Act}{V:View}{w:World}(h:ey D F (fun j=>j∈Oper.fI o) a V w)(j:Nat){d:Nat}{v:Value}(hj:(Oper.fI o).elem j=true:=by kernel_rfl)(hd:D[j]? =some d:=by rfl)(hs:F[j]? =some (.val v):=by rfl):a.eval (.tmp d)=v:=h.at_ j d (.val v) hj hd hs
theorem ey.all{D:List Nat}{F:List Spec}{m:Nat}{a:Act}{V:View}{w:World}(h:ey D F (fun j=>j<m) a V w)(j d:Nat)(s:Spec)(hj:j<m)(hd:D[j]? =some d)(hs:F[j]? =some s):s.ok (a.eval (.tmp d)) V w:=h j d s hj hd hs
theorem aG.fresh{V V1 V2:View}{w w1 w2:World}{n:Nat}(h:aG aI aD V w V1 w1)(k:aG (· =n) aD V1 w1 V2 w2)(hn:w.heap.size<=n)(hT:Tidy V w):aG aI aD V w V2 w2:=by
 have:=(h.mono (B':=(· =n)) (A':=aD) (fun _ x=>x.elim) fun _ x=>x).trans k;exact⟨this.tape,this.output,this.os,this.size,this.kind,fun b hb _=>this.own b hb fun e=>by have:=hT.low.own b hb;omega,this.cell,this.mine,this.new,this.ro,this.wc,this.deaf⟩
section
variable {S:Act->List Item->Frame}
theorem Ez{id:Nat}{c:Code}(hS:fg P main S)(e:c=.region id ops true)(D:List Nat)(F:List Spec)(live:List (Nat×Value))(m:Nat)(hm:ops.size=m+1)(yd:akm ops=true){om:Oper}(hom:ops[m]? =some om)
  (lq:lastB ops om m=true)(hD:D.length=m)(hF:F.length=m)(ZP:D.Nodup)(hdl:∀p∈live,p.1∉D){a:Act}{V:View}{w:World}(Fin:Act->View->World->Prop)
  (hl:∀p∈live,a.eval (.tmp p.1)=p.2)(hT:Tidy V w)
  (step:∀(i:Nat) (d:Nat) (s:Spec) (o:Oper) (rest:List Nat),i<m->D[i]? =some d->F[i]? =some s->ops[i]? =some o->∀a' V' w',Std a.tmps.size a.defers live V w a' V' w'->ey D F (fun j=>j∈Oper.fI o) a' V' w'->
   (∀dA dq cO,dA.tmps.size=a'.tmps.size->dA.defers=a'.defers->(∀j,d≠j->dA.eval (.tmp j)=a'.eval (.tmp j))->aG aI aD V' w' dq cO->Tidy dq cO->s.ok (dA.eval (.tmp d)) dq cO->Loc P main Stop dq (G (S dA (.inRegion ops rest::k)) cs) cO)->
   Loc P main Stop V' (G (S a' (.inRegion ops (i::rest)::k)) cs) w')
  (last:∀(rest:List Nat) a' V' w',Std a.tmps.size a.defers live V w a' V' w'->ey D F (fun j=>j<m) a' V' w'->
   (∀dA dq cO,Fin dA dq cO->Loc P main Stop dq (G (S dA (.inRegion ops rest::k)) cs) cO)->
   Loc P main Stop V' (G (S a' (.inRegion ops (m::rest)::k)) cs) w')
  (K:∀a' V' w',Fin a' V' w'->Loc P main Stop V' (G (S a' k) cs) w'):Loc P main Stop V (G (S a (.code c::k)) cs) w:=
 q_reg (β:=Unit) (St:=fun _=>Stop) (q:=()) hS e D F live m hm (BB yd) (fun o ex ho=>by
   obtain rfl:=Option.some.inj (hom.symm.trans ho);exact azH lq) hD hF ZP hdl (fun _=>Fin) hl hT
  (fun i d s o rest hi hd hs ho _ a' V' w' h1 h2 h3=>step i d s o rest hi hd hs ho a' V' w' h1 h2 (h3 ()))
  (fun o rest ho _ a' V' w' h1 h2 h3=>last rest a' V' w' h1 h2 (h3 ()))
  (fun _=>K)
theorem aVZ{i d:Nat}{s:Spec}{o:Oper}{rest:List Nat}{a:Act}{V:View}{w:World}{v:Value}(ho:ops[i]? =some o)(hg:o.guard=none)(hS:fg P main S)(hd:o.dst=some d)(aU:d<a.tmps.size)(hT:Tidy V w)(hy:Yl P V w o a v)(hs:s.ok v V w)
  (K:∀dA dq cO,dA.tmps.size=a.tmps.size->dA.defers=a.defers->(∀j,d≠j->dA.eval (.tmp j)=a.eval (.tmp j))->aG aI aD V w dq cO->Tidy dq cO->s.ok (dA.eval (.tmp d)) dq cO->Loc P main Stop dq (G (S dA (.inRegion ops rest::k)) cs) cO):
  Loc P main Stop V (G (S a (.inRegion ops (i::rest)::k)) cs) w:=
 zw ho (gO hg) hS hd aU hy fun a' e1 e2 e3 e4=>K a' V w e1 e2 e3 (.refl V w) hT (by rw [e4];exact hs)
theorem cU{sz m i d:Nat}{ds:List Deferred}{live:List (Nat×Value)}{V0:View}{w0:World}{op:Op}{rest:List Nat}{a:Act}{V:View}{w:World}{v:Value}(p:KO ops i op (some d) none)(hS:fg P main S)(hB:Std sz ds live V0 w0 a V w)(hs:sz=m)(hy:Yl P V w (nR ops i) a v)
  (K:∀dA dq cO,dA.tmps.size=a.tmps.size->dA.defers=a.defers->(∀j,d≠j->dA.eval (.tmp j)=a.eval (.tmp j))->aG aI aD V w dq cO->Tidy dq cO->(Spec.val v).ok (dA.eval (.tmp d)) dq cO->Loc P main Stop dq (G (S dA (.inRegion ops rest::k)) cs) cO)(hm:d<m:=by decide):
  Loc P main Stop V (G (S a (.inRegion ops (i::rest)::k)) cs) w:=aVZ (s:=.val v) p.a p.g hS p.d (by rw [hB.size,hs];exact hm) hB.tidy hy rfl K
end
def ez(gY:Array TypeId)(ty:TypeId)(cn:Array Bool)(ch:Nat):Deferred:={target:=.builtin .close gY ty cn,args:=#[.chan (some ch)]}
section
variable {V:View} {w:World} {b:Frame} {a:Act} {i ch:Nat} {rest:List Nat} {o:Oper} {x:Operand} {gY:Array TypeId}
theorem xe(ho:ops[i]? =some o)(hw:Region.wanted o (yielded ops a.tmps)=true)(hk:b.kind≠.early)(hx:a.eval x=.chan (some ch))
  (aE:o.op=.defer {callee:=.builtin .close,args:=#[x],argTypes:=gY}):∃cn,
  stepG P main (G (b.at a (.inRegion ops (i::rest)::k)) cs) w=.go (G (b.at (Act.put ⟨a.tmps,ez gY o.type cn ch::a.defers⟩ o.dst undef) (.inRegion ops rest::k)) cs) w #[]:=by
 refine⟨#[x].map fun|.const _=>true|_=>false,?_⟩;have hr:(execOp a.eval o).run P w=.ok (.defer (ez gY o.type (#[x].map fun|.const _=>true|_=>false) ch)) w:=by
  unfold execOp;simp only [aE,resolve,List.map_toArray,List.map_cons,List.map_nil,hx];rfl
 have he:(execOp a.eval o).events P w #[]=#[]:=by
  unfold execOp;simp only [aE,resolve];rfl
 have uf:(b.at ⟨a.tmps,ez gY o.type (#[x].map fun|.const _=>true|_=>false) ch::a.defers⟩ (.inRegion ops (i::rest)::k)).finish undef=b.at (Act.put ⟨a.tmps,ez gY o.type (#[x].map fun|.const _=>true|_=>false) ch::a.defers⟩ o.dst undef) (.inRegion ops rest::k):=by rw [Frame.finish_at,ho];rfl
 have cm:(b.kind==CallKind.early)=false:=by simpa using hk
 rw [stepG_oper ho hw,←uf];simp [stepG.apply,hr,he,G,Frame.at,cm,GStep.after,seen_none]
theorem Uo(ho:ops[i]? =some o)(hw:Region.wanted o (yielded ops a.tmps)=true)(hk:b.kind≠.early)(hd:o.dst=none)(hx:a.eval x=.chan (some ch))
  (aE:o.op=.defer {callee:=.builtin .close,args:=#[x],argTypes:=gY})
  (K:∀cn a',a'.tmps=a.tmps->a'.defers=ez gY o.type cn ch::a.defers->Loc P main Stop V (G (b.at a' (.inRegion ops rest::k)) cs) w):
  Loc P main Stop V (G (b.at a (.inRegion ops (i::rest)::k)) cs) w:=by
 refine Loc.step rfl fun w₁ hr=>?_;obtain⟨cn,bF⟩:=xe (P:=P) (main:=main) (w:=w₁) (cs:=cs) (k:=k) (rest:=rest) ho hw hk hx aE;rw [hd]at bF;exact⟨_,_,_,V,bF,aY V w₁,(K cn ⟨a.tmps,ez gY o.type cn ch::a.defers⟩ rfl rfl).rely hr⟩
theorem EA{f:FuncId}{xs:Array Operand}(ho:ops[i]? =some o)(hw:Region.wanted o (yielded ops a.tmps)=true)(hk:b.kind≠.early)(hd:o.dst=none)
  (aE:o.op=.defer {callee:=.value (.func f),args:=xs,argTypes:=gY})
  (K:∀a',a'.tmps=a.tmps->a'.defers=dcall f (xs.map a.eval)::a.defers->Loc P main Stop V (G (b.at a' (.inRegion ops rest::k)) cs) w):
  Loc P main Stop V (G (b.at a (.inRegion ops (i::rest)::k)) cs) w:=by
 refine Loc.step rfl fun w₁ hr=>?_;have bF:=stepG_defer (P:=P) (main:=main) (w:=w₁) (cs:=cs) (k:=k) (rest:=rest) ho hw hk aE;rw [hd]at bF;exact⟨_,_,_,V,bF,aY V w₁,(K ⟨a.tmps,dcall f (xs.map a.eval)::a.defers⟩ rfl rfl).rely hr⟩
theorem Up{f:FuncId}{fn:Func}{c:Code}{args:Array Value}{ds:List Deferred}{todo:List Item}(hd:a.defers=dcall f args::ds)(hf:P.funcs[f]? =some fn)(jq:(fn.name== "runtime.NumGoroutine")=false)(hb:fn.body=some c)
  (K:Loc P main Stop V (G ((baseD f).at {tmps:=args++Array.replicate (fn.ntmps-args.size) undef,defers:=[]} [.code c]) ({b.at ⟨a.tmps,ds⟩ todo with mode:=.returning}::cs)) w):
  Loc P main Stop V (G {b.at a todo with mode:=.returning} cs) w:=Loc.ctl rfl (fun w₁=>stepG_unwind_enter hd hf jq hb) K
theorem kW{ty:TypeId}{cn:Array Bool}{ds:List Deferred}{todo:List Item}{s r:Nat}{tm:Bool}(hd:a.defers=ez gY ty cn ch::ds)(h:w.heap[ch]? =some (.chan 0 #[] false s r tm))(hq:(P.funcs[b.fn]?).any (·.norace)=false):
  stepG P main (G {b.at a todo with mode:=.returning} cs) w=.go (G {b.at ⟨a.tmps,ds⟩ todo with mode:=.returning} cs) (w.setChan ch 0 #[] true s r tm) (closeEvents ch):=by
 have hr:(builtin .close gY ty cn #[.chan (some ch)]).run P w=.ok (.value (.tuple #[])) (w.setChan ch 0 #[] true s r tm):=by
  have:=run_close_open (P:=P) gY ty h;show((do pure (Next.value (←Builtin.close_ gY ty #[.chan (some ch)])):Sem Go.Next)).run P w=_
  simp only [Sem.run_bind,this,Result.andThen_ok,Sem.run_pure];rfl
 have he:(builtin .close gY ty cn #[.chan (some ch)]).events P w #[]=closeEvents ch:=by
  have:=events_close_open (P:=P) (es:=#[]) gY ty h;have h2:=run_close_open (P:=P) gY ty h;show((do pure (Next.value (←Builtin.close_ gY ty #[.chan (some ch)])):Sem Go.Next)).events P w #[]=_
  simp only [Sem.events_bind,this,h2];rfl
 have hl:seen P b.fn (closeEvents ch)=closeEvents ch:=by
  exact seen_eq hq (by intro e he f;simp only [closeEvents,List.mem_toArray,List.mem_cons,List.not_mem_nil,or_false]at he;rcases he with rfl|rfl<;>simp)
 simp [G,stepG,unwind,callDeferred,Frame.at,hd,ez,invoke,hr,he,hl,GStep.after]
end
end Go.Proofs.YtmcddajniiaieaaGreatDoor
namespace Go.Proofs.YtmcddajniiaieaaGreatDoor.Rg
open Go.RowKit
def Sp.val(s:Sp):Value:=.agg #[.int .i64 s.f,.int .i64 s.t]
end Go.Proofs.YtmcddajniiaieaaGreatDoor.Rg
namespace Go.Proofs.YtmcddajniiaieaaGreatDoor.Rg
open Go.Proofs.Tryz Go.RowKit
def rR(l:List Sp):Int:=l.foldl (fun n s=>n+(s.t-s.f)) 0
def Uq(l:List Sp):Int:=if l.any (fun s=>s.t==4611686018427387904)then 4611686018427387904 else rR l
theorem GK(l:List Sp)(s:Sp):rR (l++[s])=rR l+(s.t-s.f):=by simp [rR]
theorem ZQ{l:List Sp}(h:Norm l)(k:Nat)(hk:k<=l.length):0<=rR (l.take k)/\(∀cm:k<l.length,rR (l.take k)<=l[k].f)/\rR (l.take k)<=4611686018427387904/\(∀j (hj:j+1=k),rR (l.take k)<=l[j].t):=by
 induction k with
 |zero=>exact⟨by simp [rR],fun cm=>by simp [rR];exact(h.get cm).1,by simp [rR],fun j hj=>by omega⟩
 |succ k ih=>
  obtain⟨i1,i2,_,_⟩:=ih (by omega)
  have hk1:k<l.length:=by omega
  have h2:=i2 hk1;have h3:=h.get hk1;rw [List.take_succ_eq_append_getElem hk1,GK];refine⟨by omega,fun cm=>?_,by omega,fun j hj=>?_⟩
  ·have:=h.lt (i:=k) (j:=k+1) (by omega) cm;omega
  ·obtain rfl:j=k:=by omega
   omega
set_option maxHeartbeats 1000000 in
set_option maxRecDepth 100000 in
theorem alS(A:Option Addr)(c:Nat)(l:List Sp)(w:World)(h:rQ w A l)(hn:Norm l)(hl:l.length<=1000000):
  Calls prog 91 #[.agg #[.slice A l.length c]] w fun e w'=>e=.returned (.int .i64 (Uq l))/\Ext w w':=by
 have hx0:Ext w (w.alloc (.cells #[.slice A l.length c] 39)):=(Ext.refl w).alloc _;replace h:=h.ext hx0;go_enter func91,ntmps91;go_wp2;generalize (w.alloc (.cells #[.slice A l.length c] 39))=w1 at*;go_loopw [3,9] (fun n i wr=>∃k:Nat,k<=l.length/\i=.int .i64 k/\n=.int .i64 (rR (l.take k))/\(l.take k).any (fun s=>s.t==4611686018427387904)=false/\Ext w1 wr) (fun _ i _=>l.length-(intOf i).toNat);case atStart=>exact⟨0,Nat.zero_le _,rfl,rfl,rfl,Ext.refl w1⟩
 case round=>
  obtain⟨k,hk,rfl,rfl,dS,hx⟩:=hrel;by_cases aU:k<l.length
  ·obtain⟨b,o,rfl,p0,p1⟩:=h.ext hx k aU;have hb:=ZQ hn k hk;have hbf:=hb.2.1 aU;have hb0:=hb.1;have hg:=hn.get aU;have hts:=List.take_succ_eq_append_getElem aU;have hsm:rR (l.take (k+1))=rR (l.take k)+(l[k].t-l[k].f):=by rw [hts,GK]
   have han:(l.take (k+1)).any (fun s=>s.t==4611686018427387904)=(l[k].t==4611686018427387904):=by rw [hts,List.any_append,dS];simp
   have hal:(l[k].t==4611686018427387904)=true->Uq l=4611686018427387904:=fun h=>by
    unfold Uq;rw [if_pos (List.any_eq_true.2 ⟨l[k],List.getElem_mem _,h⟩)]
   generalize l[k]=s at*;generalize rR (l.take k)=n at*;have HS:=Lib.hid hsm;have HA:=Lib.hid han;have HL:=Lib.hid hal;obtain⟨g1,g2,g3⟩:=hg;clear hb hts hsm han hal dS h;cases eO:(s.t==4611686018427387904)
   ·have HA2:Hid ((l.take (k+1)).any (fun s=>s.t==4611686018427387904)=false):=Lib.hid (by rw [HA.out,eO])
    clear HA HL;go_wp2;go_roundw;case rel=>exact⟨k+1,by omega,by go_num,by rw [HS.out],HA2.out,hx.alloc _⟩
    case measure=>simp [intOf];omega
   ·have HL2:=Lib.hid (HL.out eO);clear HA HL;go_wp2;go_ret;exact⟨by rw [HL2.out];rfl,hx0.trans (hx.alloc _)⟩
  ·obtain rfl:k=l.length:=by omega
   rw [List.take_length]at dS;have hL:Uq l=rR l:=by unfold Uq;rw [dS];rfl
   have HL:=Lib.hid hL;clear dS hL h;go_wp2;go_ret;exact⟨by rw [HL.out];simp,hx0.trans hx⟩
end Go.Proofs.YtmcddajniiaieaaGreatDoor.Rg
namespace Go.Proofs.YtmcddajniiaieaaGreatDoor
open Go Go.Conc Go.ConcM Go.Proofs.Tryz
variable {Γ:Rc} {k cc:Nat} {V V':View} {w':World} {Stop:View->Goroutine->World->Prop} {b:Frame} {cs:List Frame} {no:Int}
structure cY where
 u:Int
 iH:Nat->List Int
 bs:Nat->Option Addr
 cp:Nat->Nat
 mp:Nat->Nat
 n0:Nat
def cY.len(D:cY)(k:Nat):Int:=((D.iH k).length:Int)
def cY.obj(D:cY)(k:Nat):Value:=.slice (D.bs k) (D.iH k).length (D.cp k)
structure lH(Γ:Rc)(D:cY):Prop where
 u:D.u=1\/D.u=2\/D.u=4\/D.u=8\/D.u=16
 len:∀k,(D.iH k).length<=60
 cap:∀k,(D.iH k).length<=D.cp k
 bs:∀k,D.iH k≠[]->∃b o,D.bs k=some ⟨b,o,none⟩
def cY.cnt(D:cY)(k:Nat):Int:=(D.len k+D.u-1)/D.u
def cY.lo(D:cY)(no:Int):Int:=no*D.u
def cY.hi(D:cY)(k:Nat)(no:Int):Int:=min ((no+1)*D.u) (D.len k)
def cY.cut(D:cY)(k:Nat)(a b:Int):List Int:=((D.iH k).drop a.toNat).take (b-a).toNat
def cY.cX(D:cY)(k:Nat):List Int->List Rg.Sp
 |[]=>[]
 |no::l=>Rg.yT (D.cX k l) (Rg.nG [⟨D.lo no,D.hi k no⟩])
def dG(b:Int):Value:=.int .u8 b
structure kX(Γ:Rc)(D:cY)(k:Nat)(V:View)(w:World):Prop where
 obj:Cl V w ⟨Γ.src k,0,none⟩ (D.obj k)
 unit:Cl V w ⟨Γ.src k,1,none⟩ (.int .i64 D.u)
 map:Cl V w ⟨Γ.src k,4,none⟩ (.map (some (D.mp k)))
 bytes:∀b o,D.bs k=some ⟨b,o,none⟩->∀j x,(D.iH k)[j]? =some x->Cl V w ⟨b,o+j,none⟩ (dG x)
theorem kX.aC{Γ:Rc}{D:cY}{k:Nat}{V V':View}{w w':World}{B:Nat->Prop}{A:Addr->Prop}(h:kX Γ D k V w)(kk:aG B A V w V' w')(hA:∀a,A a->¬(a=⟨Γ.src k,0,none⟩\/a=⟨Γ.src k,1,none⟩\/a=⟨Γ.src k,4,none⟩\/∃b o j,D.bs k=some ⟨b,o,none⟩/\j<(D.iH k).length/\a=⟨b,o+j,none⟩)):kX Γ D k V' w':=
 ⟨h.obj.aC kk fun x=>hA _ x (.inl rfl),h.unit.aC kk fun x=>hA _ x (.inr (.inl rfl)),h.map.aC kk fun x=>hA _ x (.inr (.inr (.inl rfl))),fun b o e j x hj=>(h.bytes b o e j x hj).aC kk fun y=>hA _ y (.inr (.inr (.inr ⟨b,o,j,e,(List.getElem?_eq_some_iff.1 hj).1,rfl⟩)))⟩
theorem kX.go{Γ:Rc}{D:cY}{k:Nat}{V V':View}{w w':World}{B:Nat->Prop}(h:kX Γ D k V w)(kk:aG B aD V w V' w'):kX Γ D k V' w':=h.aC kk fun _ h=>h.elim
theorem kX.rely{Γ:Rc}{D:cY}{k:Nat}{V:View}{w w':World}(h:kX Γ D k V w)(kk:aP V w w'):kX Γ D k V w':=h.go (.bk kk)
theorem kX.view{Γ:Rc}{D:cY}{k:Nat}{V V':View}{w:World}(h:kX Γ D k V w)(hv:∀a,V.ro a\/V.wc a->V'.ro a\/V'.wc a):kX Γ D k V' w:=
 ⟨⟨hv _ h.obj.1,h.obj.2⟩,⟨hv _ h.unit.1,h.unit.2⟩,⟨hv _ h.map.1,h.map.2⟩,fun b o e j x hj=>⟨hv _ (h.bytes b o e j x hj).1,(h.bytes b o e j x hj).2⟩⟩
def cellOf(bO:List xp)(no:Int):Option Value:=(bO.find? fun c=>c.no==no).map fun c=>.pointer (some ⟨c.c,0,none⟩)
structure Fl(V:View)(w:World)(c:xp):Prop where
 ch:V.ro ⟨c.c,0,none⟩/\w.cell? ⟨c.c,0,none⟩=some (.chan (some c.ch))
 blk:∃cs,w.heap[c.c]? =some (.cells cs 136 (0,0))/\cs.size=2
def cY.In(D:cY)(k:Nat)(l:List Int):Prop:=∀no∈l,0<=no/\D.lo no<D.len k
structure jI(Γ:Rc)(D:cY)(k:Nat)(γ:Gh)(V:View)(w:World):Prop where
 tidy:Tidy V w
 map:∃es cl,ba V w (D.mp k) (.map es cl)/\iu es.toList/\∀no,kI es.toList no=cellOf γ.bO no
 wc5:V.wc ⟨Γ.src k,5,none⟩
 wc6:V.wc ⟨Γ.src k,6,none⟩
 two:w.cell? ⟨Γ.src k,6,none⟩=some (.int .i64 0)
 set:∃C v,Closed V w C/\¬C (D.mp k)/\gI w C (.agg #[v]) (D.cX k γ.done)/\w.cell? ⟨Γ.src k,5,none⟩=some v
 yr:∀c∈γ.bO,Fl V w c
 inn:D.In k γ.done
 gB:dB Γ k V
 deaf:V.deaf=0
 ks:∀c∈γ.bO,c.k=k
 new:∀b,V.own b->D.n0<=b
structure kY(Γ:Rc)(D:cY)(c:xp)(V:View)(w:World):Prop where
 ex:∃bb cap,V.ro ⟨c.c,1,none⟩/\w.cell? ⟨c.c,1,none⟩=some (.slice (some ⟨bb,0,none⟩) (D.cut c.k (D.lo c.no) (D.hi c.k c.no)).length cap)/\(D.cut c.k (D.lo c.no) (D.hi c.k c.no)).length<=cap/\∀j x,(D.cut c.k (D.lo c.no) (D.hi c.k c.no))[j]? =some x->V.ro ⟨bb,j,none⟩/\w.cell? ⟨bb,j,none⟩=some (dG x)
 low:∀a,V.ro a->a.block<w.heap.size
 gB:∀a,V.ro a->a.block≠Γ.src c.k
section
variable {D:cY} {γ:Gh} {w:World} {c:xp}
theorem Fl.rely(h:Fl V w c)(hr:aP V w w'):Fl V w' c:=by
 refine⟨⟨h.ch.1,(hr.cell _ (.inl h.ch.1)).trans h.ch.2⟩,?_⟩;obtain⟨cs,h1,h2⟩:=h.blk;obtain⟨cL,h3,h4⟩:=hr.kind _ _ _ _ h1;exact⟨cL,h3,h4.trans h2⟩
theorem Fl.aC{B:Nat->Prop}{A:Addr->Prop}(h:Fl V w c)(kk:aG B A V w V' w')(hA:¬A ⟨c.c,0,none⟩):Fl V' w' c:=by
 refine⟨⟨by rw [kk.ro];exact h.ch.1,(kk.cell _ (.inl h.ch.1) hA).trans h.ch.2⟩,?_⟩
 obtain⟨cs,h1,h2⟩:=h.blk;obtain⟨cL,h3,h4⟩:=kk.kind _ _ _ _ h1;exact⟨cL,h3,h4.trans h2⟩
theorem jI.rely(h:jI Γ D k γ V w)(hr:aP V w w'):jI Γ D k γ V w':=by
 obtain⟨es,cl,h1,h2,h3⟩:=h.map;obtain⟨C,v,k1,k2,k3,k4⟩:=h.set;exact⟨h.tidy.aC (.bk hr),⟨es,cl,h1.rely hr,h2,h3⟩,h.wc5,h.wc6,(hr.cell _ (.inr h.wc6)).trans h.two,
  ⟨C,v,k1.aC (.bk hr) (fun _ _=>id),k2,k3.blocks fun b hb=>⟨hb,hr.own b (k1 b hb).1⟩,(hr.cell _ (.inr h.wc5)).trans k4⟩,fun c hc=>(h.yr c hc).rely hr,h.inn,h.gB,h.deaf,h.ks,h.new⟩
theorem kY.rely(h:kY Γ D c V w)(hr:aP V w w'):kY Γ D c V w':=by
 obtain⟨bb,cap,h1,h2,h3,h4⟩:=h.ex;exact⟨⟨bb,cap,h1,(hr.cell _ (.inl h1)).trans h2,h3,fun j x hj=>⟨(h4 j x hj).1,(hr.cell _ (.inl (h4 j x hj).1)).trans (h4 j x hj).2⟩⟩,fun a ha=>Nat.lt_of_lt_of_le (h.low a ha) hr.size,h.gB⟩
end
structure Is(Γ:Rc)(D:cY):Prop where
 cont:∀k γ V w,Γ.cont k γ V w↔jI Γ D k γ V w
 full:∀c V w,Γ.full c V w↔kY Γ D c V w
 ok:lH Γ D
 me:Γ.me<Γ.ns
 inj:∀k k',k<Γ.ns->k'<Γ.ns->Γ.src k=Γ.src k'->k=k'
structure Wk(Γ:Rc)(D:cY)(V:View)(w:World):Prop where
 deaf:V.deaf=0
 tidy:Tidy V w
 gB:dB Γ Γ.me V
 blk:∃c ty,w.heap[Γ.src Γ.me]? =some (.cells c ty (0,0))/\c.size=7
 src:kX Γ D Γ.me V w
section
variable {D:cY} {w:World} {B:Nat->Prop} {A:Addr->Prop}
theorem Wk.hb(h:Wk Γ D V w):HB Γ Γ.me w:=by
 obtain⟨c,ty,h1,h2⟩:=h.blk;exact⟨c,ty,_,h1,by omega⟩
theorem dB.aC{k:Nat}(h:dB Γ k V)(aU:Γ.src k<w.heap.size)(kk:aG B A V w V' w'):dB Γ k V':=by
 refine⟨fun x=>(kk.new _ x).elim h.own fun y=>by omega,fun a ha=>?_⟩
 rw [kk.ro,kk.wc]at ha;exact h.cell a ha
theorem Wk.avE(h:Wk Γ D V w):Γ.src Γ.me<w.heap.size:=by
 obtain⟨c,ty,h1,h2⟩:=h.blk;exact(Array.getElem?_eq_some_iff.1 h1).1
theorem Wk.go(h:Wk Γ D V w)(kk:aG B aD V w V' w'):Wk Γ D V' w':=by
 refine⟨kk.deaf.trans h.deaf,h.tidy.aC kk,h.gB.aC h.avE kk,?_,h.src.go kk⟩;obtain⟨c,ty,h1,h2⟩:=h.blk;obtain⟨c',h3,h4⟩:=kk.kind _ _ _ _ h1;exact⟨c',ty,h3,h4.trans h2⟩
theorem Wk.rely(h:Wk Γ D V w)(hr:aP V w w'):Wk Γ D V w':=h.go (.bk hr)
end
section
variable {D:cY} {w:World} {a:Act} {k:List Item}
theorem azJ(h:lH Γ D){k:Nat}{no:Int}(h0:0<=no)(h1:D.lo no<D.len k):Rg.nZ no D.u (D.len k)=⟨D.lo no,D.hi k no⟩:=by
 have hl:=h.len k;have hu:Rg.fv D.u=true:=by rcases h.u with x|x|x|x|x<;>rw [x]<;>decide
 obtain⟨u1,u2⟩:=Rg.kU hu;have hlen:D.len k<=60:=by unfold cY.len;omega
 unfold cY.lo at h1;have dS:no<=no*D.u:=by
  have:=Int.mul_le_mul_of_nonneg_left (show(1:Int)<=D.u by omega) h0
  omega
 have hq:no<1099511627776/D.u:=by
  have:(1048576:Int)<=1099511627776/D.u:=Int.le_ediv_of_mul_le (by omega) (by omega)
  omega
 have e5:(no+1)*D.u=no*D.u+D.u:=by rw [Int.add_mul,Int.one_mul]
 unfold Rg.nZ Rg.nI Rg.ZK cY.lo cY.hi;have hL:Rg.j4 (D.len k)=true:=by unfold Rg.j4;simp;unfold cY.len at*;omega
 rw [hu,hL];have hn1:¬D.len k=-1:=by unfold cY.len;omega
 simp only [if_neg hn1,h0,hq,decide_true,Bool.true_and];rw [if_pos];simp;omega
theorem aMY(I:Is Γ D)(hk:b.kind≠.early)(hW:Wk Γ D V w)(h0':0<=no)(N0:D.lo no<D.len Γ.me)
  (hs:a.tmps.size=69)(h0:a.eval (.tmp 0)=.pointer (some ⟨Γ.src Γ.me,0,none⟩))(h1:a.eval (.tmp 1)=.int .i64 no)(h2:a.eval (.tmp 2)=.pointer (some ⟨cc,0,none⟩))
  (K:∀n a' V' w',a'.tmps.size=69->a'.defers=a.defers->a'.eval (.tmp 0)=.pointer (some ⟨Γ.src Γ.me,0,none⟩)->a'.eval (.tmp 1)=.int .i64 no->a'.eval (.tmp 2)=.pointer (some ⟨cc,0,none⟩)->a'.eval (.tmp 6)=.pointer (some ⟨n,0,none⟩)->
   w.heap.size<=n->aG aI aD V w V' w'->ba V' w' n (.cells #[.int .i64 (D.lo no),.int .i64 (D.hi Γ.me no)] 32 (0,0))->Tidy V' w'->Loc prog false Stop V' (G (b.at a' k) cs) w'):
  Loc prog false Stop V (G (b.at a (.code acV::k)) cs) w:=by
 have hS:=bh (P:=prog) (main:=false) hk;have hT:=hW.tidy;have hsp:=azJ I.ok (k:=Γ.me) h0' N0;refine Ez hS aRq [11,12,13,14,15,16,17,18,19,20,21,6] [.val (.int .i64 no),.val (.pointer (some ⟨Γ.src Γ.me,0,none⟩)),.val (.pointer (some ⟨Γ.src Γ.me,0,none⟩)),.val (.pointer (some ⟨Γ.src Γ.me,1,none⟩)),.val (.int .i64 D.u),.val (.pointer (some ⟨Γ.src Γ.me,0,none⟩)),.val (.pointer (some ⟨Γ.src Γ.me,0,none⟩)),.val (.pointer (some ⟨Γ.src Γ.me,0,none⟩)),.val (D.obj Γ.me),.val (.int .i64 (D.len Γ.me)),.val (.agg #[.int .i64 (D.lo no),.int .i64 (D.hi Γ.me no)]),.var #[.int .i64 0,.int .i64 0] 32 w.heap.size] [(0,.pointer (some ⟨Γ.src Γ.me,0,none⟩)),(1,.int .i64 no),(2,.pointer (some ⟨cc,0,none⟩))] 12 rfl (by kernel_rfl) pr.a (by kernel_rfl) rfl rfl (by decide) (by simp) (fun a' V' w'=>∃n,a'.tmps.size=69/\a'.defers=a.defers/\a'.eval (.tmp 0)=.pointer (some ⟨Γ.src Γ.me,0,none⟩)/\a'.eval (.tmp 1)=.int .i64 no/\a'.eval (.tmp 2)=.pointer (some ⟨cc,0,none⟩)/\a'.eval (.tmp 6)=.pointer (some ⟨n,0,none⟩)/\w.heap.size<=n/\aG aI aD V w V' w'/\ba V' w' n (.cells #[.int .i64 (D.lo no),.int .i64 (D.hi Γ.me no)] 32 (0,0))/\Tidy V' w') (by simp [h0,h1,h2]) hT ?_ ?_ ?_
 ·intro i d s o rest hi aV aZ ho aa VV ww hB hI K;match i,hi with
  |0,_=>
   cases aV;cases aZ;obtain rfl:=Jh.w ho;have h1:=hB.sl 1 rfl;exact cU Jh hS hB hs (af Jh.o h1) K
  |1,_=>
   cases aV;cases aZ;obtain rfl:=Ji.w ho;have h0:=hB.sl 0 rfl;exact cU Ji hS hB hs (af Ji.o h0) K
  |2,_=>
   cases aV;cases aZ;obtain rfl:=Jj.w ho;have aJ:=hI.av 1;exact cU Jj hS hB hs (bE Jj.o aJ) K
  |3,_=>
   cases aV;cases aZ;obtain rfl:=Jk.w ho;have aK:=hI.av 2;exact cU Jk hS hB hs (aB Jk.o aK underlying61 rfl sizeOf2 (by decide) rfl) K
  |4,_=>
   cases aV;cases aZ;obtain rfl:=Jl.w ho;have aW:=hI.av 3;exact cU Jl hS hB hs (aL Jl.o aW isAgg2 ((hW.src.unit.go hB.aC).cK)) K
  |5,_=>
   cases aV;cases aZ;obtain rfl:=Jm.w ho;have h0:=hB.sl 0 rfl;exact cU Jm hS hB hs (af Jm.o h0) K
  |6,_=>
   cases aV;cases aZ;obtain rfl:=Jn.w ho;have fP:=hI.av 5;exact cU Jn hS hB hs (bE Jn.o fP) K
  |7,_=>
   cases aV;cases aZ;obtain rfl:=Jo.w ho;have bT:=hI.av 6;exact cU Jo hS hB hs (aB Jo.o bT underlying61 rfl sizeOf25 (by decide) rfl) K
  |8,_=>
   cases aV;cases aZ;obtain rfl:=Jp.w ho;have jL:=hI.av 7;exact cU Jp hS hB hs (aL Jp.o jL isAgg25 ((hW.src.obj.go hB.aC).cK)) K
  |9,_=>
   cases aV;cases aZ;obtain rfl:=Jq.w ho;have dz:=hI.av 8;exact cU Jq hS hB hs (dk Jq.o dz underlying25) K
  |10,_=>
   cases aV;cases aZ;obtain rfl:=po.w ho;have aH:=hI.av 0;have eS:=hI.av 4;have dE:=hI.av 9;refine qK po.a po.f hS po.d (by rw [hB.size,hs];decide) hB.tidy po.o (by kernel_rfl) (vl:=.agg #[.int .i64 (D.lo no),.int .i64 (D.hi Γ.me no)]) (fun U n=>?_) (fun w'=>?_) (.Ul (.int _ _) (.int _ _)) fun a' V' w' e1 e2 e3 e4 e5 e6=>K a' V' w' e1 e2 e3 e5 e6 e4
   ·simp only [List.map_toArray,List.map_cons,List.map_nil,aH,eS,dE];exact ar3 (.int _ _) (.int _ _) (.int _ _)
   ·simp only [List.map_toArray,List.map_cons,List.map_nil,aH,eS,dE];have:=Rg.ZL no D.u (D.len Γ.me) w';rw [hsp]at this;exact this
  |11,_=>
   cases aV;cases aZ;obtain rfl:=pq.w ho;exact dN pq.a pq.f hS pq.d (by rw [hB.size,hs];decide) hB.tidy pq.o Tryz.zeroValue32 fun n a' V' w' e1 e2 e3 e4 e5 e6 e7 e8=>K a' V' w' e1 e2 e3 e5 e8 ⟨n,e4,Nat.le_trans hB.aC.size e6,e7⟩
  |n+12,hn=>exact absurd hn (by omega)
 ·intro rest aa VV ww hB hI K;have h6:=hI.all 11 6 (.var #[.int .i64 0,.int .i64 0] 32 w.heap.size) (by decide) rfl rfl
  have cD:aa.eval (.tmp 21)=(.agg #[.int .i64 (D.lo no),.int .i64 (D.hi Γ.me no)]):=hI.all 10 21 (.val (.agg #[.int .i64 (D.lo no),.int .i64 (D.hi Γ.me no)])) (by decide) rfl rfl
  obtain⟨n,h6,hn,hb6⟩:=h6;refine gg pr.a pr.f hS pr.d pr.o h6 cD (vs:=[.int .i64 (D.lo no),.int .i64 (D.hi Γ.me no)]) rfl sizeOf32 (fun u hu=>by simp at hu;rcases hu with rfl|rfl<;>rfl) hb6 (by simp) hB.tidy fun w' e1 e2 e3 e4=>K _ _ _ ⟨n,hB.size.trans hs,hB.defers,hB.slot 0 _ (by simp),hB.slot 1 _ (by simp),hB.slot 2 _ (by simp),h6,hn,hB.aC.fresh e1 hn hT,e2,e3⟩
 ·skip;rintro a' V' w' ⟨n,e1,e2,e3,e4,e5,e6,e7,e8,e9,Vx⟩;exact K n a' V' w' e1 e2 e3 e4 e5 e6 e7 e8 e9 Vx
end
section
variable {D:cY} {w:World} {a:Act} {k:List Item} {n:Nat}
def cY.dC(D:cY)(k:Nat)(no:Int):List Value:=(D.cut k (D.lo no) (D.hi k no)).map dG
theorem akn(h:lH Γ D){k:Nat}{no:Int}(h0:0<=no)(h1:D.lo no<D.len k):0<=D.lo no/\D.lo no<D.hi k no/\D.hi k no<=D.len k:=by
 have hu:1<=D.u:=by rcases h.u with x|x|x|x|x<;>rw [x]<;>decide
 have e5:(no+1)*D.u=no*D.u+D.u:=by rw [Int.add_mul,Int.one_mul]
 have h2:0<=no*D.u:=Int.mul_nonneg h0 (by omega)
 unfold cY.lo cY.hi at*;omega
theorem avF(h:lH Γ D){k:Nat}{no:Int}(h0:0<=no)(h1:D.lo no<D.len k):(D.dC k no).length=(D.hi k no).toNat-(D.lo no).toNat:=by
 obtain⟨a1,a2,a3⟩:=akn h h0 h1;unfold cY.dC cY.cut cY.len at*;simp;omega
theorem Ur(h:lH Γ D){k:Nat}{no:Int}(h0:0<=no)(h1:D.lo no<D.len k){j:Nat}{v:Value}(hj:(D.dC k no)[j]? =some v):∃x,(D.iH k)[(D.lo no).toNat+j]? =some x/\v=dG x:=by
 unfold cY.dC cY.cut at hj;rw [List.getElem?_map]at hj;obtain⟨x,hx,rfl⟩:=Option.map_eq_some_iff.1 hj;rw [List.getElem?_take]at hx;split at hx
 ·rw [List.getElem?_drop]at hx;exact⟨x,hx,rfl⟩
 ·cases hx
theorem avG:(prog.info? 5).map (fun i=>(i.zero,i.size,i.bytes))=some (some (.int .u8 0),1,1):=by kernel_rfl
theorem aMZ(I:Is Γ D)(hk:b.kind≠.early)(hW:Wk Γ D V w)(h0':0<=no)(N0:D.lo no<D.len Γ.me)(hn6:ba V w n (.cells #[.int .i64 (D.lo no),.int .i64 (D.hi Γ.me no)] 32 (0,0)))
  (jV:V.wc ⟨cc,1,none⟩)(jz:(w.cell? ⟨cc,1,none⟩).isSome=true)(hblk:∃cs,w.heap[cc]? =some (.cells cs 136 (0,0)))
  (hs:a.tmps.size=69)(h0:a.eval (.tmp 0)=.pointer (some ⟨Γ.src Γ.me,0,none⟩))(h2:a.eval (.tmp 2)=.pointer (some ⟨cc,0,none⟩))(h6:a.eval (.tmp 6)=.pointer (some ⟨n,0,none⟩))
  (K:∀g cap a' V' w',a'.tmps.size=69->a'.defers=a.defers->a'.eval (.tmp 0)=.pointer (some ⟨Γ.src Γ.me,0,none⟩)->a'.eval (.tmp 2)=.pointer (some ⟨cc,0,none⟩)->a'.eval (.tmp 6)=.pointer (some ⟨n,0,none⟩)->
   w.heap.size<=g->aG aI (fun ad=>ad.block=cc/\ad.off=1) V w V' w'->Row V' w' 5 1 (.slice (some ⟨g,0,none⟩) (D.dC Γ.me no).length cap) (D.dC Γ.me no).length (D.dC Γ.me no)->Cl V' w' ⟨cc,1,none⟩ (.slice (some ⟨g,0,none⟩) (D.dC Γ.me no).length cap)->Tidy V' w'->
   Loc prog false Stop V' (G (b.at a' k) cs) w'):
  Loc prog false Stop V (G (b.at a (.code acX::k)) cs) w:=by
 have hS:=bh (P:=prog) (main:=false) hk;have hT:=hW.tidy;obtain⟨a1,a2,a3⟩:=akn I.ok (k:=Γ.me) h0' N0;have hvl:=avF I.ok (k:=Γ.me) h0' N0;have a4F:=I.ok.cap Γ.me;have a4G:=I.ok.len Γ.me;have hlen:D.len Γ.me=((D.iH Γ.me).length:Int):=rfl;obtain⟨bb,oo,hbs⟩:=I.ok.bs Γ.me fun e=>by rw [e]at hlen;simp at hlen;omega
 obtain⟨L,hL⟩:∃L:Nat,D.lo no=(L:Int):=⟨(D.lo no).toNat,by omega⟩
 obtain⟨H,hH⟩:∃H:Nat,D.hi Γ.me no=(H:Int):=⟨(D.hi Γ.me no).toNat,by omega⟩
 rw [hL,hH]at hvl hn6;simp only [Int.toNat_natCast]at hvl;have dZ:0<(D.dC Γ.me no).length:=by omega
 obtain⟨i5,hi5,hz5,hs5,NO⟩:=info_parts avG;refine Ez hS aRr [22,23,24,25,26,27,28,29,30,31,32,33,34] [.val (.pointer (some ⟨cc,0,none⟩)),.val (.pointer (some ⟨Γ.src Γ.me,0,none⟩)),.val (.pointer (some ⟨Γ.src Γ.me,0,none⟩)),.val (.pointer (some ⟨Γ.src Γ.me,0,none⟩)),.val (.slice (some ⟨bb,oo,none⟩) (D.iH Γ.me).length (D.cp Γ.me)),.val (.pointer (some ⟨n,0,none⟩)),.val (.int .i64 (L:Int)),.val (.pointer (some ⟨n,1,none⟩)),.val (.int .i64 (H:Int)),.val (.slice (some (if D.cp Γ.me=L then⟨bb,oo,none⟩else⟨bb,oo+L*1,none⟩)) (H-L) (D.cp Γ.me-L)),.own 5 1 (D.dC Γ.me no).length (D.dC Γ.me no) w.heap.size,.val (.pointer (some ⟨cc,0,none⟩)),.val (.pointer (some ⟨cc,1,none⟩))] [(0,.pointer (some ⟨Γ.src Γ.me,0,none⟩)),(2,.pointer (some ⟨cc,0,none⟩)),(6,.pointer (some ⟨n,0,none⟩))] 13 rfl (by kernel_rfl) pv.a (by kernel_rfl) rfl rfl (by decide) (by simp) (fun a' V' w'=>∃g cap,a'.tmps.size=69/\a'.defers=a.defers/\a'.eval (.tmp 0)=.pointer (some ⟨Γ.src Γ.me,0,none⟩)/\a'.eval (.tmp 2)=.pointer (some ⟨cc,0,none⟩)/\a'.eval (.tmp 6)=.pointer (some ⟨n,0,none⟩)/\w.heap.size<=g/\aG aI (fun ad=>ad.block=cc/\ad.off=1) V w V' w'/\Row V' w' 5 1 (.slice (some ⟨g,0,none⟩) (D.dC Γ.me no).length cap) (D.dC Γ.me no).length (D.dC Γ.me no)/\Cl V' w' ⟨cc,1,none⟩ (.slice (some ⟨g,0,none⟩) (D.dC Γ.me no).length cap)/\Tidy V' w') (by simp [h0,h2,h6]) hT ?_ ?_ ?_
 ·intro i d s o rest hi aV aZ ho aa VV ww hB hI K;match i,hi with
  |0,_=>
   cases aV;cases aZ;obtain rfl:=Jr.w ho;have h2:=hB.sl 2 rfl;exact cU Jr hS hB hs (af Jr.o h2) K
  |1,_=>
   cases aV;cases aZ;obtain rfl:=Js.w ho;have h0:=hB.sl 0 rfl;exact cU Js hS hB hs (af Js.o h0) K
  |2,_=>
   cases aV;cases aZ;obtain rfl:=Jt.w ho;have ga:=hI.av 1;exact cU Jt hS hB hs (bE Jt.o ga) K
  |3,_=>
   cases aV;cases aZ;obtain rfl:=Ju.w ho;have oi:=hI.av 2;exact cU Ju hS hB hs (aB Ju.o oi underlying61 rfl sizeOf25 (by decide) rfl) K
  |4,_=>
   cases aV;cases aZ;obtain rfl:=Jv.w ho;have o9:=hI.av 3;exact cU Jv hS hB hs (aL Jv.o o9 isAgg25 (by have:=(hW.src.obj.go hB.aC).cK;unfold cY.obj at this;rwa [hbs]at this)) K
  |5,_=>
   cases aV;cases aZ;obtain rfl:=Jw.w ho;have h6:=hB.sl 6 rfl;exact cU Jw hS hB hs (aB Jw.o h6 underlying32 rfl sizeOf2 (by decide) rfl) K
  |6,_=>
   cases aV;cases aZ;obtain rfl:=Jx.w ho;have dT:=hI.av 5;exact cU Jx hS hB hs (aL Jx.o dT isAgg2 ((hn6.go hB.aC).cK rfl)) K
  |7,_=>
   cases aV;cases aZ;obtain rfl:=Jy.w ho;have h6:=hB.sl 6 rfl;exact cU Jy hS hB hs (aB Jy.o h6 underlying32 rfl sizeOf2 (by decide) rfl) K
  |8,_=>
   cases aV;cases aZ;obtain rfl:=Jz.w ho;have fc:=hI.av 7;exact cU Jz hS hB hs (aL Jz.o fc isAgg2 ((hn6.go hB.aC).cK rfl)) K
  |9,_=>
   cases aV;cases aZ;obtain rfl:=JA.w ho;have fe:=hI.av 4;have cI:=hI.av 6;have eK:=hI.av 8;exact cU JA hS hB hs (ab3 JA.o fe cI eK underlying25 sizeOf5 (by omega) (by omega)) K
  |10,_=>
   cases aV;cases aZ;obtain rfl:=pt.w ho;have lg:=hI.av 9;rw [if_neg (by omega)]at lg
   refine QL pt.a pt.f hS pt.d (by rw [hB.size,hs];decide) hB.tidy pt.o rfl lg underlying25 hi5 hz5 hs5 rfl (by decide) (Row.nil VV ww 5 1) (news:=D.dC Γ.me no) (by omega) (fun j u hj=>?_) (fun u hu=>?_) (by simp only [maxLen];omega) (by rw [NO];omega) fun v' a' V' w' e1 e2 e3 e4 e5 e6 e7 e8=>K a' V' w' e1 e2 e3 (e5.mono (fun b h=>by cases h) fun _ h=>h) e8 ?_
   ·obtain⟨x,hx,rfl⟩:=Ur I.ok h0' N0 hj;rw [hL]at hx;have:=((hW.src.bytes bb oo hbs _ x hx).go hB.aC).cK;rw [Addr.add_lit];simpa [Nat.add_assoc]using this
   ·obtain⟨j,hj⟩:=List.mem_iff_getElem?.1 hu;obtain⟨x,_,rfl⟩:=Ur I.ok h0' N0 hj;rfl
   ·rw [e4];refine⟨by simpa [hvl]using e6,fun g hg=>?_⟩
    rcases e7 g hg with x|x
    ·cases x
    ·exact Nat.le_trans hB.aC.size x
  |11,_=>
   cases aV;cases aZ;obtain rfl:=C4.w ho;have kE:=hI.av 0;exact cU C4 hS hB hs (bE C4.o kE) K
  |12,_=>
   cases aV;cases aZ;obtain rfl:=C5.w ho;have bJ:=hI.av 11;exact cU C5 hS hB hs (aB C5.o bJ underlying136 rfl sizeOf25 (by decide) rfl) K
  |n+13,hn=>exact absurd hn (by omega)
 ·intro rest aa VV ww hB hI K;have bG:=hI.all 10 32 (.own 5 1 (D.dC Γ.me no).length (D.dC Γ.me no) w.heap.size) (by decide) rfl rfl
  have cQ:aa.eval (.tmp 34)=(.pointer (some ⟨cc,1,none⟩)):=hI.all 12 34 (.val (.pointer (some ⟨cc,1,none⟩))) (by decide) rfl rfl
  obtain⟨ir,Hq⟩:=bG;generalize hx:aa.eval (.tmp 32)=x at ir Hq;rcases ir.1.2 with ⟨rfl,hz⟩|⟨g,cap,cur,rfl,r1,r2,r3⟩
  ·omega
  have hT':=hB.tidy;refine I1 pv.a pv.f hS pv.d pv.o cQ hx (vs:=[.slice (some ⟨g,0,none⟩) (D.dC Γ.me no).length cap]) rfl sizeOf25 (fun u hu=>by simp at hu;subst hu;rfl) (fun j hj=>?_) ?_ hT' fun w' e1 e2 e3 e4=>K _ _ _ ⟨g,cap,hB.size.trans hs,hB.defers,hB.slot 0 _ (by simp),hB.slot 2 _ (by simp),hB.slot 6 _ (by simp),Hq g rfl,?_,ir.go e1,?_,e3⟩
  ·have:j=0:=by simp at hj;exact hj
   subst this;refine⟨by rw [hB.aC.wc];exact jV,?_⟩
   show(ww.cell? ⟨cc,1,none⟩).isSome=true
   rw [hB.aC.cell _ (.inr jV) id];exact jz
  ·obtain⟨c0,Fo⟩:=hblk;obtain⟨c1,hc1,_⟩:=hB.aC.kind _ _ _ _ Fo;exact⟨c1,_,hc1⟩
  ·refine(hB.aC.mono (fun _ h=>h) fun _ h=>h.elim).trans (e1.mono (fun _ h=>h) fun ad h=>?_);obtain⟨x1,x2,x3⟩:=h;simp at x3;exact⟨x1,by omega⟩
  ·exact e2 0 _ rfl
 ·skip;rintro a' V' w' ⟨g,cap,e1,e2,e3,e4,e5,e6,e7,e8,e9,Vx⟩;exact K g cap a' V' w' e1 e2 e3 e4 e5 e6 e7 e8 e9 Vx
end
section
variable {D:cY} {l:List Int}
theorem aV0(h:lH Γ D)(h0:0<=no)(h1:D.lo no<D.len k):Rg.Norm [⟨D.lo no,D.hi k no⟩]:=by
 obtain⟨a1,a2,a3⟩:=akn h (k:=k) h0 h1;have:=h.len k;have e:D.len k=((D.iH k).length:Int):=rfl;exact Rg.Ev ⟨a1,a2,by show D.hi k no<=4611686018427387904;omega⟩
theorem avH(h:lH Γ D)(h0:0<=no)(h1:D.lo no<D.len k):Rg.nG [⟨D.lo no,D.hi k no⟩]=[⟨D.lo no,D.hi k no⟩]:=Rg.azA (aV0 h h0 h1)
theorem kZ:∀l,Rg.Norm (D.cX k l)
 |[]=>Rg.kT
 |_::_=>Rg.Nu _ _
theorem rF(h:lH Γ D):∀(l:List Int),D.In k l->∀x,Rg.Mem (D.cX k l) x↔∃no∈l,D.lo no<=x/\x<D.hi k no
 |[],_,x=>by simp [cY.cX,Rg.rC]
 |no::l,hl,x=>by
  have h1:=hl no (by simp)
  rw [cY.cX,Rg.avq (kZ l) (Rg.lG _),rF h l (fun n hn=>hl n (by simp [hn])),avH h h1.1 h1.2,Rg.mem_cons]
  simp only [Rg.rC,or_false,List.mem_cons];constructor
  ·rintro(⟨n,hn,y⟩|y)
   ·exact⟨n,.inr hn,y⟩
   ·exact⟨no,.inl rfl,y⟩
  ·rintro⟨n,rfl|hn,y⟩
   ·exact .inr y
   ·exact .inl ⟨n,hn,y⟩
theorem tw:∀(l:List Rg.Sp) (b B:Int),Rg.Norm l->(∀s∈l,b<=s.f/\s.t<=B)->b<=B->(l.length:Int)<=B-b
 |[],b,B,_,_,hb=>by simp;omega
 |s::l,b,B,hn,hs,hb=>by
  obtain⟨h1,h2,h3⟩:=Rg.iY.1 hn;have h4:=hs s (by simp)
  have h5:s.f<s.t:=h1.2.1;have:=tw l s.t B h3 (fun u hu=>⟨Int.le_of_lt (h2 u hu),(hs u (by simp [hu])).2⟩) h4.2
  simp only [List.length_cons,Int.natCast_add,Int.natCast_one];omega
theorem GL(h:lH Γ D)(hl:D.In k l):(D.cX k l).length<=60:=by
 have hn:=kZ (D:=D) (k:=k) l;have hlen:=h.len k;have e:D.len k=((D.iH k).length:Int):=rfl;have:=tw (D.cX k l) 0 60 hn (fun s hs=>by
  have ok:=hn.1 s hs;have o1:0<=s.f:=ok.1;have o2:s.f<s.t:=ok.2.1;refine⟨o1,?_⟩;have hm:Rg.Mem (D.cX k l) (s.t-1):=⟨s,hs,by omega,by omega⟩
  obtain⟨n,CY,_,y⟩:=(rF h l hl _).1 hm;obtain⟨a1,a2,a3⟩:=akn h (k:=k) (hl n CY).1 (hl n CY).2;omega) (by omega)
 omega
theorem GM(h:lH Γ D)(hl:D.In k l)(h0:0<=no)(h1:D.lo no<D.len k)(dS:no∉l):Rg.od (D.cX k l) (Rg.nG [⟨D.lo no,D.hi k no⟩])=[]:=by
 refine Rg.qI (Rg.Ew _ _) Rg.kT fun x=>?_;rw [Rg.akg (kZ l) (Rg.lG _),rF h l hl,avH h h0 h1,Rg.mem_cons];simp only [Rg.rC,or_false,iff_false];rintro⟨⟨n,hn,y1,y2⟩,z1,z2⟩;have hu:1<=D.u:=by rcases h.u with x|x|x|x|x<;>rw [x]<;>decide
 have cM:n≠no:=fun e=>dS (e▸hn);unfold cY.lo cY.hi at*;have y3:x<(n+1)*D.u:=by omega
 have z3:x<(no+1)*D.u:=by omega
 rcases Int.lt_or_gt_of_ne cM with q|q
 ·have:=Int.mul_le_mul_of_nonneg_right (show n+1<=no by omega) (show 0<=D.u by omega)
  omega
 ·have:=Int.mul_le_mul_of_nonneg_right (show no+1<=n by omega) (show 0<=D.u by omega)
  omega
theorem avI(h:lH Γ D)(hl:D.In k l)(h0:0<=no)(h1:D.lo no<D.len k)(dS:no∉l):Rg.Uq (Rg.od (D.cX k l) (Rg.nG [⟨D.lo no,D.hi k no⟩]))=0:=by rw [GM h hl h0 h1 dS];rfl
end
end Go.Proofs.YtmcddajniiaieaaGreatDoor
namespace Go.Proofs.YtmcddajniiaieaaGreatDoor
open Go.Proofs.Tryz Go.Shelf
def GN:Go.Shelf.Ren:=⟨fun|6=>16|15=>30|14=>29|28=>65|29=>66|20=>57|21=>58|22=>59|23=>60|24=>61|25=>62|26=>63|27=>64|46=>78|47=>79|48=>80|49=>81|50=>82|57=>92|n=>n,fun|22=>37|24=>32|25=>67|3=>3|39=>90|0=>0|53=>54|55=>81|4=>4|46=>118|45=>117|50=>122|5=>5|9=>9|66=>139|70=>142|76=>152|77=>153|n=>n,fun|n=>n⟩
theorem aDt:Go.Proofs.SlLaysF0.n6 prog GN:={
 mixed:=by kernel_rfl
 f6:=⟨Tryz.f16.name,by decide,func16.trans (congrArg some (by kernel_rfl))⟩
 f14:=⟨Tryz.f29.name,by decide,func29.trans (congrArg some (by kernel_rfl))⟩
 f15:=func30.trans (congrArg some (by kernel_rfl))
 f20:=⟨Tryz.f57.name,by decide,func57.trans (congrArg some (by kernel_rfl))⟩
 f21:=⟨Tryz.f58.name,by decide,func58.trans (congrArg some (by kernel_rfl))⟩
 f22:=⟨Tryz.f59.name,by decide,func59.trans (congrArg some (by kernel_rfl))⟩
 f23:=⟨Tryz.f60.name,by decide,func60.trans (congrArg some (by kernel_rfl))⟩
 f24:=⟨Tryz.f61.name,by decide,func61.trans (congrArg some (by kernel_rfl))⟩
 f25:=⟨Tryz.f62.name,by decide,func62.trans (congrArg some (by kernel_rfl))⟩
 f26:=⟨Tryz.f63.name,by decide,func63.trans (congrArg some (by kernel_rfl))⟩
 f27:=⟨Tryz.f64.name,by decide,func64.trans (congrArg some (by kernel_rfl))⟩
 f28:=func65.trans (congrArg some (by kernel_rfl))
 f29:=func66.trans (congrArg some (by kernel_rfl))
 f46:=⟨Tryz.f78.name,by decide,func78.trans (congrArg some (by kernel_rfl))⟩
 f47:=func79.trans (congrArg some (by kernel_rfl))
 f48:=func80.trans (congrArg some (by kernel_rfl))
 f49:=⟨Tryz.f81.name,by decide,func81.trans (congrArg some (by kernel_rfl))⟩
 f50:=⟨Tryz.f82.name,by decide,func82.trans (congrArg some (by kernel_rfl))⟩
 f57:=⟨Tryz.f92.name,by decide,func92.trans (congrArg some (by kernel_rfl))⟩
 t0:=underlying0
 a0:=isAgg0
 z0:=sizeOf0
 v0:=Tryz.zeroValue0
 t3:=underlying3
 a3:=isAgg3
 z3:=sizeOf3
 v3:=Tryz.zeroValue3
 t4:=underlying4
 a4:=isAgg4
 z4:=sizeOf4
 v4:=Tryz.zeroValue4
 t5:=underlying5
 a5:=isAgg5
 z5:=sizeOf5
 v5:=Tryz.zeroValue5
 t9:=underlying9
 a9:=isAgg9
 z9:=sizeOf9
 v9:=Tryz.zeroValue9
 t22:=underlying37
 a22:=isAgg37
 z22:=sizeOf37
 v22:=Tryz.zeroValue37
 t25:=underlying67
 a25:=isAgg67
 z25:=sizeOf67
 v25:=Tryz.zeroValue67
 t39:=underlying90
 a39:=isAgg90
 z39:=sizeOf90
 v39:=Tryz.zeroValue90
 t45:=underlying117
 a45:=isAgg117
 z45:=sizeOf117
 v45:=Tryz.zeroValue117
 t46:=underlying118
 a46:=isAgg118
 z46:=sizeOf118
 v46:=Tryz.zeroValue118
 t50:=underlying122
 a50:=isAgg122
 z50:=sizeOf122
 v50:=Tryz.zeroValue122
 t53:=underlying54
 a53:=isAgg54
 z53:=sizeOf54
 v53:=Tryz.zeroValue54
 t55:=underlying81
 a55:=isAgg81
 z55:=sizeOf81
 v55:=Tryz.zeroValue81
 t66:=underlying139
 a66:=isAgg139
 z66:=sizeOf139
 v66:=Tryz.zeroValue139
 t70:=underlying142
 a70:=isAgg142
 z70:=sizeOf142
 v70:=Tryz.zeroValue142
 t76:=underlying152
 a76:=isAgg152
 z76:=sizeOf152
 v76:=Tryz.zeroValue152
 t77:=underlying153
 a77:=isAgg153
 z77:=sizeOf153
 v77:=Tryz.zeroValue153}
def avJ:Go.Shelf.Ren:=⟨fun|5=>18|7=>31|n=>n,fun|22=>2|3=>3|4=>4|n=>n,fun|n=>n⟩
theorem aZO:Go.Proofs.SlLaysC2.n5 prog avJ:={
 mixed:=by kernel_rfl
 f5:=⟨Tryz.f18.name,by decide,func18.trans (congrArg some (by kernel_rfl))⟩
 f7:=⟨Tryz.f31.name,by decide,func31.trans (congrArg some (by kernel_rfl))⟩
 t3:=underlying3
 a3:=isAgg3
 z3:=sizeOf3
 v3:=Tryz.zeroValue3
 t4:=underlying4
 a4:=isAgg4
 z4:=sizeOf4
 v4:=Tryz.zeroValue4
 t22:=underlying2
 a22:=isAgg2
 z22:=sizeOf2
 v22:=Tryz.zeroValue2}
end Go.Proofs.YtmcddajniiaieaaGreatDoor
namespace Go.Proofs.YtmcddajniiaieaaGreatDoor.Rg
open Go.Proofs.Tryz Go.RowKit Go.Sort
theorem Fp(x y:Sp)(W:World):Calls prog 17 #[.agg x.cells.toArray,.agg y.cells.toArray] W fun e w'=>e=.returned (.int .i64 (Lib.compareInt x.f y.f))/\∃q os',w'=grow (W.drewN q) os':=by
 have ZR:=fun W'=>AnyG.cmp_Compare_int aZO x.f y.f W';change ∀W',Calls prog 18 _ _ _ at ZR;generalize Lib.compareInt x.f y.f=r at ZR⊢;change Calls prog 17 #[.agg #[.int .i64 x.f,.int .i64 x.t],.agg #[.int .i64 y.f,.int .i64 y.t]] W _;go_enter func17,ntmps17;go_wp2_with (go_at_call 18;refine(ZR _).mono ?_;rintro e w' ⟨rfl,rfl⟩);go_ret;exact⟨rfl,0,_,by rw [alloc_eq_grow,alloc_eq_grow,grow_grow];rfl⟩
theorem ltF(x y:Sp):ltOf (fun x y:Sp=>Lib.compareInt x.f y.f) x y=decide (x.f<y.f):=by
 unfold ltOf Lib.compareInt;by_cases h1:x.f<y.f
 ·simp [h1]
 ·by_cases h2:y.f<x.f<;>simp [h1,h2]
theorem aZP:SWO (ltOf fun x y:Sp=>Lib.compareInt x.f y.f) where
 irrefl x:=by rw [ltF];simp
 trans x y z h1 h2:=by rw [ltF]at*;simp at*;omega
 ntrans x y z h1 h2:=by rw [ltF]at*;simp at*;omega
theorem alT{w:World}{base:Nat}{e:TypeId}{g c:Nat}{L:List Sp}(h:w.ownsRow base e 2 (.slice (some ⟨g,0,none⟩) L.length c) L.length (ef L)):HoldsK Sp.cells 2 w g 0 L.toArray:=fun j hj=>by
 have lO:j<L.length*2:=by simpa using hj
 have hk:j/2<L.length:=by omega
 refine⟨?_,?_⟩
 ·rw [get_flatK _ _ _ _ (by simpa using lO),Nat.zero_add,h.cellAt _ lO]
  have hjj:j=j/2*2+j % 2:=by omega
  have hg:=yc L (j/2) (j % 2) hk (by omega)
  rw [←hjj]at hg;rw [hg];have e1:L.toArray[j/2]! =L[j/2]:=by simp [hk]
  rw [e1];have hl:j % 2<(Sp.cells (L[j/2]'hk)).length:=by show j % 2<2;omega
  rw [List.getElem?_eq_getElem hl,getElem!_pos (Sp.cells L[j/2]) (j % 2) hl];rfl
 ·exact h.frozenAt _
theorem alU{w:World}{g:Nat}{d:Array Sp}(h:HoldsK Sp.cells 2 w g 0 d):rQ w (some ⟨g,0,none⟩) d.toList:=fun k hk=>by
 have cm:k<d.size:=by simpa using hk
 have h0:=(h (k*2) (by simp;omega)).1
 have h1:=(h (k*2+1) (by simp;omega)).1
 rw [get_flatK _ _ _ _ (by omega)]at h0 h1
 have e0:k*2/2=k:=by omega
 have e1:(k*2+1)/2=k:=by omega
 have r0:k*2 % 2=0:=by omega
 have r1:(k*2+1) % 2=1:=by omega
 have ed:d[k]! =d.toList[k]:=by simp [cm]
 rw [e0,r0,ed]at h0;rw [e1,r1,ed]at h1;exact⟨g,0,rfl,h0,h1⟩
theorem avK{w0 w:World}{g off n:Nat}(h:Ext w0 w)(hg:w0.heap.size<=g)(d':Array Sp)(os:Array Obj):Ext w0 (sortWorldK Sp.cells 2 w g off n d' os):=by
 unfold sortWorldK;have e:(putRowK Sp.cells 2 (Sort.ahead w n) g off d').heap.size=w.heap.size:=size_putRowK _ _ _ _ _ _;refine⟨h.os,h.tape,h.output,?_,fun k hk=>?_⟩
 ·show w0.heap.size<=(_++os).size
  rw [Array.size_append,e];exact Nat.le_trans h.size (Nat.le_add_right _ _)
 ·have hk2:k<w.heap.size:=Nat.lt_of_lt_of_le hk h.size;show(_++os)[k]? =_
  rw [Array.getElem?_append_left (by rw [e];exact hk2)]
  show((Sort.ahead w n).heap.modify g _)[k]? =_
  rw [Array.getElem?_modify,if_neg (by omega)]
  exact Below.block h k hk
def avL(w0:World)(A:Option Addr)(L:List Sp)(e:Ending)(w':World):Prop:=∃L':List Sp,L'.Perm L/\yb L'/\e=.returned (.tuple #[])/\rQ w' A L'/\Ext w0 w'
theorem ZS(w0:World)(A:Option Addr)(c:Nat)(L:List Sp)(w:World)(hx:Ext w0 w)(h:w.ownsRow w0.heap.size 32 2 (.slice A L.length c) L.length (ef L))(hl:L.length<=1000000):
  Calls prog 16 #[.slice A L.length c,.func (.func 17) #[] #[]] w (avL w0 A L):=by
 rcases Nat.eq_zero_or_pos L.length with h0|h0
 ·obtain rfl:=List.eq_nil_of_length_eq_zero h0;have ZR:=AnyF.slices_SortFunc_none (P:=prog) (ρ:=GN) {aDt with} A c (.func (.func 17) #[] #[]) w
  exact ZR.mono fun e w' ⟨he,hw⟩=>⟨[],List.Perm.refl _,List.Pairwise.nil,he,rQ.nil _ _,by rw [hw];exact hx⟩
 ·obtain⟨g,cap,hv,_,aU⟩:=h.form h0;cases hv;have hg:w0.heap.size<=g:=Ex h rfl;have eg:∀args w,(callFunc 17 args).run prog w=.ok (.enter 17 args) w:=enters_of func17 (by kernel_rfl) rfl
  have hH:=alT h;have ZR:=AnyQ.slices_SortFunc aDt 2 isAgg32 sizeOf32 Sp.cells (fun _=>rfl) (fun x v hv=>by simp [Sp.cells]at hv;rcases hv with rfl|rfl<;>rfl) (fun x y=>Lib.compareInt x.f y.f) aZP 17 #[] g 0 c L.toArray w eg (fun _ _ _ _ x y=>Fp x y _) hH (by simpa using aU) (by simp;omega)
  refine ZR.mono ?_;rintro e w' ⟨he,d',n,os,hp,hs,rfl⟩;obtain⟨BW,_,hp⟩:=hp;have fO:d'.size=L.length:=by simpa using BW
  refine⟨d'.toList,?_,?_,he,?_,avK hx hg d' os⟩
  ·have e1:d'.extract 0 L.toArray.size=d':=by rw [←BW];simp
   have e2:L.toArray.extract 0 L.toArray.size=L.toArray:=by simp
   rw [e1,e2]at hp;simpa using hp
  ·refine List.pairwise_iff_getElem.2 fun i j hi hj hij=>?_;have ou:i<d'.size:=by simpa using hi
   have lO:j<d'.size:=by simpa using hj
   have:=hs i j (Nat.zero_le _) hij (by simp;omega)
   rw [ltF,getElem!_pos d' i ou,getElem!_pos d' j lO]at this;simp at this⊢;exact this
  ·exact alU (holdsK_sortWorldK_c Sp.cells 2 w g 0 L.toArray d' n os hH (by simpa using aU) BW)
def jJ(s:Sp):Bool:=dJ s.f s.t&&decide (s.f<s.t)
theorem azK(s:Sp):jJ s=decide s.ok:=by
 rw [Bool.eq_iff_iff,decide_eq_true_eq];unfold jJ dJ Sp.ok;simp only [Bool.and_eq_true,decide_eq_true_eq];constructor
 ·rintro⟨⟨⟨a,b⟩,c⟩,d⟩;exact⟨a,d,c⟩
 ·rintro⟨a,b,c⟩;exact⟨⟨⟨a,by omega⟩,c⟩,b⟩
set_option maxHeartbeats 1000000 in
set_option maxRecDepth 100000 in
theorem EB(A:Option Addr)(c:Nat)(l:List Sp)(w:World)(h:rQ w A l)(hl:l.length<=1000000):
  Calls prog 9 #[.slice A l.length c] w (Bz w (nG l)):=by
 go_enter func9,ntmps9;go_wp2;have hx0:Ext w (w.alloc (.cells #[.slice none 0 0] 39)):=(Ext.refl w).alloc _;have c0:(w.alloc (.cells #[.slice none 0 0] 39)).cell? ⟨w.heap.size,0,none⟩=some (.slice none 0 0):=by simp
 have f0:(w.alloc (.cells #[.slice none 0 0] 39)).frozen? ⟨w.heap.size,0,none⟩=false:=by simp [go_sem]
 have z0:w.heap.size<(w.alloc (.cells #[.slice none 0 0] 39)).heap.size:=by simp
 replace h:=h.ext hx0;generalize (w.alloc (.cells #[.slice none 0 0] 39))=w1 at*;go_loopw [3,8] (fun v i wr=>∃k:Nat,k<=l.length/\i=.int .i64 k/\wr.ownsRow w1.heap.size 32 2 v ((l.take k).filter jJ).length (ef ((l.take k).filter jJ))/\Ext w1 wr) (fun _ i _=>l.length-(intOf i).toNat);case atStart=>exact⟨0,Nat.zero_le _,rfl,World.ownsRow_nil _ _ _ _,Ext.refl w1⟩
 case round=>
  obtain⟨k,hk,rfl,cd,hx⟩:=hrel;by_cases aU:k<l.length
  ·obtain⟨b,o,rfl,p0,p1⟩:=h.ext hx k aU;have hts:(l.take (k+1)).filter jJ=(l.take k).filter jJ++if jJ l[k]then [l[k]]else []:=by
    rw [List.take_succ_eq_append_getElem aU,List.filter_append];cases hg:jJ l[k]<;>simp [hg]
   have hlen:((l.take k).filter jJ).length<=k:=Nat.le_trans (List.length_filter_le _ _) (List.length_take_le _ _);generalize l[k]=s at*;generalize (l.take k).filter jJ=L at*;have HT:=Lib.hid hts;have hb0:=hx.size;clear hts h c0 f0 z0;go_wp2_with fail;refine(gT _ _ _).mono ?_;rintro e w2 ⟨rfl,gM⟩;have d0:w2.cell? ⟨wr.heap.size,0,none⟩=some (.int .i64 s.f):=gM.cell (by simp)
   have d1:w2.cell? ⟨wr.heap.size,1,none⟩=some (.int .i64 s.t):=gM.cell (by simp)
   have tv:=hx.trans (((Ext.refl wr).alloc (.cells #[.int .i64 s.f,.int .i64 s.t] 32)).trans gM);have bK:=ck cd (((Ext.refl wr).alloc (.cells #[.int .i64 s.f,.int .i64 s.t] 32)).trans gM);have hg:jJ s=(dJ s.f s.t&&decide (s.f<s.t)):=rfl;have HG:=Lib.hid hg;have yn:=tv.size;obtain⟨V,cv,rfl,_⟩:=iX bK;clear cd gM p0 p1 hg hx hb0;cases eR:dJ s.f s.t
   ·have HG2:Hid (jJ s=false):=by rw [HG.out,eR];rfl
    clear HG;go_wp2;go_roundw;case rel=>exact⟨k+1,by omega,by go_num,by rw [HT.out,HG2.out];simpa using bK,tv⟩
    case measure=>simp [intOf];omega
   ·cases eL:decide (s.f<s.t)
    ·have HG2:Hid (jJ s=false):=by rw [HG.out,eL,eR];rfl
     have e3:¬s.f<s.t:=by simpa using eL
     clear HG eL;go_wp2;go_roundw;case rel=>exact⟨k+1,by omega,by go_num,by rw [HT.out,HG2.out];simpa using bK,tv⟩
     case measure=>simp [intOf];omega
    ·have HG2:Hid (jJ s=true):=by rw [HG.out,eL,eR];rfl
     have e3:s.f<s.t:=by simpa using eL
     clear HG eL;go_wp2_with (at_builtin;refine bX _ rfl _ _ 37 rfl w1.heap.size 32 _ 2 16 underlying37 dY rfl (by omega) _ _ _ rfl bK 1 1 _ (by simp) _ rfl rfl (by simp [Value.oneCell']) (by simp [maxLen];omega) (by omega) yn ?_;intro v3 w3 iy hm)
     have hx4:=fX tv bK hm;go_roundw;case rel=>exact⟨k+1,by omega,by go_num,by rw [HT.out,HG2.out,if_pos rfl,cu,eX,List.length_append];exact iy,hx4⟩
     case measure=>simp [intOf];omega
  ·obtain rfl:k=l.length:=by omega
   rw [List.take_length]at cd;obtain⟨V,cv,rfl,_⟩:=iX cd;have hlen:=List.length_filter_le jJ l;have dH:∀s,s∈l.filter jJ↔s∈l/\s.ok:=fun s=>by rw [List.mem_filter,azK,decide_eq_true_eq]
   have HO:=Lib.hid dH;generalize l.filter jJ=L at*;have k0:=hx.cell c0;have z1:=Nat.lt_of_lt_of_le z0 hx.size;have kf:=(hx.frozen (p:=⟨w.heap.size,0,none⟩) (by simpa using z0)).trans f0
   clear h dH;go_wp2_with fail;refine(ZS w1 V cv L _ hx cd (by omega)).mono ?_
   rintro e w2 ⟨L',hp,hr,rfl,hs,gM⟩;have hlp:=hp.length_eq;have hgc:=xa V cv L' w2 hs (by omega)
   have hG:mJ L'=nG l:=aki (fun s h=>((HO.out s).1 (hp.mem_iff.1 h)).2) hr (fun s=>hp.mem_iff.trans (HO.out s));rw [hlp,hG]at hgc;have HC:=Lib.hid hgc;have k1:=gM.cell c0;have kg:=(gM.frozen (p:=⟨w.heap.size,0,none⟩) (by simpa using z0)).trans f0
   have tv:=hx0.trans gM;have aZR:=gM.size;clear hgc hlp hG hp hr hs HO cd k0 kf hlen hx gM c0 f0;go_wp2_with fail;refine HC.out.mono ?_;rintro e w5 ⟨v5,rfl,xc,hx5⟩;obtain⟨A5,c5,rfl,_⟩:=iX xc;have z2:w.heap.size<w2.heap.size:=Nat.lt_of_lt_of_le z0 aZR;have k3:=hx5.cell k1;have kf:w5.frozen? ⟨w.heap.size,0,none⟩=false:=(hx5.frozen (by exact z2)).trans kg
   clear k1 kg HC;generalize nG l=R at*;go_wp2;refine bodyPost_ret (v:=.agg #[.slice A5 R.length c5]) (by simp [results,results9,go_sem,k3]) rfl ⟨A5,c5,rfl,Lib.hid ?_,Lib.hid (Bx xc tv.size),?_⟩
   ·exact Bv xc (by exact z2) _
   ·exact(tv.trans hx5).setCell (Nat.le_refl _) _
end Go.Proofs.YtmcddajniiaieaaGreatDoor.Rg
namespace Go.Proofs.YtmcddajniiaieaaGreatDoor
open Go Go.Conc Go.ConcM Go.Proofs.Tryz
variable {Γ:Rc} {b:Frame} {k:List Item} {cs:List Frame} {n cc ch s r cl:Nat} {C C':Nat->Prop} {l:List Rg.Sp} {f0 no:Int} {c:xp} {e:En} {γ:Gh} {ad:Addr} {xs:List Value} {w1 w2 w3 w':World} {tm:Bool} {es:Array MapEntry} {x0 x1 x2 x7:Value}
section
variable {Stop:View->Goroutine->World->Prop} {V:View} {w:World} {a:Act} {v:Value} {t0:Int}
theorem akp{g:Nat}(h:ba V w g (.cells #[.int .i64 f0,.int .i64 t0] 32 (0,0))):Rg.rQ w (some ⟨g,0,none⟩) [⟨f0,t0⟩]:=fun j hj=>by
 have:j=0:=by simp at hj;exact hj
 subst this;exact⟨g,0,rfl,by simp [World.cell?,h.2],by simp [World.cell?,h.2]⟩
theorem GO(f0 t0:Int):Instr.fill (fun i=>some (i*2,2)) ((Array.range (1*2)).map fun i=>(Value.agg #[.int .i64 0,.int .i64 0]).cells[i % (Value.agg #[.int .i64 0,.int .i64 0]).cells.size]!) [(0,.agg #[.int .i64 f0,.int .i64 t0])]=some #[.int .i64 f0,.int .i64 t0]:=by
 simp [go_sem,Instr.fill]
theorem ED{g:Nat}(hgl:prog.globals.size<=g)(h:ba V w g (.cells #[.int .i64 f0,.int .i64 t0] 32 (0,0))):Closed V w (· =g):=Closed.one hgl h fun i hi=>by
 rcases i with _|_|i
 ·exact .int _ _
 ·exact .int _ _
 ·exact absurd hi (by simp)
theorem aM0(hk:b.kind≠.early)(hT:Tidy V w)(hC:Closed V w C)(gv:gI w C (.agg #[v]) l)(hv:w.cell? ⟨Γ.src Γ.me,5,none⟩=some v)(jV:V.wc ⟨Γ.src Γ.me,5,none⟩)(hblk:∃c ty,w.heap[Γ.src Γ.me]? =some (.cells c ty (0,0)))
  (hl:Rg.Norm l)(Us:l.length<=400000)(alV:(Rg.nG [⟨f0,t0⟩]).length<=400000)(hn6:ba V w n (.cells #[.int .i64 f0,.int .i64 t0] 32 (0,0)))
  (hs:a.tmps.size=69)(h0:a.eval (.tmp 0)=.pointer (some ⟨Γ.src Γ.me,0,none⟩))(h6:a.eval (.tmp 6)=.pointer (some ⟨n,0,none⟩))
  (K:∀a' V' w' C' v',a'.tmps.size=69->a'.defers=a.defers->a'.eval (.tmp 0)=.pointer (some ⟨Γ.src Γ.me,0,none⟩)->a'.eval (.tmp 6)=.pointer (some ⟨n,0,none⟩)->
   aG aI (fun ad=>ad.block=Γ.src Γ.me/\ad.off=5) V w V' w'->Closed V' w' C'->(∀b,C' b->C b\/w.heap.size<=b)->gI w' C' (.agg #[v']) (Rg.yT l (Rg.nG [⟨f0,t0⟩]))->w'.cell? ⟨Γ.src Γ.me,5,none⟩=some v'->Tidy V' w'->
   Loc prog false Stop V' (G (b.at a' k) cs) w'):
  Loc prog false Stop V (G (b.at a (.code JM::k)) cs) w:=by
 have hS:=bh (P:=prog) (main:=false) hk;obtain⟨i32,avM,avN,EE,aV2⟩:=info_parts Rg.dY;obtain⟨A,c,hvv,aZT,hAC⟩:=id gv;have aZU:v=.slice A l.length c:=by simpa using hvv
 refine Ez hS aHq [58,59,60,61,62,63,64,65,66,67,68] [.val (.pointer (some ⟨Γ.src Γ.me,0,none⟩)),.val (.pointer (some ⟨Γ.src Γ.me,0,none⟩)),.val (.pointer (some ⟨Γ.src Γ.me,0,none⟩)),.val (.pointer (some ⟨Γ.src Γ.me,5,none⟩)),.val (.agg #[v]),.val (.agg #[.int .i64 f0,.int .i64 t0]),.row #[.int .i64 f0,.int .i64 t0] 32 1 w.heap.size,.set (fun _=>False) (Rg.nG [⟨f0,t0⟩]) w.heap.size,.set C (Rg.yT l (Rg.nG [⟨f0,t0⟩])) w.heap.size,.val (.pointer (some ⟨Γ.src Γ.me,0,none⟩)),.val (.pointer (some ⟨Γ.src Γ.me,5,none⟩))] [(0,.pointer (some ⟨Γ.src Γ.me,0,none⟩)),(6,.pointer (some ⟨n,0,none⟩))] 11 rfl (by kernel_rfl) pA.a (by kernel_rfl) rfl rfl (by decide) (by simp) (fun a' V' w'=>∃C' v',a'.tmps.size=69/\a'.defers=a.defers/\a'.eval (.tmp 0)=.pointer (some ⟨Γ.src Γ.me,0,none⟩)/\a'.eval (.tmp 6)=.pointer (some ⟨n,0,none⟩)/\aG aI (fun ad=>ad.block=Γ.src Γ.me/\ad.off=5) V w V' w'/\Closed V' w' C'/\(∀b,C' b->C b\/w.heap.size<=b)/\gI w' C' (.agg #[v']) (Rg.yT l (Rg.nG [⟨f0,t0⟩]))/\w'.cell? ⟨Γ.src Γ.me,5,none⟩=some v'/\Tidy V' w') (by simp [h0,h6]) hT ?_ ?_ ?_
 ·intro i d s o rest hi aV aZ ho aa VV ww hB hI K;match i,hi with
  |0,_=>
   cases aV;cases aZ;obtain rfl:=JN.w ho;have h0:=hB.sl 0 rfl;exact cU JN hS hB hs (af JN.o h0) K
  |1,_=>
   cases aV;cases aZ;obtain rfl:=JO.w ho;have h0:=hB.sl 0 rfl;exact cU JO hS hB hs (af JO.o h0) K
  |2,_=>
   cases aV;cases aZ;obtain rfl:=JP.w ho;have CZ:=hI.av 1;exact cU JP hS hB hs (bE JP.o CZ) K
  |3,_=>
   cases aV;cases aZ;obtain rfl:=JQ.w ho;have rn:=hI.av 2;exact cU JQ hS hB hs (aB JQ.o rn underlying61 rfl sizeOf39 (by decide) rfl) K
  |4,_=>
   cases aV;cases aZ;obtain rfl:=JR.w ho;have kJ:=hI.av 3;exact cU JR hS hB hs (lz JR.o kJ isAgg39 sizeOf39 ((show Cl VV ww _ v from⟨.inr (by rw [hB.aC.wc];exact jV),(hB.aC.cell _ (.inr jV) id).trans hv⟩).cK)) K
  |5,_=>
   cases aV;cases aZ;obtain rfl:=JS.w ho;have h6:=hB.sl 6 rfl;exact cU JS hS hB hs (eu JS.o (hB.slot 6 (.pointer (some ⟨n,0,none⟩)) (by simp)) isAgg32 sizeOf32 ((hn6.go hB.aC).cK rfl) ((hn6.go hB.aC).cK rfl)) K
  |6,_=>
   cases aV;cases aZ;obtain rfl:=vA.w ho;have CW:=hI.av 5;exact jW vA.a vA.f hS vA.d (by rw [hB.size,hs];decide) hB.tidy vA.o underlying37 avM avN (by rw [EE];decide) (by rw [EE];decide) (cells:=#[.int .i64 f0,.int .i64 t0]) (by simp only [List.map_toArray,List.map_cons,List.map_nil,CW,EE];exact GO f0 t0) fun g a' V' w' e1 e2 e3 e4 e5 e6 e7 e8=>K a' V' w' e1 e2 e3 e5 e8 ⟨g,e4,Nat.le_trans hB.aC.size e6,e7⟩
  |7,_=>
   cases aV;cases aZ;obtain rfl:=vB.w ho;have Va:=hI.at_ 6 64 (.row #[.int .i64 f0,.int .i64 t0] 32 1 w.heap.size) (by kernel_rfl) rfl rfl
   obtain⟨g,Va,hg,hbg⟩:=Va;refine GI (l:=Rg.nG [⟨f0,t0⟩]) (· =g) vB.a vB.f hS vB.d (by rw [hB.size,hs];decide) hB.tidy vB.o (by kernel_rfl) (ED (Nat.le_trans hT.gl hg) hbg) ?_ (fun t=>?_) fun C' a' V' w' e1 e2 e3 e4 e5 e6 e7 e8 e9=>K a' V' w' e1 e2 e3 e4 e5 ⟨C',e6,fun _ x=>x.elim,fun b hb=>.inr ?_,e9⟩
   ·simp only [List.map_toArray,List.map_cons,List.map_nil,Va];exact ar1 (.slice _ _ _ ⟨hB.tidy.low.own g hbg.1,.inl rfl⟩)
   ·simp only [List.map_toArray,List.map_cons,List.map_nil,Va];exact Rg.EB _ 1 [⟨f0,t0⟩] _ (gA (akp hbg) fun ad e=>by cases e;rfl) (by simp)
   ·rcases e8 b hb with x|x
    ·rw [x];exact hg
    ·exact Nat.le_trans hB.aC.size x
  |8,_=>
   cases aV;cases aZ;obtain rfl:=vC.w ho;have zy:=hI.av 4;have Xt:=hI.at_ 7 65 (.set (fun _=>False) (Rg.nG [⟨f0,t0⟩]) w.heap.size) (by kernel_rfl) rfl rfl
   obtain⟨D2,d1,d2,d3,d4⟩:=Xt;have hC1:=hC.aC hB.aC fun _ _=>id;have Ut:gI ww C (.agg #[v]) l:=gv.blocks fun b hb=>⟨hb,hB.aC.own b (hC b hb).1 id⟩;generalize hx:aa.eval (.tmp 65)=x at d4;obtain⟨A2,c2,rfl,s2,k2⟩:=id d4;obtain⟨A1,c1,f1,s1,k1⟩:=id Ut;refine GI (l:=Rg.yT l (Rg.nG [⟨f0,t0⟩])) (fun b=>C b\/D2 b) vC.a vC.f hS vC.d (by rw [hB.size,hs];decide) hB.tidy vC.o (by kernel_rfl) (hC1.or d1) ?_ (fun t=>?_) fun C' a' V' w' e1 e2 e3 e4 e5 e6 e7 e8 e9=>K a' V' w' e1 e2 e3 e4 e5 ⟨C',e6,fun b hb=>e7 b (.inl hb),fun b hb=>?_,e9⟩
   ·simp only [List.map_toArray,List.map_cons,List.map_nil,zy,hx];exact ar2 (Ut.vr fun b hb=>⟨.inl (.inl hb),hB.tidy.low.own b (hC1 b hb).1⟩) (d4.vr fun b hb=>⟨.inl (.inr hb),hB.tidy.low.own b (d1 b hb).1⟩)
   ·simp only [List.map_toArray,List.map_cons,List.map_nil,zy,hx,f1];exact Rg.Uk _ _ _ _ _ _ _ (gA s1 fun ad e=>.inl (k1 ad e)) (gA s2 fun ad e=>.inr (k2 ad e)) hl (Rg.lG _) Us alV
   ·rcases e8 b hb with (x|x)|x
    ·exact .inl x
    ·exact .inr ((d3 b x).resolve_left id)
    ·exact .inr (Nat.le_trans hB.aC.size x)
  |9,_=>
   cases aV;cases aZ;obtain rfl:=JU.w ho;have Fg:=hI.av 0;exact cU JU hS hB hs (bE JU.o Fg) K
  |10,_=>
   cases aV;cases aZ;obtain rfl:=Da.w ho;have Xu:=hI.av 9;exact cU Da hS hB hs (aB Da.o Xu underlying61 rfl sizeOf39 (by decide) rfl) K
  |n+11,hn=>exact absurd hn (by omega)
 ·intro rest aa VV ww hB hI K;have h66:=hI.all 8 66 (.set C (Rg.yT l (Rg.nG [⟨f0,t0⟩])) w.heap.size) (by decide) rfl rfl
  have C0:aa.eval (.tmp 68)=(.pointer (some ⟨Γ.src Γ.me,5,none⟩)):=hI.all 10 68 (.val (.pointer (some ⟨Γ.src Γ.me,5,none⟩))) (by decide) rfl rfl
  obtain⟨C',d1,d2,d3,d4⟩:=h66;generalize hx:aa.eval (.tmp 66)=x at d4;obtain⟨A2,c2,rfl,s2,k2⟩:=id d4;have azL:VV.wc ⟨Γ.src Γ.me,5,none⟩:=by rw [hB.aC.wc];exact jV
  have dS:¬VV.own (Γ.src Γ.me):=fun x=>hB.tidy.fV _ (.inr azL) x;refine I1 pA.a pA.f hS pA.d pA.o C0 hx (vs:=[.slice A2 _ c2]) rfl sizeOf39 (fun u hu=>by simp at hu;subst hu;rfl) (fun j hj=>?_) ?_ hB.tidy fun w' e1 e2 e3 e4=>K _ _ _ ⟨C',.slice A2 _ c2,hB.size.trans hs,hB.defers,hB.slot 0 _ (by simp),hB.slot 6 _ (by simp),?_,d1.aC e1 (fun _ _=>id),d3,d4.blocks fun b hb=>⟨hb,e1.own b (d1 b hb).1 id⟩,(e2 0 _ rfl).2,e3⟩
  ·have:j=0:=by simp at hj;exact hj
   subst this;exact⟨azL,by show(ww.cell? ⟨Γ.src Γ.me,5,none⟩).isSome=true;rw [hB.aC.cell _ (.inr jV) id,hv];rfl⟩
  ·obtain⟨c0,ty,Fo⟩:=hblk;obtain⟨c1,hc1,_⟩:=hB.aC.kind _ _ _ _ Fo;exact⟨c1,_,hc1⟩
  ·refine(hB.aC.mono (fun _ h=>h) fun _ h=>h.elim).trans (e1.mono (fun _ h=>h) fun ad h=>?_);obtain⟨x1,x2,x3⟩:=h;simp at x3;exact⟨x1,by omega⟩
 ·skip;rintro a' V' w' ⟨C',v',e1,e2,e3,e4,e5,e6,e7,e8,e9,Vx⟩;exact K a' V' w' C' v' e1 e2 e3 e4 e5 e6 e7 e8 e9 Vx
end
section
variable {Stop:View->Goroutine->World->Prop} {V:View} {w:World} {a:Act} {v:Value} {t0:Int}
theorem aM1(hk:b.kind≠.early)(hT:Tidy V w)(hC:Closed V w C)(gv:gI w C (.agg #[v]) l)(hv:w.cell? ⟨Γ.src Γ.me,5,none⟩=some v)(jV:V.wc ⟨Γ.src Γ.me,5,none⟩)(hv6:w.cell? ⟨Γ.src Γ.me,6,none⟩=some (.int .i64 0))(ZT:V.wc ⟨Γ.src Γ.me,6,none⟩)(hblk:∃c ty,w.heap[Γ.src Γ.me]? =some (.cells c ty (0,0)))
  (hl:Rg.Norm l)(Us:l.length<=400000)(alV:(Rg.nG [⟨f0,t0⟩]).length<=400000)(hl3:(Rg.od l (Rg.nG [⟨f0,t0⟩])).length<=1000000)(hz:Rg.Uq (Rg.od l (Rg.nG [⟨f0,t0⟩]))=0)(hn6:ba V w n (.cells #[.int .i64 f0,.int .i64 t0] 32 (0,0)))
  (hs:a.tmps.size=69)(h0:a.eval (.tmp 0)=.pointer (some ⟨Γ.src Γ.me,0,none⟩))(h6:a.eval (.tmp 6)=.pointer (some ⟨n,0,none⟩))
  (K:∀a' V' w',a'.tmps.size=69->a'.defers=a.defers->a'.eval (.tmp 0)=.pointer (some ⟨Γ.src Γ.me,0,none⟩)->a'.eval (.tmp 6)=.pointer (some ⟨n,0,none⟩)->
   aG aI (fun ad=>ad.block=Γ.src Γ.me/\ad.off=6) V w V' w'->w'.cell? ⟨Γ.src Γ.me,6,none⟩=some (.int .i64 0)->Tidy V' w'->
   Loc prog false Stop V' (G (b.at a' k) cs) w'):
  Loc prog false Stop V (G (b.at a (.code JC::k)) cs) w:=by
 have hS:=bh (P:=prog) (main:=false) hk;obtain⟨i32,avM,avN,EE,aV2⟩:=info_parts Rg.dY;obtain⟨A,c,hvv,aZT,hAC⟩:=id gv;have aZU:v=.slice A l.length c:=by simpa using hvv
 refine Ez hS aHp [42,43,44,45,46,47,48,49,50,51,52,53,54,55,56,57] [.val (.pointer (some ⟨Γ.src Γ.me,0,none⟩)),.val (.pointer (some ⟨Γ.src Γ.me,0,none⟩)),.val (.pointer (some ⟨Γ.src Γ.me,6,none⟩)),.val (.int .i64 0),.val (.pointer (some ⟨Γ.src Γ.me,0,none⟩)),.val (.pointer (some ⟨Γ.src Γ.me,0,none⟩)),.val (.pointer (some ⟨Γ.src Γ.me,5,none⟩)),.val (.agg #[v]),.val (.agg #[.int .i64 f0,.int .i64 t0]),.row #[.int .i64 f0,.int .i64 t0] 32 1 w.heap.size,.set (fun _=>False) (Rg.nG [⟨f0,t0⟩]) w.heap.size,.set C (Rg.od l (Rg.nG [⟨f0,t0⟩])) w.heap.size,.val (.int .i64 0),.val (.int .i64 0),.val (.pointer (some ⟨Γ.src Γ.me,0,none⟩)),.val (.pointer (some ⟨Γ.src Γ.me,6,none⟩))] [(0,.pointer (some ⟨Γ.src Γ.me,0,none⟩)),(6,.pointer (some ⟨n,0,none⟩))] 16 rfl (by kernel_rfl) pz.a (by kernel_rfl) rfl rfl (by decide) (by simp) (fun a' V' w'=>a'.tmps.size=69/\a'.defers=a.defers/\a'.eval (.tmp 0)=.pointer (some ⟨Γ.src Γ.me,0,none⟩)/\a'.eval (.tmp 6)=.pointer (some ⟨n,0,none⟩)/\aG aI (fun ad=>ad.block=Γ.src Γ.me/\ad.off=6) V w V' w'/\w'.cell? ⟨Γ.src Γ.me,6,none⟩=some (.int .i64 0)/\Tidy V' w') (by simp [h0,h6]) hT ?_ ?_ ?_
 ·intro i d s o rest hi aV aZ ho aa VV ww hB hI K;match i,hi with
  |0,_=>
   cases aV;cases aZ;obtain rfl:=JD.w ho;have h0:=hB.sl 0 rfl;exact cU JD hS hB hs (af JD.o h0) K
  |1,_=>
   cases aV;cases aZ;obtain rfl:=JE.w ho;have j8:=hI.av 0;exact cU JE hS hB hs (bE JE.o j8) K
  |2,_=>
   cases aV;cases aZ;obtain rfl:=JF.w ho;have zz:=hI.av 1;exact cU JF hS hB hs (aB JF.o zz underlying61 rfl sizeOf2 (by decide) rfl) K
  |3,_=>
   cases aV;cases aZ;obtain rfl:=JG.w ho;have mS:=hI.av 2;exact cU JG hS hB hs (aL JG.o mS isAgg2 ((show Cl VV ww _ (.int .i64 0)from⟨.inr (by rw [hB.aC.wc];exact ZT),(hB.aC.cell _ (.inr ZT) id).trans hv6⟩).cK)) K
  |4,_=>
   cases aV;cases aZ;obtain rfl:=JH.w ho;have h0:=hB.sl 0 rfl;exact cU JH hS hB hs (af JH.o h0) K
  |5,_=>
   cases aV;cases aZ;obtain rfl:=JI.w ho;have jZ:=hI.av 4;exact cU JI hS hB hs (bE JI.o jZ) K
  |6,_=>
   cases aV;cases aZ;obtain rfl:=JJ.w ho;have lV:=hI.av 5;exact cU JJ hS hB hs (aB JJ.o lV underlying61 rfl sizeOf39 (by decide) rfl) K
  |7,_=>
   cases aV;cases aZ;obtain rfl:=JK.w ho;have E0:=hI.av 6;exact cU JK hS hB hs (lz JK.o E0 isAgg39 sizeOf39 ((show Cl VV ww _ v from⟨.inr (by rw [hB.aC.wc];exact jV),(hB.aC.cell _ (.inr jV) id).trans hv⟩).cK)) K
  |8,_=>
   cases aV;cases aZ;obtain rfl:=JL.w ho;have h6:=hB.sl 6 rfl;exact cU JL hS hB hs (eu JL.o (hB.slot 6 (.pointer (some ⟨n,0,none⟩)) (by simp)) isAgg32 sizeOf32 ((hn6.go hB.aC).cK rfl) ((hn6.go hB.aC).cK rfl)) K
  |9,_=>
   cases aV;cases aZ;obtain rfl:=vz.w ho;have sf:=hI.av 8;exact jW vz.a vz.f hS vz.d (by rw [hB.size,hs];decide) hB.tidy vz.o underlying37 avM avN (by rw [EE];decide) (by rw [EE];decide) (cells:=#[.int .i64 f0,.int .i64 t0]) (by simp only [List.map_toArray,List.map_cons,List.map_nil,sf,EE];exact GO f0 t0) fun g a' V' w' e1 e2 e3 e4 e5 e6 e7 e8=>K a' V' w' e1 e2 e3 e5 e8 ⟨g,e4,Nat.le_trans hB.aC.size e6,e7⟩
  |10,_=>
   cases aV;cases aZ;obtain rfl:=pw.w ho;have rP:=hI.at_ 9 51 (.row #[.int .i64 f0,.int .i64 t0] 32 1 w.heap.size) (by kernel_rfl) rfl rfl
   obtain⟨g,rP,hg,hbg⟩:=rP;refine GI (l:=Rg.nG [⟨f0,t0⟩]) (· =g) pw.a pw.f hS pw.d (by rw [hB.size,hs];decide) hB.tidy pw.o (by kernel_rfl) (ED (Nat.le_trans hT.gl hg) hbg) ?_ (fun t=>?_) fun C' a' V' w' e1 e2 e3 e4 e5 e6 e7 e8 e9=>K a' V' w' e1 e2 e3 e4 e5 ⟨C',e6,fun _ x=>x.elim,fun b hb=>.inr ?_,e9⟩
   ·simp only [List.map_toArray,List.map_cons,List.map_nil,rP];exact ar1 (.slice _ _ _ ⟨hB.tidy.low.own g hbg.1,.inl rfl⟩)
   ·simp only [List.map_toArray,List.map_cons,List.map_nil,rP];exact Rg.EB _ 1 [⟨f0,t0⟩] _ (gA (akp hbg) fun ad e=>by cases e;rfl) (by simp)
   ·rcases e8 b hb with x|x
    ·rw [x];exact hg
    ·exact Nat.le_trans hB.aC.size x
  |11,_=>
   cases aV;cases aZ;obtain rfl:=px.w ho;have yQ:=hI.av 7;have tA:=hI.at_ 10 52 (.set (fun _=>False) (Rg.nG [⟨f0,t0⟩]) w.heap.size) (by kernel_rfl) rfl rfl
   obtain⟨D2,d1,d2,d3,d4⟩:=tA;have hC1:=hC.aC hB.aC fun _ _=>id;have Ut:gI ww C (.agg #[v]) l:=gv.blocks fun b hb=>⟨hb,hB.aC.own b (hC b hb).1 id⟩;generalize hx:aa.eval (.tmp 52)=x at d4;obtain⟨A2,c2,rfl,s2,k2⟩:=id d4;obtain⟨A1,c1,f1,s1,k1⟩:=id Ut;refine GI (l:=Rg.od l (Rg.nG [⟨f0,t0⟩])) (fun b=>C b\/D2 b) px.a px.f hS px.d (by rw [hB.size,hs];decide) hB.tidy px.o (by kernel_rfl) (hC1.or d1) ?_ (fun t=>?_) fun C' a' V' w' e1 e2 e3 e4 e5 e6 e7 e8 e9=>K a' V' w' e1 e2 e3 e4 e5 ⟨C',e6,fun b hb=>e7 b (.inl hb),fun b hb=>?_,e9⟩
   ·simp only [List.map_toArray,List.map_cons,List.map_nil,yQ,hx];exact ar2 (Ut.vr fun b hb=>⟨.inl (.inl hb),hB.tidy.low.own b (hC1 b hb).1⟩) (d4.vr fun b hb=>⟨.inl (.inr hb),hB.tidy.low.own b (d1 b hb).1⟩)
   ·simp only [List.map_toArray,List.map_cons,List.map_nil,yQ,hx,f1];exact(Rg.alQ _ _ _ _ _ _ _ (gA s1 fun ad e=>.inl (k1 ad e)) (gA s2 fun ad e=>.inr (k2 ad e)) hl (Rg.lG _) Us alV).mono fun _ _ h=>h.1
   ·rcases e8 b hb with (x|x)|x
    ·exact .inl x
    ·exact .inr ((d3 b x).resolve_left id)
    ·exact .inr (Nat.le_trans hB.aC.size x)
  |12,_=>
   cases aV;cases aZ;obtain rfl:=py.w ho;have xK:=hI.at_ 11 53 (.set C (Rg.od l (Rg.nG [⟨f0,t0⟩])) w.heap.size) (by kernel_rfl) rfl rfl
   obtain⟨D2,d1,d2,d3,d4⟩:=xK;generalize hx:aa.eval (.tmp 53)=x at d4;obtain⟨A2,c2,rfl,s2,k2⟩:=id d4;refine avz (vl:=.int .i64 0) D2 py.a py.f hS py.d (by rw [hB.size,hs];decide) hB.tidy py.o (by kernel_rfl) d1 ?_ (fun t=>?_) (.int _ _) fun a' V' w' e1 e2 e3 e4 e5 e6=>K a' V' w' e1 e2 e3 e5 e6 e4
   ·simp only [List.map_toArray,List.map_cons,List.map_nil,hx];exact ar1 (d4.vr fun b hb=>⟨.inl hb,hB.tidy.low.own b (d1 b hb).1⟩)
   ·simp only [List.map_toArray,List.map_cons,List.map_nil,hx];have:=Rg.alS _ c2 _ _ (gA (t:=t) s2 k2) (Rg.Ew _ _) hl3;rw [hz]at this;exact this
  |13,_=>
   cases aV;cases aZ;obtain rfl:=C7.w ho;have xu:=hI.av 3;have NM:=hI.av 12;exact cU C7 hS hB hs (gQ C7.o xu NM) K
  |14,_=>
   cases aV;cases aZ;obtain rfl:=C8.w ho;have j8:=hI.av 0;exact cU C8 hS hB hs (bE C8.o j8) K
  |15,_=>
   cases aV;cases aZ;obtain rfl:=C9.w ho;have Ff:=hI.av 14;exact cU C9 hS hB hs (aB C9.o Ff underlying61 rfl sizeOf2 (by decide) rfl) K
  |n+16,hn=>exact absurd hn (by omega)
 ·intro rest aa VV ww hB hI K;have Fe:aa.eval (.tmp 55)=(.int .i64 0):=hI.all 13 55 (.val (.int .i64 0)) (by decide) rfl rfl
  have h57:aa.eval (.tmp 57)=(.pointer (some ⟨Γ.src Γ.me,6,none⟩)):=hI.all 15 57 (.val (.pointer (some ⟨Γ.src Γ.me,6,none⟩))) (by decide) rfl rfl
  have azL:VV.wc ⟨Γ.src Γ.me,6,none⟩:=by rw [hB.aC.wc];exact ZT
  refine I1 pz.a pz.f hS pz.d pz.o h57 Fe (vs:=[.int .i64 0]) rfl sizeOf2 (fun u hu=>by simp at hu;subst hu;rfl) (fun j hj=>?_) ?_ hB.tidy fun w' e1 e2 e3 e4=>K _ _ _ ⟨hB.size.trans hs,hB.defers,hB.slot 0 _ (by simp),hB.slot 6 _ (by simp),?_,(e2 0 _ rfl).2,e3⟩
  ·have:j=0:=by simp at hj;exact hj
   subst this;exact⟨azL,by show(ww.cell? ⟨Γ.src Γ.me,6,none⟩).isSome=true;rw [hB.aC.cell _ (.inr ZT) id,hv6];rfl⟩
  ·obtain⟨c0,ty,Fo⟩:=hblk;obtain⟨c1,hc1,_⟩:=hB.aC.kind _ _ _ _ Fo;exact⟨c1,_,hc1⟩
  ·refine(hB.aC.mono (fun _ h=>h) fun _ h=>h.elim).trans (e1.mono (fun _ h=>h) fun ad h=>?_);obtain⟨x1,x2,x3⟩:=h;simp at x3;exact⟨x1,by omega⟩
 ·skip;rintro a' V' w' ⟨e1,e2,e3,e4,e5,e6,e7⟩;exact K a' V' w' e1 e2 e3 e4 e5 e6 e7
end
section
variable {D:cY} {Stop:View->Goroutine->World->Prop} {V:View} {w:World} {a:Act}
theorem aM2(I:Is Γ D)(hk:b.kind≠.early)(hW:Wk Γ D V w)(h0':0<=no)(N0:D.lo no<D.len Γ.me)(mj:Cl V w ⟨cc,0,none⟩ (.chan (some ch)))
  (jV:V.wc ⟨cc,1,none⟩)(jz:(w.cell? ⟨cc,1,none⟩).isSome=true)(hblk:∃cs,w.heap[cc]? =some (.cells cs 136 (0,0)))
  (hs:a.tmps.size=69)(hd:a.defers=[])(h0:a.eval (.tmp 0)=.pointer (some ⟨Γ.src Γ.me,0,none⟩))(h1:a.eval (.tmp 1)=.int .i64 no)(h2:a.eval (.tmp 2)=.pointer (some ⟨cc,0,none⟩))
  (K:∀cn n g cap a' V' w',a'.tmps.size=69->a'.defers=[ez #[78] 0 cn ch]->a'.eval (.tmp 0)=.pointer (some ⟨Γ.src Γ.me,0,none⟩)->a'.eval (.tmp 6)=.pointer (some ⟨n,0,none⟩)->
   w.heap.size<=g->aG aI (fun ad=>ad.block=cc/\ad.off=1) V w V' w'->ba V' w' n (.cells #[.int .i64 (D.lo no),.int .i64 (D.hi Γ.me no)] 32 (0,0))->w.heap.size<=n->Row V' w' 5 1 (.slice (some ⟨g,0,none⟩) (D.dC Γ.me no).length cap) (D.dC Γ.me no).length (D.dC Γ.me no)->Cl V' w' ⟨cc,1,none⟩ (.slice (some ⟨g,0,none⟩) (D.dC Γ.me no).length cap)->Tidy V' w'->
   Loc prog false Stop V' (G (b.at a' (.code Gg::k)) cs) w'):
  Loc prog false Stop V (G (b.at a (.code Ge::k)) cs) w:=by
 have hS:=bh (P:=prog) (main:=false) hk;refine aj hS aRy (ag hS aRp (rl [0,1,2,3,4] rfl) (ay acQ hS hs (af acQ.o h2) fun a ae h7=>t3 ae hs hd h0 h1 h2 fun hs hd h0 h1 h2=>?_));refine ay acR hS hs (bE acR.o h7) fun a ae h8=>t3 ae hs hd h0 h1 h2 fun hs hd h0 h1 h2=>?_;refine ay acS hS hs (aB acS.o h8 underlying136 rfl sizeOf78 (by decide) rfl) fun a ae h9=>t3 ae hs hd h0 h1 h2 fun hs hd h0 h1 h2=>?_
 refine ay acT hS hs (aL acT.o h9 isAgg78 mj.cK) fun a ae aM=>t3 ae hs hd h0 h1 h2 fun hs hd h0 h1 h2=>?_;refine Uo zI.a zI.f hk zI.d aM zI.o fun cn a4 t4 d4=>?_;have ev:∀j,a4.eval (.tmp j)=a.eval (.tmp j):=fun j=>by simp only [Act.eval,t4]
 rw [hd]at d4;refine ai hS (aj hS aRx (aMY I hk hW h0' N0 (by rw [t4];exact hs) ((ev 0).trans h0) ((ev 1).trans h1) ((ev 2).trans h2) fun n a1 V1 w1 s1 d1 f0 f1 f2 f6 hn W1 B1 T1=>?_))
 refine aj hS aRw ?_;obtain⟨cs0,Fo⟩:=hblk;obtain⟨cs1,hc1,_⟩:=W1.kind _ _ _ _ Fo;refine aMZ I hk (hW.go W1) h0' N0 B1 (by rw [W1.wc];exact jV) (by rw [W1.cell _ (.inr jV) id];exact jz) ⟨_,hc1⟩ s1 f0 f2 f6 fun g cap a2 V2 w2 s2 d2 g0 g2 g6 hg W2 R2 C2 T2=>?_
 exact K cn n g cap a2 V2 w2 s2 (d2.trans (d1.trans d4)) g0 g6 (Nat.le_trans W1.size hg) ((W1.mono (fun _ h=>h) fun _ h=>h.elim).trans W2) (B1.go W2) hn R2 C2 T2
end
section
variable {D:cY} {V:View} {w:World} {a:Act}
theorem aM3(I:Is Γ D)(hk:b.kind≠.early)(hW:Wk Γ D V w)(lr:c.k=Γ.me)(he:1<=e.n)
  (hs:a.tmps.size=69)(h0:a.eval (.tmp 0)=.pointer (some ⟨Γ.src Γ.me,0,none⟩))(h6:a.eval (.tmp 6)=.pointer (some ⟨n,0,none⟩))
  (K:iw Γ Γ.me ⟨e.n-1,e.s⟩ (.bH c) V w fun q V' w₁=>∀a',a'.tmps.size=69->a'.defers=a.defers->a'.eval (.tmp 0)=.pointer (some ⟨Γ.src Γ.me,0,none⟩)->a'.eval (.tmp 6)=.pointer (some ⟨n,0,none⟩)->bf (At Γ) q V' (G (b.at a' (.code C6::k)) cs) w₁):
  bf (At Γ) (Next Γ e (.bH c)) V (G (b.at a (.code Gg::k)) cs) w:=by
 have hS:=bh (P:=prog) (main:=false) hk;obtain⟨ds,hd⟩:∃ds,a.defers=ds:=⟨_,rfl⟩;rw [hd]at K;refine aj hS aRv (ag hS aRs (rl [0,1,2,3] rfl) (ay acY hS hs (af acY.o h0) fun a ae iF=>t2 ae hs hd h0 h6 fun hs hd h0 h6=>?_));refine ay acZ hS hs (bE acZ.o iF) fun a ae rh=>t2 ae hs hd h0 h6 fun hs hd h0 h6=>?_;refine ay ac0 hS hs (aB ac0.o rh underlying61 rfl sizeOf58 (by decide) rfl) fun a ae iI=>t2 ae hs hd h0 h6 fun hs hd h0 h6=>?_
 have iI:a.eval (.tmp 37)=.pointer (some (eC Γ Γ.me)):=iI;refine lS vy.a vy.f hk vy.o func74 (by kernel_rfl) an5 (Loc.mono ?_ (Gb (e:=⟨e.n-1,e.s⟩) (f:=.bH c) (b:=base 74) (by decide) hW.deaf I.me hW.gB hW.hb (by simp [show Tryz.f74.ntmps=6 from rfl]) rfl (by simpa [Act.eval]using iI) (K.mono fun q V' w₁ h a' todo aV=>jg rfl aV func74 rfl vy.a vy.d fun a au an ah=>al (h a (au.trans hs) (an.trans hd) ((ah 0 (by decide)).trans h0) ((ah 6 (by decide)).trans h6)))))
 rintro V g w ⟨t,rfl,h⟩;exact⟨_,⟨by show e.n-1<e.n;omega,rfl,rfl,by rw [lr]⟩,h⟩
end
section
variable {Stop:View->Goroutine->World->Prop} {V:View} {w:World} {a:Act} {v:Value} {t0:Int}
theorem aM4(hk:b.kind≠.early)(hT:Tidy V w)(hC:Closed V w C)(gv:gI w C (.agg #[v]) l)(hv:w.cell? ⟨Γ.src Γ.me,5,none⟩=some v)(jV:V.wc ⟨Γ.src Γ.me,5,none⟩)(hv6:w.cell? ⟨Γ.src Γ.me,6,none⟩=some (.int .i64 0))(ZT:V.wc ⟨Γ.src Γ.me,6,none⟩)(hblk:∃c ty,w.heap[Γ.src Γ.me]? =some (.cells c ty (0,0)))
  (hl:Rg.Norm l)(Us:l.length<=400000)(alV:(Rg.nG [⟨f0,t0⟩]).length<=400000)(hl3:(Rg.od l (Rg.nG [⟨f0,t0⟩])).length<=1000000)(hz:Rg.Uq (Rg.od l (Rg.nG [⟨f0,t0⟩]))=0)(hn6:ba V w n (.cells #[.int .i64 f0,.int .i64 t0] 32 (0,0)))
  (hs:a.tmps.size=69)(h0:a.eval (.tmp 0)=.pointer (some ⟨Γ.src Γ.me,0,none⟩))(h6:a.eval (.tmp 6)=.pointer (some ⟨n,0,none⟩))
  (K:∀a' todo V' w' C' v',a'.defers=dcall 75 #[.pointer (some (eC Γ Γ.me))]::a.defers->
   aG aI (fun ad=>ad.block=Γ.src Γ.me/\(ad.off=5\/ad.off=6)) V w V' w'->Closed V' w' C'->(∀b,C' b->C b\/w.heap.size<=b)->gI w' C' (.agg #[v']) (Rg.yT l (Rg.nG [⟨f0,t0⟩]))->w'.cell? ⟨Γ.src Γ.me,5,none⟩=some v'->w'.cell? ⟨Γ.src Γ.me,6,none⟩=some (.int .i64 0)->Tidy V' w'->
   Loc prog false Stop V' (G {b.at a' todo with mode:=.returning} cs) w'):
  Loc prog false Stop V (G (b.at a (.code C6::[])) cs) w:=by
 have hS:=bh (P:=prog) (main:=false) hk;obtain⟨ds,hd⟩:∃ds,a.defers=ds:=⟨_,rfl⟩;rw [hd]at K;refine aj hS aRu (ag hS aRt (rl [0,1,2,3] rfl) (ay ac1 hS hs (af ac1.o h0) fun a ae im=>t2 ae hs hd h0 h6 fun hs hd h0 h6=>?_));refine ay ac2 hS hs (bE ac2.o im) fun a ae fQ=>t2 ae hs hd h0 h6 fun hs hd h0 h6=>?_;refine ay ac3 hS hs (aB ac3.o fQ underlying61 rfl sizeOf58 (by decide) rfl) fun a ae iT=>t2 ae hs hd h0 h6 fun hs hd h0 h6=>?_
 have iT:a.eval (.tmp 41)=.pointer (some (eC Γ Γ.me)):=iT;refine EA zJ.a zJ.f hk zJ.d zJ.o fun a4 t4 d4=>?_;have ev:∀j,a4.eval (.tmp j)=a.eval (.tmp j):=fun j=>by simp only [Act.eval,t4]
 simp only [List.map_toArray,List.map_cons,List.map_nil,iT]at d4;rw [hd]at d4;refine ai hS (aj hS aHr (aM1 hk hT hC gv hv jV hv6 ZT hblk hl Us alV hl3 hz hn6 (by rw [t4];exact hs) ((ev 0).trans h0) ((ev 6).trans h6) fun a1 V1 w1 s1 d1 f0 f6 W1 z1 T1=>?_))
 obtain⟨c0,ty,Fo⟩:=hblk;obtain⟨c1,hc1,_⟩:=W1.kind _ _ _ _ Fo;refine aM0 hk T1 (hC.aC W1 fun _ _=>id) (gv.blocks fun b hb=>⟨hb,W1.own b (hC b hb).1 id⟩) ((W1.cell _ (.inr jV) (by simp)).trans hv) (by rw [W1.wc];exact jV) ⟨_,_,hc1⟩ hl Us alV (hn6.go W1) s1 f0 f6 fun a2 V2 w2 C' v' s2 d2 g0 g6 W2 k1 k2 k3 k4 T2=>?_
 refine rX (K a2 [] V2 w2 C' v' (d2.trans (d1.trans d4)) ((W1.mono (fun _ h=>h) fun _ h=>⟨h.1,.inr h.2⟩).trans (W2.mono (fun _ h=>h) fun _ h=>⟨h.1,.inl h.2⟩)) k1 (fun b hb=>(k2 b hb).imp id fun x=>Nat.le_trans W1.size x) k3 k4 ?_ T2);exact(W2.cell _ (.inr (by rw [W1.wc];exact ZT)) (by simp)).trans z1
end
section
variable {V:View} {w:World} {a:Act} {todo:List Item}
def avO(Γ:Rc)(e:En)(c:xp)(b:Frame)(cs:List Frame)(V:View)(w:World):Prop:=
 V.deaf=0/\∀fy,aP V w fy->bC fy c.ch->∃V' VC,V'.Le V/\VC.Le V/\(∀b,¬VC.own b)/\(∀a,¬VC.wc a)/\Apart V' VC/\Γ.full c VC fy/\
  ∀s r tm,fy.heap[c.ch]? =some (.chan 0 #[] false s r tm)->kF Γ (Next Γ e (.found c)) (V'.join VC) b cs (fy.setChan c.ch 0 #[] true s r tm)
theorem ZU{gY:Array TypeId}{ty:TypeId}{cn:Array Bool}(hq:(prog.funcs[b.fn]?).any (·.norace)=false)(he:1<=e.n)(hd:a.defers=[ez gY ty cn c.ch])(K:avO Γ ⟨e.n-1,e.s⟩ c b cs V w):
  bf (At Γ) (Next Γ e (.stored c)) V (G {b.at a todo with mode:=.returning} cs) w:=by
 obtain⟨h1,h2⟩:=K;refine di ⟨⟨e.n-1,e.s⟩,.stored c,.close⟩ ⟨by show e.n-1<e.n;omega,rfl,rfl,rfl⟩ fun w₁ hr=>At.fold ⟨rfl,c,rfl,h1,fun fy dv ho=>?_⟩
 obtain⟨V',VC,q1,q2,q3,q4,q5,q6,q7⟩:=h2 fy (hr.trans dv) ho;obtain⟨s,r,tm,hc⟩:=ho;have hm:mayWake prog (G {b.at a todo with mode:=.returning} cs)=true:=by simp [mayWake,G,Frame.at,hd,ez]
 have bF:=kW (P:=prog) (main:=false) (b:=b) (cs:=cs) (todo:=todo) hd hc hq;have hK:=q7 s r tm hc ⟨a.tmps,[]⟩ todo rfl;generalize G {b.at a todo with mode:=.returning} cs=g0 at hm bF
 generalize G {b.at ⟨a.tmps,[]⟩ todo with mode:=.returning} cs=g1 at bF hK
 refine⟨V',VC,g1,fy.setChan c.ch 0 #[] true s r tm,q1,q2,q3,q4,q5,q6,fun s' r' tm' h'=>?_,hm,bF,hK⟩;obtain⟨rfl,rfl,rfl⟩:s=s'/\r=r'/\tm=tm':=by simpa using hc.symm.trans h'
 rfl
theorem aM5{cl:Array Value}{ct:TypeId}{gY:Array TypeId}{ty:TypeId}{cn:Array Bool}(hq:(prog.funcs[b.fn]?).any (·.norace)=false)(hV:V.deaf=0)(gU:Γ.me<Γ.ns)(nl:dB Γ Γ.me V)(hB:w.heap[Γ.src Γ.me]? =some (.cells cl ct (0,0)))(fO:2<cl.size)(lr:c.k=Γ.me)(he:2<=e.n)
  (hd:a.defers=[dcall 75 #[.pointer (some (eC Γ Γ.me))],ez gY ty cn c.ch])(H:eV Γ Γ.me ⟨γ.bO,c.no::γ.done⟩ (.stored c) V w fun V' w₁=>avO Γ ⟨e.n-1,e.s⟩ c b cs V' w₁):
  bf (At Γ) (fun t=>∃fw f',Made Γ e Γ.me (.bH c) γ fw f'/\t=⟨e,.bH c,.rel Γ.me γ fw f'⟩) V (G {b.at a todo with mode:=.returning} cs) w:=by
 refine Up hd func75 (by kernel_rfl) an6 (Loc.mono ?_ (yv (b:=baseD 75) (e:=e) (f:=.bH c) (γ:=γ) (fw:=⟨γ.bO,c.no::γ.done⟩) (f':=.stored c) (by decide) hV gU nl hB fO (by simp [show Tryz.f75.ntmps=6 from rfl]) rfl (by simp [Act.eval]) (.done lr) (H.mono fun V' w₁ K a' FJ aV=>?_)))
 ·rintro V g w ⟨t,rfl,h⟩;exact⟨_,⟨_,_,.done lr,rfl⟩,h⟩
 ·exact aoZ rfl aV func75 rfl rfl rfl (ZU (a:=⟨a.tmps,[ez gY ty cn c.ch]⟩) (todo:=todo) hq (by omega) rfl K)
end
def View.less(V:View)(cc g:Nat):View:=⟨fun b=>V.own b/\b≠g,V.ro,fun a=>V.wc a/\a≠⟨cc,1,none⟩,V.deaf⟩
variable {Stop:View->Goroutine->World->Prop} {V VK V2 V':View}
def View.NK(cc g:Nat):View:=⟨fun _=>False,fun a=>a=⟨cc,1,none⟩\/a.block=g,fun _=>False,0⟩
section
variable {D:cY} {w:World} {g:Nat}
theorem aM6(hV:V.deaf=0)(jV:V.wc ⟨cc,1,none⟩)(hg:V.own g):(V.less cc g).Le V/\(View.NK cc g).Le V:=
 ⟨⟨fun _ h=>h.1,fun _ h=>.inl h.1,fun _ h=>.inl h,rfl⟩,fun _ h=>h.elim,fun _ h=>h.elim,fun a h=>by
  rcases h with rfl|rfl
  ·exact .inr (.inl jV)
  ·exact .inr (.inr hg),hV.symm⟩
theorem alW(hT:Tidy V w)(jV:V.wc ⟨cc,1,none⟩)(hg:V.own g):Apart (V.less cc g) (View.NK cc g):=
 ⟨fun _ _ h=>h,fun a h=>⟨id,fun x=>by
  rcases x with rfl|rfl
  ·exact h.2 rfl
  ·exact hT.fV a (.inr h.1) hg,id⟩,fun _ h=>h.elim,fun _ _ h=>h,fun a h x=>by
  rcases h with rfl|rfl
  ·exact hT.fV _ (.inr jV) x.1
  ·exact x.2 rfl⟩
theorem avP{cap:Nat}(hr:Row V w 5 1 (.slice (some ⟨g,0,none⟩) (D.dC c.k c.no).length cap) (D.dC c.k c.no).length (D.dC c.k c.no))(hc:w.cell? ⟨c.c,1,none⟩=some (.slice (some ⟨g,0,none⟩) (D.dC c.k c.no).length cap))(l1:c.c<w.heap.size)(l2:g<w.heap.size)(n1:c.c≠Γ.src c.k)(n2:g≠Γ.src c.k):kY Γ D c (View.NK c.c g) w:=by
 have hlen:(D.dC c.k c.no).length=(D.cut c.k (D.lo c.no) (D.hi c.k c.no)).length:=List.length_map _;rcases hr.1.2 with ⟨e,_⟩|⟨g',Nx,cur,e,_,h1,h2,h3,h4,h5⟩
 ·cases e
 ·cases e;refine⟨⟨g,cap,.inl rfl,by rw [hc,hlen],by rw [←hlen];exact h2,fun j x hj=>⟨.inr rfl,?_⟩⟩,fun a ha=>ha.elim (fun x=>by rw [x];exact l1) fun x=>by rw [x];exact l2,fun a ha=>ha.elim (fun x=>by rw [x];exact n1) fun x=>by rw [x];exact n2⟩
  have hv:(D.dC c.k c.no)[j]? =some (dG x):=by
   unfold cY.dC;rw [List.getElem?_map,hj];rfl
  rw [←h5,List.getElem?_take]at hv;split at hv
  ·simp only [World.cell?,h1];simpa using hv
  ·cases hv
end
section
variable {D:cY} {W:View} {w:World} {k:Nat} {v:Value} {o:Obj} {e:TypeId} {size:Nat}
theorem Tidy.join(h:Tidy V w)(k:Tidy W w)(ha:Apart V W):Tidy (V.join W) w:=by
 refine⟨h.gl,h.low.join k.low,fun a hx hy=>?_⟩;rcases hy with hy|hy
 ·rcases hx with (x|x)|(x|x)
  ·exact h.fV a (.inl x) hy
  ·exact ha.ro' a x hy
  ·exact h.fV a (.inr x) hy
  ·exact(ha.mX a x).2.2 hy
 ·rcases hx with (x|x)|(x|x)
  ·exact ha.ro a x hy
  ·exact k.fV a (.inl x) hy
  ·exact(ha.wc a x).2.2 hy
  ·exact k.fV a (.inr x) hy
theorem dB.join{Γ:Rc}{k:Nat}(h:dB Γ k V)(h':dB Γ k W):dB Γ k (V.join W):=by
 refine⟨fun x=>x.elim h.own h'.own,fun a ha=>?_⟩;rcases ha with (x|x)|(x|x)
 ·exact h.cell a (.inl x)
 ·exact h'.cell a (.inl x)
 ·exact h.cell a (.inr x)
 ·exact h'.cell a (.inr x)
theorem ba.left(h:ba V w n o):ba (V.join W) w n o:=⟨.inl h.1,h.2⟩
theorem ba.right(h:ba W w n o):ba (V.join W) w n o:=⟨.inr h.1,h.2⟩
theorem Cl.left(h:Cl V w ad v):Cl (V.join W) w ad v:=⟨h.1.imp .inl .inl,h.2⟩
theorem Cl.right(h:Cl W w ad v):Cl (V.join W) w ad v:=⟨h.1.imp .inr .inr,h.2⟩
theorem Row.left(h:Row V w e size v n xs):Row (V.join W) w e size v n xs:=⟨h.1,fun g hg=>.inl (h.2 g hg)⟩
theorem Closed.left(h:Closed V w C):Closed (V.join W) w C:=⟨h.tt,fun b hb=>⟨.inl (h b hb).1,(h b hb).2⟩⟩
theorem Closed.right(h:Closed W w C):Closed (V.join W) w C:=⟨h.tt,fun b hb=>⟨.inr (h b hb).1,(h b hb).2⟩⟩
theorem kX.left(h:kX Γ D k V w):kX Γ D k (V.join W) w:=h.view fun a x=>x.imp .inl .inl
theorem Fl.right{V W:View}(h:Fl W w c):Fl (V.join W) w c:=⟨⟨.inr h.ch.1,h.ch.2⟩,h.blk⟩
theorem Wk.join(h:Wk Γ D V w)(hT:Tidy W w)(ha:Apart V W)(hn:dB Γ Γ.me W):Wk Γ D (V.join W) w:=⟨h.deaf,h.tidy.join hT ha,h.gB.join hn,h.blk,h.src.left⟩
end
theorem Tidy.part{V W:View}{w:World}(h:Tidy V w)(ho:∀b,W.own b->V.own b)(hr:∀a,W.ro a->V.ro a)(hw:∀a,W.wc a->V.wc a):Tidy W w:=
 ⟨h.gl,⟨fun b hb=>h.low.own b (ho b hb),fun a ha=>h.low.wc a (hw a ha),fun a ha=>h.low.ro a (hr a ha)⟩,fun a ha hb=>h.fV a (ha.imp (hr a) (hw a)) (ho _ hb)⟩
def GP(VK:View)(mp:Nat)(C:Nat->Prop):View:=⟨fun b=>b=mp\/C b,VK.ro,VK.wc,0⟩
def ss(V V2:View)(mp:Nat)(C:Nat->Prop):View:=⟨fun b=>V2.own b/\b≠mp/\¬C b,V.ro,V.wc,0⟩
section
variable {D:cY} {v':Value} {k:Nat}
theorem ZV(hT:Tidy V2 w2)(ha:Apart V VK)(e1:V2.ro=(V.join VK).ro)(e2:V2.wc=(V.join VK).wc)(hmp:V2.own (D.mp k))(hC:∀b,C' b->V2.own b):Apart (ss V V2 (D.mp k) C') (GP VK (D.mp k) C'):=by
 have hK:∀b,(GP VK (D.mp k) C').own b->V2.own b:=fun b hb=>hb.elim (fun e=>e▸hmp) (hC b);have r1:∀a,V.ro a\/V.wc a->¬V2.own a.block:=fun a h=>hT.fV a (by rw [e1,e2];exact h.imp .inl .inl)
 have r2:∀a,VK.ro a\/VK.wc a->¬V2.own a.block:=fun a h=>hT.fV a (by rw [e1,e2];exact h.imp .inr .inr)
 exact⟨fun b h1 h2=>h2.elim h1.2.1 h1.2.2,fun a h=>⟨(ha.wc a h).1,(ha.wc a h).2.1,fun x=>r1 a (.inr h) (hK _ x)⟩,fun a h=>⟨(ha.mX a h).1,(ha.mX a h).2.1,fun x=>r2 a (.inr h) x.1⟩,fun a h x=>r1 a (.inl h) (hK _ x),fun a h x=>r2 a (.inl h) x.1⟩
theorem azN(e1:V2.ro=(V.join VK).ro)(e2:V2.wc=(V.join VK).wc)(h0:V2.deaf=0)(hmp:V2.own (D.mp k))(hC:∀b,C' b->V2.own b):(ss V V2 (D.mp k) C').Le V2/\(GP VK (D.mp k) C').Le V2:=
 ⟨⟨fun b h=>h.1,fun a h=>.inl (by rw [e2];exact .inl h),fun a h=>.inl (by rw [e1];exact .inl h),h0.symm⟩,
  ⟨fun b hb=>hb.elim (fun e=>e▸hmp) (hC b),fun a h=>.inl (by rw [e2];exact .inr h),fun a h=>.inl (by rw [e1];exact .inr h),h0.symm⟩⟩
theorem alX(h:jI Γ D k γ VK w1)(ha:Apart V VK)(hW:aG aI (fun ad=>ad.block=Γ.src k/\(ad.off=5\/ad.off=6)) (V.join VK) w1 V2 w2)(hT:Tidy V2 w2)(hn:dB Γ k V2)(hr:aP V2 w2 w3)
  (hC:Closed V2 w2 C')(hCm:¬C' (D.mp k))(hS:gI w2 C' (.agg #[v']) (D.cX k (c.no::γ.done)))(h5:w2.cell? ⟨Γ.src k,5,none⟩=some v')(h6:w2.cell? ⟨Γ.src k,6,none⟩=some (.int .i64 0))(dS:0<=c.no/\D.lo c.no<D.len k)(hCK:∀b,C' b->VK.own b\/w1.heap.size<=b):
  jI Γ D k ⟨γ.bO,c.no::γ.done⟩ (GP VK (D.mp k) C') w3:=by
 obtain⟨es,cl,m1,m2,m3⟩:=h.map;have e1:∀a,VK.ro a->V2.ro a:=fun a x=>by rw [hW.ro];exact .inr x
 have e2:∀a,VK.wc a->V2.wc a:=fun a x=>by rw [hW.wc];exact .inr x
 have hm:ba V2 w3 (D.mp k) (.map es cl):=(m1.right.go hW).rely hr;have hK:∀b,(GP VK (D.mp k) C').own b->V2.own b:=fun b hb=>hb.elim (fun e=>e▸hm.1) fun x=>(hC b x).1;have hT3:Tidy V2 w3:=hT.aC (.bk hr);refine⟨hT3.part hK e1 e2,⟨es,cl,⟨.inl rfl,hm.2⟩,m2,m3⟩,h.wc5,h.wc6,(hr.cell _ (.inr (e2 _ h.wc6))).trans h6,⟨C',v',?_,hCm,?_,(hr.cell _ (.inr (e2 _ h.wc5))).trans h5⟩,fun d hd=>?_,?_,⟨fun x=>hn.own (hK _ x),fun a x=>hn.cell a (x.imp (e1 a) (e2 a))⟩,rfl,h.ks,fun b hb=>?_⟩
 ·have:=hC.aC (.bk hr) fun _ _=>id;exact⟨hC.tt,fun b hb=>⟨.inr hb,(this b hb).2⟩⟩
 ·exact hS.blocks fun b hb=>⟨hb,hr.own b (hC b hb).1⟩
 ·have q:=((h.yr d hd).right (V:=V)).aC hW (by simp)
  have q2:=q.rely hr;exact⟨⟨(h.yr d hd).ch.1,q2.ch.2⟩,q2.blk⟩
 ·intro n CY;rcases List.mem_cons.1 CY with rfl|x
  ·exact dS
  ·exact h.inn n x
 ·have hm0:=h.new _ m1.1;have hm1:=m1.lt;rcases hb with rfl|hb
  ·exact hm0
  ·rcases hCK b hb with x|x
   ·exact h.new b x
   ·omega
end
structure akq(V:View)(w:World)(g cc s:Nat)(V':View)(w':World):Prop where
 tape:w'.tape=w.tape
 size:w.heap.size<=w'.heap.size
 kind:eG w w'
 own:∀b,V.own b->b≠g->V'.own b/\w'.heap[b]? =w.heap[b]?
 ro:∀a,V.ro a->¬(a.block=s/\(a.off=5\/a.off=6))->V'.ro a/\w'.cell? a=w.cell? a
 wc:∀a,V.wc a->a≠⟨cc,1,none⟩->¬(a.block=s/\(a.off=5\/a.off=6))->V'.wc a/\w'.cell? a=w.cell? a
 deaf:V'.deaf=0
 back:∀a,V'.ro a\/V'.wc a->V.ro a\/V.wc a\/a.block≠s
section
variable {D:cY} {w4:World} {k g:Nat}
theorem ZW(hT:Tidy V w1)(ha:Apart V VK)(hmp:VK.own (D.mp k))(hW:aG aI (fun ad=>ad.block=Γ.src k/\(ad.off=5\/ad.off=6)) (V.join VK) w1 V2 w2)(hr:aP V2 w2 w3)(jU:aP (ss V V2 (D.mp k) C') w3 w4)
  (hC:∀b,C' b->VK.own b\/w1.heap.size<=b)(mj:¬V.own ch)(xl:∀a,V.ro a\/V.wc a->a.block≠ch)(hh:w4.heap[ch]? =some (.chan 0 #[] false s r tm))(oe:cc≠Γ.src k)(hgs:g≠Γ.src k):
  akq V w1 g cc (Γ.src k) (((ss V V2 (D.mp k) C').less cc g).join (View.NK cc g)) (w4.setChan ch 0 #[] true s r tm):=by
 have cM:∀b,b≠ch->(w4.setChan ch 0 #[] true s r tm).heap[b]? =w4.heap[b]? :=fun b hb=>by
  simp only [World.setChan];exact Array.getElem?_setIfInBounds_ne (Ne.symm hb)
 have hce:∀a:Addr,a.block≠ch->(w4.setChan ch 0 #[] true s r tm).cell? a=w4.cell? a:=fun a h=>by simp only [World.cell?,cM _ h]
 have hnc:∀b,V.own b->¬C' b:=fun b hb x=>by
  rcases hC b x with y|y
  ·exact ha.own b hb y
  ·have:=hT.low.own b hb;omega
 have hon:∀b,V.own b->(ss V V2 (D.mp k) C').own b:=fun b hb=>⟨hW.mine b (.inl hb),fun e=>ha.own b hb (e▸hmp),hnc b hb⟩;have hkd:eG w4 (w4.setChan ch 0 #[] true s r tm):=fun b cl e fr h=>⟨cl,(cM b fun x=>by rw [x,hh]at h;cases h).trans h,rfl⟩
 refine⟨jU.tape.trans (hr.tape.trans hW.tape),?_,hW.kind.trans (hr.kind.trans (jU.kind.trans hkd)),fun b hb hg=>⟨.inl ⟨hon b hb,hg⟩,?_⟩,fun a h hn=>⟨.inl h,?_⟩,fun a h hn1 hn=>⟨.inl ⟨h,hn1⟩,?_⟩,rfl,fun a h=>?_⟩
 ·have e:(w4.setChan ch 0 #[] true s r tm).heap.size=w4.heap.size:=by simp [World.setChan]
  rw [e];exact Nat.le_trans hW.size (Nat.le_trans hr.size jU.size)
 ·rw [cM b fun e=>mj (e▸hb),jU.own b (hon b hb),hr.own b (hW.mine b (.inl hb)),hW.own b (.inl hb) id]
 ·rw [hce a (xl a (.inl h)),jU.cell a (.inl h),hr.cell a (.inl (by rw [hW.ro];exact .inl h)),hW.cell a (.inl (.inl h)) hn]
 ·rw [hce a (xl a (.inr h)),jU.cell a (.inr h),hr.cell a (.inr (by rw [hW.wc];exact .inl h)),hW.cell a (.inr (.inl h)) hn]
 ·rcases h with (h|h|h)|(h|h)
  ·exact .inl h
  ·subst h;exact .inr (.inr oe)
  ·exact .inr (.inr (h▸hgs))
  ·exact .inr (.inl h.1)
  ·exact h.elim
end
section
variable {w:World} {k g:Nat}
theorem avQ(hT:Tidy V w)(jV:V.wc ⟨cc,1,none⟩)(hg:V.own g):Tidy ((V.less cc g).join (View.NK cc g)) (w.setChan ch 0 #[] true s r tm):=by
 have e:(w.setChan ch 0 #[] true s r tm).heap.size=w.heap.size:=by simp [World.setChan]
 refine⟨by rw [e];exact hT.gl,⟨fun b hb=>?_,fun a ha=>?_,fun a ha=>?_⟩,fun a ha hb=>?_⟩
 ·rw [e];exact hb.elim (fun x=>hT.low.own b x.1) fun x=>x.elim
 ·rw [e];exact ha.elim (fun x=>hT.low.wc a x.1) fun x=>x.elim
 ·rw [e];rcases ha with x|x|x
  ·exact hT.low.ro a x
  ·rw [x];exact hT.low.wc _ jV
  ·rw [x];exact hT.low.own g hg
 ·rcases hb with hb|hb
  ·rcases ha with (x|x|x)|(x|x)
   ·exact hT.fV a (.inl x) hb.1
   ·rw [x]at hb;exact hT.fV _ (.inr jV) hb.1
   ·exact hb.2 x
   ·exact hT.fV a (.inr x.1) hb.1
   ·exact x
  ·exact hb
theorem avR(h:dB Γ k V)(jV:V.wc ⟨cc,1,none⟩)(hg:V.own g):dB Γ k ((V.less cc g).join (View.NK cc g)):=by
 refine⟨fun x=>x.elim (fun y=>h.own y.1) fun y=>y,fun a ha hb=>?_⟩;rcases ha with (x|x|x)|(x|x)
 ·exact h.cell a (.inl x) hb
 ·rw [x];exact⟨by simp,by simp⟩
 ·exact absurd (by rw [←hb,x];exact hg) h.own
 ·exact h.cell a (.inr x.1) hb
 ·exact x.elim
end
section
variable {D:cY} {a:Act} {g cap:Nat} {cn:Array Bool}
theorem aM7(I:Is Γ D)(hk:b.kind≠.early)(hq:(prog.funcs[b.fn]?).any (·.norace)=false)(hW:Wk Γ D V w1)(hc:jI Γ D Γ.me γ VK w1)(ha:Apart V VK)(lr:c.k=Γ.me)(dS:0<=c.no)(aU:D.lo c.no<D.len Γ.me)(ZP:c.no∉γ.done)(he:3<=e.n)
  (hn6:ba V w1 n (.cells #[.int .i64 (D.lo c.no),.int .i64 (D.hi Γ.me c.no)] 32 (0,0)))(ir:Row V w1 5 1 (.slice (some ⟨g,0,none⟩) (D.dC Γ.me c.no).length cap) (D.dC Γ.me c.no).length (D.dC Γ.me c.no))(ml:w1.cell? ⟨c.c,1,none⟩=some (.slice (some ⟨g,0,none⟩) (D.dC Γ.me c.no).length cap))(jV:V.wc ⟨c.c,1,none⟩)(oe:c.c≠Γ.src Γ.me)(mj:¬V.own c.ch)(xl:∀a,V.ro a\/V.wc a->a.block≠c.ch)
  (hs:a.tmps.size=69)(hd:a.defers=[ez #[78] 0 cn c.ch])(h0:a.eval (.tmp 0)=.pointer (some ⟨Γ.src Γ.me,0,none⟩))(h6:a.eval (.tmp 6)=.pointer (some ⟨n,0,none⟩))
  (K:∀V' w',akq V w1 g c.c (Γ.src Γ.me) V' w'->Tidy V' w'->dB Γ Γ.me V'->kF Γ (Next Γ ⟨e.n-1,e.s⟩ (.found c)) V' b cs w'):
  bf (At Γ) (fun t=>∃fw f',Made Γ e Γ.me (.bH c) γ fw f'/\t=⟨e,.bH c,.rel Γ.me γ fw f'⟩) (V.join VK) (G (b.at a (.code C6::[])) cs) w1:=by
 obtain⟨C,v,k1,k2,k3,k4⟩:=hc.set;obtain⟨es,cl,m1,m2,m3⟩:=id hc.map;have hJ:=hW.join hc.tidy ha hc.gB;obtain⟨cb,ct,U5,hcz⟩:=hW.blk;have hg:V.own g:=ir.2 g rfl;refine aM4 hk hJ.tidy k1.right k3 k4 (.inr hc.wc5) hc.two (.inr hc.wc6) ⟨cb,ct,U5⟩ (kZ _) (Nat.le_trans (GL I.ok hc.inn) (by decide)) (by rw [avH I.ok dS aU];simp) (by rw [GM I.ok hc.inn dS aU ZP];simp) (avI I.ok hc.inn dS aU ZP) hn6.left hs h0 h6 fun a2 todo V2 w2 C' v' d2 W2 c1 c2 c3 c4 c5 T2=>?_
 rw [hd]at d2;obtain⟨cb',aM8,aZX⟩:=W2.kind _ _ _ _ U5;have nl2:dB Γ Γ.me V2:=hJ.gB.aC (Array.getElem?_eq_some_iff.1 U5).1 W2;have hmp:V2.own (D.mp Γ.me):=W2.mine _ (.inr m1.1);have hCK:∀b,C' b->VK.own b\/w1.heap.size<=b:=fun b hb=>(c2 b hb).imp (fun x=>(k1 b x).1) id;have hCm:¬C' (D.mp Γ.me):=fun x=>(c2 _ x).elim k2 fun y=>by have:=hc.tidy.low.own _ m1.1;omega
 refine aM5 hq (W2.deaf.trans hW.deaf) I.me nl2 aM8 (by omega) lr (by omega) d2 fun w3 hr=>?_
 have hle:=azN (D:=D) (k:=Γ.me) (C':=C') W2.ro W2.wc (W2.deaf.trans hW.deaf) hmp fun b hb=>(c1 b hb).1;have hgB:(ss V V2 (D.mp Γ.me) C').own g:=⟨W2.mine _ (.inl hg),fun x=>ha.own g hg (x▸m1.1),fun x=>(hCK g x).elim (ha.own g hg) fun y=>by have:=hW.tidy.low.own g hg;omega⟩
 refine⟨ss V V2 (D.mp Γ.me) C',GP VK (D.mp Γ.me) C',hle.1,hle.2,ZV T2 ha W2.ro W2.wc hmp (fun b hb=>(c1 b hb).1),(I.cont _ _ _ _).2 (alX hc ha W2 T2 nl2 hr c1 hCm c3 c4 c5 ⟨dS,aU⟩ hCK),(fun _ h=>by cases h),rfl,fun w4 jU ho=>?_⟩
 have T3:Tidy (ss V V2 (D.mp Γ.me) C') w3:=(T2.aC (.bk hr)).part (fun _ h=>h.1) (fun a h=>by rw [W2.ro];exact .inl h) fun a h=>by rw [W2.wc];exact .inl h
 have T4:=T3.aC (.bk jU);have nl3:dB Γ Γ.me (ss V V2 (D.mp Γ.me) C'):=⟨fun x=>nl2.own x.1,fun a h=>hW.gB.cell a h⟩;have pl:=aM6 (V:=ss V V2 (D.mp Γ.me) C') rfl jV hgB;have a2B:=(ir.left (W:=VK)).go W2;have hx:w4.heap[g]? =w1.heap[g]? :=(jU.own g hgB).trans ((hr.own g (W2.mine _ (.inl hg))).trans (W2.own g (.inl hg) id));have hy:w4.cell? ⟨c.c,1,none⟩=w1.cell? ⟨c.c,1,none⟩:=(jU.cell _ (.inr jV)).trans ((hr.cell _ (.inr (by rw [W2.wc];exact .inl jV))).trans (W2.cell _ (.inr (.inl jV)) fun x=>oe x.1))
 refine⟨_,_,pl.1,pl.2,fun _ h=>h,fun _ h=>h,alW T4 jV hgB,(I.full _ _ _).2 (avP (V:=V) (cap:=cap) ?_ ?_ (T4.low.wc _ jV) (T4.low.own g hgB) (by rw [lr];exact oe) (by rw [lr];exact fun x=>nl3.own (x▸hgB))),fun s r tm hh=>K _ _ (ZW hW.tidy ha m1.1 W2 hr jU hCK mj xl hh oe fun x=>nl3.own (x▸hgB)) (avQ T4 jV hgB) (avR nl3 jV hgB)⟩
 ·rw [lr];exact⟨ew ir.1 fun g' h'=>by cases h';exact hx,ir.2⟩
 ·rw [lr,hy];exact ml
end
section
variable {D:cY} {w:World} {a:Act}
theorem ZX(I:Is Γ D)(hk:b.kind≠.early)(hq:(prog.funcs[b.fn]?).any (·.norace)=false)(hW:Wk Γ D V w)(lr:c.k=Γ.me)(dS:0<=c.no)(aU:D.lo c.no<D.len Γ.me)(he:4<=e.n)
  (Fo:Cl V w ⟨c.c,0,none⟩ (.chan (some c.ch)))(jV:V.wc ⟨c.c,1,none⟩)(jz:(w.cell? ⟨c.c,1,none⟩).isSome=true)(hblk:∃cs,w.heap[c.c]? =some (.cells cs 136 (0,0)))(oe:c.c≠Γ.src Γ.me)(hbs:∀bb o,D.bs Γ.me=some ⟨bb,o,none⟩->bb≠c.c)(mj:¬V.own c.ch)(ml:c.ch<w.heap.size)(xl:∀a,V.ro a\/V.wc a->a.block≠c.ch)
  (hs:a.tmps.size=69)(hd:a.defers=[])(h0:a.eval (.tmp 0)=.pointer (some ⟨Γ.src Γ.me,0,none⟩))(h1:a.eval (.tmp 1)=.int .i64 c.no)(h2:a.eval (.tmp 2)=.pointer (some ⟨c.c,0,none⟩))
  (K:∀g V1 w1 w2 V' w',w.heap.size<=g->aG aI (fun ad=>ad.block=c.c/\ad.off=1) V w V1 w1->aP V1 w1 w2->akq V1 w2 g c.c (Γ.src Γ.me) V' w'->Tidy V' w'->dB Γ Γ.me V'->kF Γ (Next Γ ⟨e.n-1-1,e.s⟩ (.found c)) V' b cs w'):
  bf (At Γ) (Next Γ e (.bH c)) V (G (b.at a (.code Ge::[])) cs) w:=by
 refine aM2 I hk hW dS aU Fo jV jz hblk hs hd h0 h1 h2 fun cn n g cap a1 V1 w1 s1 d1 f0 f6 hg W1 B1 hn R1 C1 T1=>?_;have zx:Wk Γ D V1 w1:=by
  refine⟨W1.deaf.trans hW.deaf,T1,hW.gB.aC hW.avE W1,?_,hW.src.aC W1 fun ad hA hx=>?_⟩
  ·obtain⟨x,ty,y1,y2⟩:=hW.blk;obtain⟨x',y3,y4⟩:=W1.kind _ _ _ _ y1;exact⟨x',ty,y3,y4.trans y2⟩
  ·rcases hx with rfl|rfl|rfl|⟨bb,o,j,e1,_,rfl⟩
   ·exact oe hA.1.symm
   ·exact oe hA.1.symm
   ·exact oe hA.1.symm
   ·exact hbs bb o e1 hA.1
 refine aM3 I hk zx lr (by omega) s1 f0 f6 ?_
 intro w2 γ VK hr rM ha jN U7 a2 s2 d2 g0 g6;obtain⟨_,ZP⟩:=U7 c rfl;refine aM7 I hk hq (zx.rely hr) ((I.cont _ _ _ _).1 jN) ha lr dS aU ZP (by show 3<=e.n-1;omega) (B1.rely hr) (R1.go (.bk hr)) ((C1.rely hr).2) (by rw [W1.wc];exact jV) oe (fun x=>?_) (fun ad h=>xl ad (by rw [W1.ro,W1.wc]at h;exact h)) s2 (d2.trans d1) g0 g6 fun V' w' S T N=>K g V1 w1 w2 V' w' hg W1 hr S T N
 rcases W1.new _ x with y|y
 ·exact mj y
 ·omega
end
section
variable {D:cY} {w:World} {a:Act} {off:Value}
theorem aZZ(I:Is Γ D)(hk:b.kind≠.early)(hW:Wk Γ D V w)(hs:a.tmps.size=56)(h0:a.eval (.tmp 0)=.pointer (some ⟨Γ.src Γ.me,0,none⟩))(h1:a.eval (.tmp 1)=.int .i64 no)(h2:a.eval (.tmp 2)=off)
  (K:iw Γ Γ.me e .none V w fun q V' w₁=>∀a',a'.tmps.size=56->a'.defers=a.defers->a'.eval (.tmp 0)=.pointer (some ⟨Γ.src Γ.me,0,none⟩)->a'.eval (.tmp 1)=.int .i64 no->a'.eval (.tmp 2)=off->bf (At Γ) q V' (G (b.at a' (.code Gd::k)) cs) w₁):
  bf (At Γ) (fun t=>t=⟨e,.none,.lk Γ.me .yJ⟩) V (G (b.at a (.code Gc::k)) cs) w:=by
 have hS:=bh (P:=prog) (main:=false) hk;obtain⟨ds,hd⟩:∃ds,a.defers=ds:=⟨_,rfl⟩;rw [hd]at K;refine aj hS aRo (ag hS aRj (rl [0] rfl) (ay acb hS hs (ak acb.o rfl) fun a ae h6=>t3 ae hs hd h0 h1 h2 fun hs hd h0 h1 h2=>?_));refine ai hS (aj hS aRn (ag hS aRk (rl [0,1,2,3] rfl) (ay ace hS hs (af ace.o h0) fun a ae h9=>t3 ae hs hd h0 h1 h2 fun hs hd h0 h1 h2=>?_)));refine ay acf hS hs (bE acf.o h9) fun a ae aM=>t3 ae hs hd h0 h1 h2 fun hs hd h0 h1 h2=>?_;refine ay acg hS hs (aB acg.o aM underlying61 rfl sizeOf58 (by decide) rfl) fun a ae aH=>t3 ae hs hd h0 h1 h2 fun hs hd h0 h1 h2=>?_
 have aH:a.eval (.tmp 11)=.pointer (some (eC Γ Γ.me)):=aH;exact lS vt.a vt.f hk vt.o func74 (by kernel_rfl) an5 (Gb (e:=e) (f:=.none) (b:=base 74) (by decide) hW.deaf I.me hW.gB hW.hb (by simp [show Tryz.f74.ntmps=6 from rfl]) rfl (by simpa [Act.eval]using aH) (K.mono fun q V' w₁ h a' todo aV=>jg rfl aV func74 rfl vt.a vt.d fun a au an ah=>al (h a (au.trans hs) (an.trans hd) ((ah 0 (by decide)).trans h0) ((ah 1 (by decide)).trans h1) ((ah 2 (by decide)).trans h2))))
end
section
variable {w:World} {a:Act} {off:Value}
theorem aZ0(hk:b.kind≠.early)(hm:Cl V w ⟨Γ.src Γ.me,4,none⟩ (.map (some r)))(hb:ba V w r (.map es cl))(hi:iu es.toList)
  (hs:a.tmps.size=56)(h0:a.eval (.tmp 0)=.pointer (some ⟨Γ.src Γ.me,0,none⟩))(h1:a.eval (.tmp 1)=.int .i64 no)(h2:a.eval (.tmp 2)=off)
  (K:∀a',a'.tmps.size=56->a'.defers=a.defers->a'.eval (.tmp 0)=.pointer (some ⟨Γ.src Γ.me,0,none⟩)->a'.eval (.tmp 1)=.int .i64 no->a'.eval (.tmp 2)=off->a'.eval (.tmp 7)=(kI es.toList no).getD (.pointer none)->a'.eval (.tmp 8)=.bool (kI es.toList no).isSome->Loc prog false Stop V (G (b.at a' (.code vu::k)) cs) w):
  Loc prog false Stop V (G (b.at a (.code Gd::k)) cs) w:=by
 have hS:=bh (P:=prog) (main:=false) hk;obtain⟨ds,hd⟩:∃ds,a.defers=ds:=⟨_,rfl⟩;rw [hd]at K;refine aj hS aRm (ag hS aRl (rl [0,1,2,3,4,5,6,7,8,9,10] rfl) (ay ach hS hs (af ach.o h0) fun a ae aW=>t3 ae hs hd h0 h1 h2 fun hs hd h0 h1 h2=>?_));refine ay aci hS hs (bE aci.o aW) fun a ae eS=>t3 ae hs hd h0 h1 h2 fun hs hd h0 h1 h2=>?_;refine ay acj hS hs (aB acj.o eS underlying61 rfl sizeOf59 (by decide) rfl) fun a ae fP=>t3 ae hs hd h0 h1 h2 fun hs hd h0 h1 h2=>?_
 refine ay ack hS hs (aL ack.o fP isAgg59 hm.cK) fun a ae bT=>t3 ae hs hd h0 h1 h2 fun hs hd h0 h1 h2=>?_;refine ay acm hS hs (af acm.o h1) fun a ae jL=>t4 ae hs hd h0 h1 h2 bT fun hs hd h0 h1 h2 bT=>?_;refine ay acn hS hs (aGE acn.o bT jL underlying59 underlying2 Tryz.zeroValue133 hb hi) fun a ae dz=>t3 ae hs hd h0 h1 h2 fun hs hd h0 h1 h2=>?_;refine ay aco hS hs (af aco.o dz) fun a ae aK=>t3 ae hs hd h0 h1 h2 fun hs hd h0 h1 h2=>?_;refine ay acp hS hs (bR acp.o aK rfl) fun a ae dE=>t4 ae hs hd h0 h1 h2 aK fun hs hd h0 h1 h2 aK=>?_;refine ay acr hS hs (bR acr.o aK rfl) fun a ae cD=>t4 ae hs hd h0 h1 h2 dE fun hs hd h0 h1 h2 dE=>?_;refine ay acs hS hs (ak acs.o dE) fun a ae h7=>t4 ae hs hd h0 h1 h2 cD fun hs hd h0 h1 h2 cD=>?_;refine ay QS hS hs (ak QS.o cD) fun a ae h8=>t4 ae hs hd h0 h1 h2 h7 fun hs hd h0 h1 h2 h7=>?_;exact ai hS (K _ hs hd h0 h1 h2 h7 h8)
end
section
variable {w:World} {a:Act}
theorem aV7(hk:b.kind≠.early)(hs:a.tmps.size=56)(h0:a.eval (.tmp 0)=x0)(h1:a.eval (.tmp 1)=x1)(h2:a.eval (.tmp 2)=x2)(h7:a.eval (.tmp 7)=x7)(h8:a.eval (.tmp 8)=.bool true)
  (K:∀a',a'.tmps.size=56->a'.defers=a.defers->a'.eval (.tmp 0)=x0->a'.eval (.tmp 1)=x1->a'.eval (.tmp 2)=x2->a'.eval (.tmp 7)=x7->a'.eval (.tmp 8)=.bool true->Loc prog false Stop V (G (b.at a' (.code s9::k)) cs) w):
  Loc prog false Stop V (G (b.at a (.code vu::k)) cs) w:=by
 have hS:=bh (P:=prog) (main:=false) hk;obtain⟨ds,hd⟩:∃ds,a.defers=ds:=⟨_,rfl⟩;rw [hd]at K;refine aj hS aBB (aj hS aBz (ag hS aBw aBx (ay zB hS hs (af zB.o h8) fun a ae kE=>t5 ae hs hd h0 h1 h2 h7 h8 fun hs hd h0 h1 h2 h7 h8=>?_)));refine ay zC hS hs (kl zC.o kE) fun a ae ga=>t5 ae hs hd h0 h1 h2 h7 h8 fun hs hd h0 h1 h2 h7 h8=>?_;exact ai hS (aX hS aBy ga (q_skip hS aG7 (K _ hs hd h0 h1 h2 h7 h8)))
end
section
variable {w:World} {a:Act} {x8:Value} {fw:Gh} {f':Fz} {cl:Array Value} {ct:TypeId}
theorem getD(hk:b.kind≠.early)(hV:V.deaf=0)(gU:Γ.me<Γ.ns)(nl:dB Γ Γ.me V)(hB:w.heap[Γ.src Γ.me]? =some (.cells cl ct (0,0)))(fO:2<cl.size)(hm:Made Γ e Γ.me .none γ fw f')
  (hs:a.tmps.size=56)(h0:a.eval (.tmp 0)=.pointer (some ⟨Γ.src Γ.me,0,none⟩))(h1:a.eval (.tmp 1)=x1)(h2:a.eval (.tmp 2)=x2)(h7:a.eval (.tmp 7)=x7)(h8:a.eval (.tmp 8)=x8)
  (H:eV Γ Γ.me fw f' V w fun V' w₁=>∀a',a'.tmps.size=56->a'.defers=a.defers->a'.eval (.tmp 0)=.pointer (some ⟨Γ.src Γ.me,0,none⟩)->a'.eval (.tmp 1)=x1->a'.eval (.tmp 2)=x2->a'.eval (.tmp 7)=x7->a'.eval (.tmp 8)=x8->bf (At Γ) (Next Γ e f') V' (G (b.at a' (.code ta::k)) cs) w₁):
  bf (At Γ) (fun t=>∃fw f',Made Γ e Γ.me .none γ fw f'/\t=⟨e,.none,.rel Γ.me γ fw f'⟩) V (G (b.at a (.code s9::k)) cs) w:=by
 have hS:=bh (P:=prog) (main:=false) hk;obtain⟨ds,hd⟩:∃ds,a.defers=ds:=⟨_,rfl⟩;rw [hd]at H;refine aj hS aHn (ag hS aG8 (rl [0,1,2,3] rfl) (ay acF hS hs (af acF.o h0) fun a ae bJ=>t5 ae hs hd h0 h1 h2 h7 h8 fun hs hd h0 h1 h2 h7 h8=>?_));refine ay acG hS hs (bE acG.o bJ) fun a ae cQ=>t5 ae hs hd h0 h1 h2 h7 h8 fun hs hd h0 h1 h2 h7 h8=>?_;refine ay acH hS hs (aB acH.o cQ underlying61 rfl sizeOf58 (by decide) rfl) fun a ae iF=>t5 ae hs hd h0 h1 h2 h7 h8 fun hs hd h0 h1 h2 h7 h8=>?_
 have iF:a.eval (.tmp 35)=.pointer (some (eC Γ Γ.me)):=iF;refine lS vv.a vv.f hk vv.o func75 (by kernel_rfl) an6 (Loc.mono ?_ (yv (b:=base 75) (e:=e) (f:=.none) (γ:=γ) (fw:=fw) (f':=f') (by decide) hV gU nl hB fO (by simp [show Tryz.f75.ntmps=6 from rfl]) rfl (by simpa [Act.eval]using iF) hm (H.mono fun V' w₁ K a' FJ aV=>jg rfl aV func75 rfl vv.a vv.d fun a au an ah=>al (K a (au.trans hs) (an.trans hd) ((ah 0 (by decide)).trans h0) ((ah 1 (by decide)).trans h1) ((ah 2 (by decide)).trans h2) ((ah 7 (by decide)).trans h7) ((ah 8 (by decide)).trans h8)))))
 rintro V g w ⟨t,rfl,h⟩;exact⟨_,⟨_,_,hm,rfl⟩,h⟩
end
theorem avS(n:Nat):prog.built 136 [(0,.chan (some n))]=some #[.chan (some n),.slice none 0 0]:=by kernel_rfl
theorem avT:(prog.info? 52).map (fun i=>(i.zero,i.size,i.bytes))=some (some (.agg #[]),0,0):=by kernel_rfl
section
variable {w:World} {a:Act}
theorem aV8(hk:b.kind≠.early)(hT:Tidy V w)(hm:Cl V w ⟨Γ.src Γ.me,4,none⟩ (.map (some r)))(hb:ba V w r (.map es cl))(hi:iu es.toList)(hn:kI es.toList no=none)(hs:a.tmps.size=56)(h0:a.eval (.tmp 0)=.pointer (some ⟨Γ.src Γ.me,0,none⟩))(h1:a.eval (.tmp 1)=.int .i64 no)(h2:a.eval (.tmp 2)=x2)(h8:a.eval (.tmp 8)=.bool false)
  (K:∀ch c a' V' w',a'.tmps.size=56->a'.defers=a.defers->a'.eval (.tmp 0)=.pointer (some ⟨Γ.src Γ.me,0,none⟩)->a'.eval (.tmp 1)=.int .i64 no->a'.eval (.tmp 2)=x2->a'.eval (.tmp 7)=.pointer (some ⟨c,0,none⟩)->a'.eval (.tmp 8)=.bool false->
   w.heap.size<=ch->w.heap.size<=c->c≠ch->aG (· =r) aD V w V' w'->ba V' w' ch (.chan 0 #[] false 0 0 false)->ba V' w' c (.cells #[.chan (some ch),.slice none 0 0] 136 (0,0))->ba V' w' r (.map (es.push {key:=.int .i64 no,val:=.pointer (some ⟨c,0,none⟩),born:=cl}) (cl+1))->Tidy V' w'->Loc prog false Stop V' (G (b.at a' (.code s9::k)) cs) w'):
  Loc prog false Stop V (G (b.at a (.code vu::k)) cs) w:=by
 have hS:=bh (P:=prog) (main:=false) hk;obtain⟨ds,hd⟩:∃ds,a.defers=ds:=⟨_,rfl⟩;rw [hd]at K;refine aj hS aBB (aj hS aBz (ag hS aBw aBx (ay zB hS hs (af zB.o h8) fun a ae kE=>t4 ae hs hd h0 h1 h2 h8 fun hs hd h0 h1 h2 h8=>?_)));refine ay zC hS hs (kl zC.o kE) fun a ae ga=>t4 ae hs hd h0 h1 h2 h8 fun hs hd h0 h1 h2 h8=>?_;refine ai hS (bY hS aBy ga (aj hS aG6 (ag hS aG4 (rl [0,1,2,3] rfl) ?_)));obtain⟨i52,aM9,_⟩:=info_parts avT;refine CX zD.a zD.f hS zD.d (by rw [hs];decide) hT zD.o rfl underlying78 aM9 fun ch a1 V1 w1 s1 d1 n1 oi W1 g1 B1 T1=>?_
 replace hd:=d1.trans hd;replace h0:=(n1 0 (by decide)).trans h0
 replace h1:=(n1 1 (by decide)).trans h1
 replace h2:=(n1 2 (by decide)).trans h2
 replace h8:=(n1 8 (by decide)).trans h8
 replace hs:=s1.trans hs;clear s1 d1 n1;refine ay acx hS hs (lA acx.o (by simp only [List.map_toArray,List.map_cons,List.map_nil,oi];exact avS ch)) fun a ae o9=>t4 ae hs hd h0 h1 h2 h8 fun hs hd h0 h1 h2 h8=>?_
 refine pg zE.a zE.f hS zE.d (by rw [hs];decide) T1 zE.o o9 fun c a2 V2 w2 s2 d2 n2 fe W2 g2 B2 T2=>?_
 replace hd:=d2.trans hd;replace h0:=(n2 0 (by decide)).trans h0
 replace h1:=(n2 1 (by decide)).trans h1
 replace h2:=(n2 2 (by decide)).trans h2
 replace h8:=(n2 8 (by decide)).trans h8
 replace hs:=s2.trans hs;clear s2 d2 n2;refine ay acy hS hs (ak acy.o fe) fun a ae h7=>t4 ae hs hd h0 h1 h2 h8 fun hs hd h0 h1 h2 h8=>?_;refine ai hS (ag hS aG5 (rl [0,1,2,3,4,5,6] rfl) (ay acz hS hs (af acz.o h0) fun a ae dT=>t5 ae hs hd h0 h1 h2 h8 h7 fun hs hd h0 h1 h2 h8 h7=>?_));refine ay acA hS hs (bE acA.o dT) fun a ae cI=>t5 ae hs hd h0 h1 h2 h8 h7 fun hs hd h0 h1 h2 h8 h7=>?_;refine ay acB hS hs (aB acB.o cI underlying61 rfl sizeOf59 (by decide) rfl) fun a ae fc=>t5 ae hs hd h0 h1 h2 h8 h7 fun hs hd h0 h1 h2 h8 h7=>?_
 refine ay acC hS hs (aL acC.o fc isAgg59 (((hm.go W1).go W2).cK)) fun a ae eK=>t5 ae hs hd h0 h1 h2 h8 h7 fun hs hd h0 h1 h2 h8 h7=>?_;refine ay acD hS hs (af acD.o h1) fun a ae lg=>t6 ae hs hd h0 h1 h2 h8 h7 eK fun hs hd h0 h1 h2 h8 h7 eK=>?_;refine ay acE hS hs (af acE.o h7) fun a ae bG=>t7 ae hs hd h0 h1 h2 h8 h7 eK lg fun hs hd h0 h1 h2 h8 h7 eK lg=>?_;have yn:=(hb.go W1).go W2;refine ao6 zF.a zF.f hS zF.d zF.o eK lg bG underlying59 underlying2 yn hi hn T2 fun w3 W3 B3 T3 z3=>ai hS (K ch c _ _ _ hs hd h0 h1 h2 h7 h8 g1 (Nat.le_trans W1.size g2) ?_ (((W1.trans W2).mono (fun _ h=>h.elim) fun _ h=>h).trans W3) (((B1.go W2)).off W3 ?_) (B2.off W3 ?_) B3 T3)
 ·have:=B1.lt;omega
 ·have:=hb.lt;omega
 ·have:=hb.lt;have:=W1.size;omega
end
section
variable {w:World} {a:Act}
theorem aV9(hk:b.kind≠.early)(hs:a.tmps.size=56)(h0:a.eval (.tmp 0)=x0)(h1:a.eval (.tmp 1)=x1)(h2:a.eval (.tmp 2)=x2)(h7:a.eval (.tmp 7)=x7)(h8:a.eval (.tmp 8)=.bool true)
  (K:∀a',a'.tmps.size=56->a'.defers=a.defers->a'.eval (.tmp 0)=x0->a'.eval (.tmp 1)=x1->a'.eval (.tmp 2)=x2->a'.eval (.tmp 7)=x7->a'.eval (.tmp 8)=.bool true->Loc prog false Stop V (G (b.at a' (.code pk::k)) cs) w):
  Loc prog false Stop V (G (b.at a (.code ta::k)) cs) w:=by
 have hS:=bh (P:=prog) (main:=false) hk;obtain⟨ds,hd⟩:∃ds,a.defers=ds:=⟨_,rfl⟩;rw [hd]at K;refine aj hS apx (aj hS apu (ag hS apr aBA (ay zG hS hs (af zG.o h8) fun a ae iI=>t5 ae hs hd h0 h1 h2 h7 h8 fun hs hd h0 h1 h2 h7 h8=>?_)));refine ay zH hS hs (kl zH.o iI) fun a ae nz=>t5 ae hs hd h0 h1 h2 h7 h8 fun hs hd h0 h1 h2 h7 h8=>?_;exact ai hS (aX hS apt nz (q_skip hS aHa (K _ hs hd h0 h1 h2 h7 h8)))
end
section
variable {D:cY} {w:World} {a:Act}
theorem aWa(I:Is Γ D)(hk:b.kind≠.early)(hW:Wk Γ D V w)(lr:c.k=Γ.me)(dS:0<=c.no)(aU:D.lo c.no<D.len Γ.me)(he:4<=e.n)
  (Fo:Cl V w ⟨c.c,0,none⟩ (.chan (some c.ch)))(jV:V.wc ⟨c.c,1,none⟩)(jz:(w.cell? ⟨c.c,1,none⟩).isSome=true)(hblk:∃cs,w.heap[c.c]? =some (.cells cs 136 (0,0)))(oe:c.c≠Γ.src Γ.me)(hbs:∀bb o,D.bs Γ.me=some ⟨bb,o,none⟩->bb≠c.c)(mj:¬V.own c.ch)(ml:c.ch<w.heap.size)(xl:∀a,V.ro a\/V.wc a->a.block≠c.ch)
  (hs:a.tmps.size=56)(h0:a.eval (.tmp 0)=.pointer (some ⟨Γ.src Γ.me,0,none⟩))(h1:a.eval (.tmp 1)=.int .i64 c.no)(h2:a.eval (.tmp 2)=x2)(h7:a.eval (.tmp 7)=.pointer (some ⟨c.c,0,none⟩))(h8:a.eval (.tmp 8)=.bool false)
  (K:∀g V1 w1 w2 V' w' a',w.heap.size<=g->aG aI (fun ad=>ad.block=c.c/\ad.off=1) V w V1 w1->aP V1 w1 w2->akq V1 w2 g c.c (Γ.src Γ.me) V' w'->Tidy V' w'->dB Γ Γ.me V'->
   a'.tmps.size=56->a'.defers=a.defers->a'.eval (.tmp 2)=x2->a'.eval (.tmp 7)=.pointer (some ⟨c.c,0,none⟩)->bf (At Γ) (Next Γ ⟨e.n-1-1,e.s⟩ (.found c)) V' (G (b.at a' (.code pk::k)) cs) w'):
  bf (At Γ) (Next Γ e (.bH c)) V (G (b.at a (.code ta::k)) cs) w:=by
 have hS:=bh (P:=prog) (main:=false) hk;obtain⟨ds,hd⟩:∃ds,a.defers=ds:=⟨_,rfl⟩;rw [hd]at K;refine aj hS apx (aj hS apu (ag hS apr aBA (ay zG hS hs (af zG.o h8) fun a ae iI=>t4 ae hs hd h0 h1 h2 h7 fun hs hd h0 h1 h2 h7=>?_)));refine ay zH hS hs (kl zH.o iI) fun a ae nz=>t4 ae hs hd h0 h1 h2 h7 fun hs hd h0 h1 h2 h7=>?_;refine ai hS (bY hS apt nz (ag hS aG9 (rl [0,1,2,3] rfl) (ay acJ hS hs (af acJ.o h0) fun a ae im=>t3 ae hs hd h1 h2 h7 fun hs hd h1 h2 h7=>?_)));refine ay acK hS hs (af acK.o h1) fun a ae fQ=>t3 ae hs hd h2 h7 im fun hs hd h2 h7 im=>?_;refine ay acL hS hs (af acL.o h7) fun a ae iT=>t4 ae hs hd h2 h7 im fQ fun hs hd h2 h7 im fQ=>?_;exact lS vx.a vx.f hk vx.o func76 (by kernel_rfl) aHs (ZX (b:=base 76) I (by decide) (by kernel_rfl) hW lr dS aU he Fo jV jz hblk oe hbs mj ml xl (by simp [show Tryz.f76.ntmps=69 from rfl]) rfl (by simpa [Act.eval]using im) (by simpa [Act.eval]using fQ) (by simpa [Act.eval]using iT) fun g V1 w1 w2 V' w' hg W1 hr S T N a' todo aV=>jg rfl aV func76 rfl vx.a vx.d fun a au an ah=>al (K g V1 w1 w2 V' w' a hg W1 hr S T N (au.trans hs) (an.trans hd) ((ah 2 (by decide)).trans h2) ((ah 7 (by decide)).trans h7)))
end
section
variable {D:cY} {w:World} {a:Act}
theorem Uu{o:Oper}{x y:Operand}{w:World}{p q:Nat}(aE:o.op=.select #[{chan:=x,send:=none,elem:=52},{chan:=y,send:=none,elem:=52}] true)(hx:a.eval x=.chan (some p))(hy:a.eval y=.chan (some q)):
  (execOp a.eval o).run prog w=.ok (.comm #[rcase p (.agg #[]),rcase q (.agg #[])] true .select) w/\(execOp a.eval o).events prog w #[]=#[]:=by
 have hz:=Tryz.zeroValue52;simp only [Act.eval,Array.getD_eq_getD_getElem?]at hx hy;unfold execOp;simp only [aE];constructor
 ·simp [go_sem,hx,hy,hz,rcase]
 ·simp [go_sem,hx,hy,hz,rcase]
theorem aZ1(I:Is Γ D)(hk:b.kind≠.early)(hV:V.deaf=0)(he:1<=e.n)(Fo:Cl V w ⟨c.c,0,none⟩ (.chan (some c.ch)))
  (hs:a.tmps.size=56)(h2:a.eval (.tmp 2)=.chan (some Γ.off))(h7:a.eval (.tmp 7)=.pointer (some ⟨c.c,0,none⟩))
  (K:∀VC w₁ bb cap a' todo,aP V w w₁->Apart V VC->kY Γ D c VC w₁->(∀b,¬VC.own b)->(∀a,¬VC.wc a)->VC.deaf=0->VC.ro ⟨c.c,1,none⟩->w₁.cell? ⟨c.c,1,none⟩=some (.slice (some ⟨bb,0,none⟩) (D.cut c.k (D.lo c.no) (D.hi c.k c.no)).length cap)->a'.defers=a.defers->
   a'.eval (.tmp 6)=.slice (some ⟨bb,0,none⟩) (D.cut c.k (D.lo c.no) (D.hi c.k c.no)).length cap->bf (At Γ) (Next Γ ⟨e.n-1,e.s⟩ .none) (V.join VC) (G {b.at a' todo with mode:=.returning} cs) w₁):
  bf (At Γ) (Next Γ e (.found c)) V (G (b.at a (.code pk::k)) cs) w:=by
 have hS:=bh (P:=prog) (main:=false) hk;obtain⟨ds,hd⟩:∃ds,a.defers=ds:=⟨_,rfl⟩;rw [hd]at K;refine aj hS aHm (aj hS aHd (ag hS aHb (rl [0,1,2,3] rfl) (ay acM hS hs (af acM.o h7) fun a ae zz=>t2 ae hs hd h2 h7 fun hs hd h2 h7=>?_)));refine ay acN hS hs (bE acN.o zz) fun a ae mS=>t2 ae hs hd h2 h7 fun hs hd h2 h7=>?_;refine ay acO hS hs (aB acO.o mS underlying136 rfl sizeOf78 (by decide) rfl) fun a ae xu=>t2 ae hs hd h2 h7 fun hs hd h2 h7=>?_
 refine ay acP hS hs (aL acP.o xu isAgg78 Fo.cK) fun a ae jZ=>t2 ae hs hd h2 h7 fun hs hd h2 h7=>?_;refine ai hS (ag hS aHc (rl [0] rfl) (ay QX hS hs (af QX.o h2) fun a ae lV=>t2 ae hs hd h7 jZ fun hs hd h7 jZ=>?_));refine ai hS (aj hS aHl (ag hS aHe (rl [0,1,2,3] rfl) ?_));refine di ⟨⟨e.n-1,e.s⟩,.found c,.recv⟩ ⟨by show e.n-1<e.n;omega,rfl,rfl,rfl⟩ fun fU gb=>At.fold ⟨rfl,c,rfl,hV,.agg #[],fun w₁ hr=>⟨?_,fun VC q1 q2 q3 q4 q5=>?_⟩⟩
 ·obtain⟨r1,r2⟩:=Uu (w:=w₁) mq.o jZ lV;rw [stepG_comm mq.a mq.f hk r1];simp [listed,r2,seen_none]
 ·obtain⟨bb,cap,f1,f2,f3,f4⟩:=((I.full _ _ _).1 q1).ex;obtain⟨vs,hvs,rM⟩:∃vs,commResult #[rcase c.ch (.agg #[]),rcase Γ.off (.agg #[])] .select 0 (.agg #[]) false=.tuple vs/\vs[0]? =some (.int .i64 0):=⟨_,rfl,by simp [goInt]⟩
  show bf (At Γ) _ _ (Go.Conc.served (G _ cs) _) w₁
  rw [hvs,Go.Conc.served_G,mq.a];have u:=bj a (nR pn 0).dst (.tuple vs);show bf (At Γ) _ _ (G (b.at (a.put (nR pn 0).dst (.tuple vs)) _) cs) w₁
  generalize a.put (nR pn 0).dst (.tuple vs)=a1 at u;have E0:a1.eval (.tmp 48)=.tuple vs:=u.eq 48 mq.d (by rw [hs];decide)
  replace h7:=(u.ne 7 (by rw [mq.d];decide)).trans h7
  replace hs:=u.size.trans hs;replace hd:=u.defers.trans hd;clear u;obtain⟨a,rfl⟩:∃x,x=a1:=⟨_,rfl⟩;refine ay QY hS hs (bR QY.o E0 rM) fun a ae yQ=>t1 ae hs hd h7 fun hs hd h7=>?_;refine ay QZ hS hs (eH QZ.o yQ rfl) fun a ae sf=>t2 ae hs hd h7 yQ fun hs hd h7 yQ=>?_;refine ay Q0 hS hs (eH Q0.o yQ rfl) fun a ae rP=>t2 ae hs hd h7 sf fun hs hd h7 sf=>?_;refine ai hS (bV hS aHk (bY hS aHj sf (aj hS aHh (ag hS aHf (rl [0,1,2,3,4] rfl) (ay Q2 hS hs (af Q2.o h7) fun a ae tA=>t0 ae hs hd fun hs hd=>?_)))));refine ay Q3 hS hs (bE Q3.o tA) fun a ae xK=>t0 ae hs hd fun hs hd=>?_;refine ay Q4 hS hs (aB Q4.o xK underlying136 rfl sizeOf25 (by decide) rfl) fun a ae NM=>t0 ae hs hd fun hs hd=>?_
  refine ay Q5 hS hs (aL Q5.o NM isAgg25 (show iJ (V.join VC) w₁ _ _ from⟨.inr (.inl (.inr f1)),f2⟩)) fun a ae Fe=>t0 ae hs hd fun hs hd=>?_
  refine ay Q6 hS hs (ak Q6.o Fe) fun a ae h6=>t0 ae hs hd fun hs hd=>?_;exact ai hS (dg aHg fun todo=>K VC w₁ bb cap _ todo (gb.trans hr) q5 ((I.full _ _ _).1 q1) q2 q3 q4 f1 f2 hd h6)
end
structure eM(V:View)(w:World)(V':View)(w':World):Prop where
 tape:w'.tape=w.tape
 size:w.heap.size<=w'.heap.size
 kind:eG w w'
 own:∀b,V.own b->V'.own b/\w'.heap[b]? =w.heap[b]?
 ro:∀a,V.ro a->V'.ro a/\w'.cell? a=w.cell? a
 wc:∀a,V.wc a->V'.wc a/\w'.cell? a=w.cell? a
theorem eM.bk{V:View}{w w':World}(h:aP V w w'):eM V w V w':=⟨h.tape,h.size,h.kind,fun b hb=>⟨hb,h.own b hb⟩,fun a ha=>⟨ha,h.cell a (.inl ha)⟩,fun a ha=>⟨ha,h.cell a (.inr ha)⟩⟩
theorem eM.trans{V V' dq:View}{w w' cO:World}(h:eM V w V' w')(k:eM V' w' dq cO):eM V w dq cO:=
 ⟨k.tape.trans h.tape,Nat.le_trans h.size k.size,h.kind.trans k.kind,fun b hb=>⟨(k.own b (h.own b hb).1).1,(k.own b (h.own b hb).1).2.trans (h.own b hb).2⟩,
  fun a ha=>⟨(k.ro a (h.ro a ha).1).1,(k.ro a (h.ro a ha).1).2.trans (h.ro a ha).2⟩,fun a ha=>⟨(k.wc a (h.wc a ha).1).1,(k.wc a (h.wc a ha).1).2.trans (h.wc a ha).2⟩⟩
theorem eM.aC{V V':View}{w w':World}(h:aG aI aD V w V' w'):eM V w V' w':=
 ⟨h.tape,h.size,h.kind,fun b hb=>⟨h.mine b hb,h.own b hb id⟩,fun a ha=>⟨by rw [h.ro];exact ha,h.cell a (.inl ha) id⟩,fun a ha=>⟨by rw [h.wc];exact ha,h.cell a (.inr ha) id⟩⟩
theorem eM.view{V V' dq:View}{w w':World}(h:eM V w V' w')(ho:∀b,V'.own b->dq.own b)(hr:∀a,V'.ro a->dq.ro a)(hw:∀a,V'.wc a->dq.wc a):eM V w dq w':=
 ⟨h.tape,h.size,h.kind,fun b hb=>⟨ho b (h.own b hb).1,(h.own b hb).2⟩,fun a ha=>⟨hr a (h.ro a ha).1,(h.ro a ha).2⟩,fun a ha=>⟨hw a (h.wc a ha).1,(h.wc a ha).2⟩⟩
section
variable {D:cY} {w:World} {b:Nat} {o:Obj} {v:Value} {e:TypeId} {size:Nat} {k:Nat}
theorem ba.keeps(h:ba V w b o)(K:eM V w V' w'):ba V' w' b o:=⟨(K.own b h.1).1,(K.own b h.1).2.trans h.2⟩
theorem Cl.keeps(h:Cl V w ad v)(K:eM V w V' w'):Cl V' w' ad v:=⟨h.1.imp (fun x=>(K.ro ad x).1) fun x=>(K.wc ad x).1,(h.1.elim (fun x=>(K.ro ad x).2) fun x=>(K.wc ad x).2).trans h.2⟩
theorem Row.keeps(h:Row V w e size v n xs)(K:eM V w V' w'):Row V' w' e size v n xs:=⟨ew h.1 fun g hg=>(K.own g (h.2 g hg)).2,fun g hg=>(K.own g (h.2 g hg)).1⟩
theorem kX.keeps(h:kX Γ D k V w)(K:eM V w V' w'):kX Γ D k V' w':=⟨h.obj.keeps K,h.unit.keeps K,h.map.keeps K,fun b o e j x hj=>(h.bytes b o e j x hj).keeps K⟩
theorem Wk.keeps(h:Wk Γ D V w)(K:eM V w V' w')(hd:V'.deaf=0)(hT:Tidy V' w')(hn:dB Γ Γ.me V'):Wk Γ D V' w':=by
 refine⟨hd,hT,hn,?_,h.src.keeps K⟩;obtain⟨c,ty,h1,h2⟩:=h.blk;obtain⟨c',h3,h4⟩:=K.kind _ _ _ _ h1;exact⟨c',ty,h3,h4.trans h2⟩
theorem kY.tidy{c:xp}{VC:View}(h:kY Γ D c VC w)(hT:Tidy V w)(ho:∀b,¬VC.own b)(hw:∀a,¬VC.wc a):Tidy VC w:=
 ⟨hT.gl,⟨fun b hb=>(ho b hb).elim,fun a ha=>(hw a ha).elim,h.low⟩,fun a ha hb=>ho _ hb⟩
theorem kY.aZ2{c:xp}{VC:View}(h:kY Γ D c VC w)(lr:c.k=k)(ho:∀b,¬VC.own b)(hw:∀a,¬VC.wc a):dB Γ k VC:=
 ⟨ho _,fun a ha hb=>by
  rcases ha with x|x
  ·exact absurd (lr▸hb) (h.gB a x)
  ·exact(hw a x).elim⟩
theorem GQ{bO:List xp}{no:Int}{c:xp}(h:bO.find? (fun c=>c.no==no)=some c):c∈bO/\c.no=no:=⟨List.mem_of_find?_eq_some h,by have:=List.find?_some h;simpa using this⟩
end
section
variable {D:cY} {w:World}
def yE(Γ:Rc)(VK:View)(X:Addr->Prop):View:=⟨VK.own,fun a=>VK.ro a\/X a,fun a=>a=⟨Γ.src Γ.me,5,none⟩\/a=⟨Γ.src Γ.me,6,none⟩,0⟩
def yF(V:View)(R W:Addr->Prop):View:=⟨V.own,fun a=>V.ro a\/R a,fun a=>V.wc a\/W a,0⟩
theorem EF{X R W:Addr->Prop}(hc:jI Γ D Γ.me γ VK w)(ha:Apart V VK)(hX:∀a,X a->¬V.own a.block/\¬V.wc a/\¬W a)(hR:∀a,R a->¬VK.own a.block/\a≠⟨Γ.src Γ.me,5,none⟩/\a≠⟨Γ.src Γ.me,6,none⟩)
  (hW:∀a,W a->¬VK.own a.block/\¬VK.ro a/\a≠⟨Γ.src Γ.me,5,none⟩/\a≠⟨Γ.src Γ.me,6,none⟩):Apart (yF V R W) (yE Γ VK X):=by
 have hk:∀a,(yE Γ VK X).wc a->VK.wc a:=fun a h=>h.elim (fun e=>e▸hc.wc5) fun e=>e▸hc.wc6;refine⟨ha.own,fun a h=>?_,fun a h=>?_,fun a h x=>?_,fun a h x=>?_⟩
 ·rcases h with h|h
  ·exact⟨fun x=>(ha.wc a h).1 (hk a x),fun x=>x.elim (ha.wc a h).2.1 fun y=>(hX a y).2.1 h,(ha.wc a h).2.2⟩
  ·exact⟨fun x=>x.elim (hW a h).2.2.1 (hW a h).2.2.2,fun x=>x.elim (hW a h).2.1 fun y=>(hX a y).2.2 h,(hW a h).1⟩
 ·have h':=ha.mX a (hk a h);refine⟨fun x=>x.elim h'.1 fun y=>?_,fun x=>x.elim h'.2.1 fun y=>?_,h'.2.2⟩
  ·exact h.elim (hW a y).2.2.1 (hW a y).2.2.2
  ·exact h.elim (hR a y).2.1 (hR a y).2.2
 ·exact h.elim (fun y=>ha.ro a y x) fun y=>(hR a y).1 x
 ·exact h.elim (fun y=>ha.ro' a y x) fun y=>(hX a y).1 x
end
theorem Next.le{Γ:Rc}{e e':En}{f:Fz}{t:Tag}(hs:e.s=e'.s)(hn:e.n<=e'.n)(h:Next Γ e f t):Next Γ e' f t:=by
 refine⟨Nat.lt_of_lt_of_le h.1 hn,?_⟩;have:=h.2;cases f<;>simpa only [←hs]using this
theorem bf.aNa{X:Tag->View->Goroutine->World->Prop}{q q':Tag->Prop}{V:View}{g:Goroutine}{w:World}(h:bf X q V g w)(hq:∀t,q t->q' t):bf X q' V g w:=Loc.mono (fun V g w ⟨t,ht,hx⟩=>⟨t,hq t ht,hx⟩) h
section
variable {D:cY} {w:World} {a:Act} {e':En}
def j5(Γ:Rc)(V:View):Prop:=∀a,V.ro a\/V.wc a->a.block=Γ.src Γ.me->a.off≠5/\a.off≠6
def azO(Γ:Rc)(D:cY)(e:En)(no:Int)(V:View)(w:World)(b:Frame)(cs:List Frame):Prop:=
 ∀V' w' bb cap,eM V w V' w'->Wk Γ D V' w'->j5 Γ V'->(∀j x,(D.cut Γ.me (D.lo no) (D.hi Γ.me no))[j]? =some x->V'.ro ⟨bb,j,none⟩/\w'.cell? ⟨bb,j,none⟩=some (dG x))->(D.cut Γ.me (D.lo no) (D.hi Γ.me no)).length<=cap->
  ∀a' todo,a'.defers=[]->a'.eval (.tmp 6)=.slice (some ⟨bb,0,none⟩) (D.cut Γ.me (D.lo no) (D.hi Γ.me no)).length cap->bf (At Γ) (Next Γ ⟨e.n-4,e.s⟩ .none) V' (G {b.at a' todo with mode:=.returning} cs) w'
theorem avU(I:Is Γ D)(hk:b.kind≠.early)(hW:Wk Γ D V' w')(Fo:Cl V' w' ⟨c.c,0,none⟩ (.chan (some c.ch)))(lr:c.k=Γ.me)(dS:c.no=no)(hK:eM V w V' w')(hN:j5 Γ V')(he1:1<=e'.n)(he2:e.n<=e'.n+3)(he3:e'.s=e.s)(hs:a.tmps.size=56)(hd:a.defers=[])(h2:a.eval (.tmp 2)=.chan (some Γ.off))(h7:a.eval (.tmp 7)=.pointer (some ⟨c.c,0,none⟩))
  (K:azO Γ D e no V w b cs):bf (At Γ) (Next Γ e' (.found c)) V' (G (b.at a (.code pk::k)) cs) w':=by
 subst dS;refine aZ1 I hk hW.deaf he1 Fo hs h2 h7 fun VC w₁ bb cap a' todo hr VB hf dS hnw hd0 VX jz oh h6=>?_;obtain⟨bb',Nx,f1,f2,f3,f4⟩:=hf.ex;rw [jz]at f2;cases f2;rw [lr]at f3 f4 h6;have hT:=(hW.rely hr).tidy;have hK2:eM V w (V'.join VC) w₁:=(hK.trans (.bk hr)).view (fun _ x=>.inl x) (fun _ x=>.inl x) fun _ x=>.inl x;refine(K _ _ bb cap hK2 ((hW.rely hr).join (hf.tidy hT dS hnw) VB (hf.aZ2 lr dS hnw)) (fun a h hb=>?_) (fun j x hj=>⟨.inr (f4 j x hj).1,(f4 j x hj).2⟩) f3 a' todo (oh.trans hd) h6).aNa fun t=>Next.le he3.symm (by show e.n-4<=e'.n-1;omega)
 rcases h with (h|h)|(h|h)
 ·exact hN a (.inl h) hb
 ·exact absurd (lr▸hb) (hf.gB a h)
 ·exact hN a (.inr h) hb
 ·exact(hnw a h).elim
theorem alZ(I:Is Γ D)(hk:b.kind≠.early)(hW:Wk Γ D V w')(hc:jI Γ D Γ.me γ VK w')(ha:Apart V VK)(hK:eM V w V w')(hN:j5 Γ V)(hm:c∈γ.bO)(dS:c.no=no)(rp:no=Γ.item e.s)(he:5<=e.n)
  (hs:a.tmps.size=56)(hd:a.defers=[])(h0:a.eval (.tmp 0)=.pointer (some ⟨Γ.src Γ.me,0,none⟩))(h1:a.eval (.tmp 1)=.int .i64 no)(h2:a.eval (.tmp 2)=.chan (some Γ.off))(h7:a.eval (.tmp 7)=.pointer (some ⟨c.c,0,none⟩))(h8:a.eval (.tmp 8)=.bool true)
  (K:azO Γ D e no V w b cs):
  bf (At Γ) (fun t=>∃fw f',Made Γ e Γ.me .none γ fw f'/\t=⟨e,.none,.rel Γ.me γ fw f'⟩) (V.join VK) (G (b.at a (.code vu::k)) cs) w':=by
 refine aV7 hk hs h0 h1 h2 h7 h8 fun a3 s3 d3 p0 p1 p2 p7 p8=>?_;have hJ:=hW.join hc.tidy ha hc.gB;obtain⟨cb,ct,U5,hcz⟩:=hW.blk;have lr:=hc.ks c hm;refine getD hk hJ.deaf I.me hJ.gB U5 (by omega) (Made.found hm lr rfl (dS.trans rp)) s3 p0 p1 p2 p7 p8 ?_
 intro w2 hr2;have xl:=(hc.yr c hm).ch;refine⟨yF V (fun a=>a=⟨c.c,0,none⟩) (fun _=>False),yE Γ VK (fun _=>False),⟨fun _ h=>.inl h,fun a h=>h.elim (fun x=>.inl (.inl x)) fun x=>x.elim,fun a h=>h.elim (fun x=>.inl (.inl x)) fun x=>.inl (.inr (x▸xl.1)),hW.deaf.symm⟩,
  ⟨fun _ h=>.inr h,fun a h=>.inl (.inr (h.elim (fun e=>e▸hc.wc5) fun e=>e▸hc.wc6)),fun a h=>h.elim (fun x=>.inl (.inr x)) fun x=>x.elim,hW.deaf.symm⟩,EF hc ha (fun _ h=>h.elim) (fun a h=>?_) (fun _ h=>h.elim),(I.cont _ _ _ _).2 ?_,(fun _ h=>by cases h),?_⟩
 ·subst h;exact⟨fun x=>hc.tidy.fV _ (.inl xl.1) x,by simp,by simp⟩
 ·have hkr:aP VK w' w2:=hr2.weaken (fun _ h=>.inr h) fun a h=>h.elim (fun x=>.inl (.inr x)) fun x=>.inr (.inr x);have h2:=hc.rely hkr;obtain⟨es,cl,m1,m2,m3⟩:=h2.map;obtain⟨C,v,k1,k2,k3,k4⟩:=h2.set;have hw:∀a,(yE Γ VK fun _=>False).wc a->VK.wc a:=fun a h=>h.elim (fun e=>e▸hc.wc5) fun e=>e▸hc.wc6;have VX:∀a,(yE Γ VK fun _=>False).ro a->VK.ro a:=fun a h=>h.elim id fun x=>x.elim;exact⟨h2.tidy.part (fun _ h=>h) VX hw,⟨es,cl,m1,m2,m3⟩,.inl rfl,.inr rfl,h2.two,⟨C,v,⟨k1.tt,k1.at_⟩,k2,k3,k4⟩,fun d hd=>⟨⟨.inl (h2.yr d hd).ch.1,(h2.yr d hd).ch.2⟩,(h2.yr d hd).blk⟩,h2.inn,⟨h2.gB.own,fun a x=>h2.gB.cell a (x.imp (VX a) (hw a))⟩,rfl,h2.ks,h2.new⟩
 ·intro a4 s4 d4 q0 q1 q2 q7 q8;refine aV9 hk s4 q0 q1 q2 q7 q8 fun a5 s5 d5 u0 u1 u2 u7 u8=>?_;have hrV:aP V w' w2:=hr2.weaken (fun _ h=>.inl h) fun a h=>h.elim (fun x=>.inl (.inl x)) fun x=>.inr (.inl x);have Uv:=hW.rely hrV;have ml:w2.cell? ⟨c.c,0,none⟩=some (.chan (some c.ch)):=(hr2.cell _ (.inl (.inr xl.1))).trans xl.2;have hWg:Wk Γ D (yF V (fun a=>a=⟨c.c,0,none⟩) (fun _=>False)) w2:=by
   refine⟨rfl,⟨Uv.tidy.gl,⟨Uv.tidy.low.own,fun a h=>h.elim (Uv.tidy.low.wc a) fun x=>x.elim,fun a h=>h.elim (Uv.tidy.low.ro a) fun x=>?_⟩,fun a h hb=>?_⟩,⟨Uv.gB.own,fun a h hb=>?_⟩,Uv.blk,Uv.src.view fun a h=>h.imp .inl .inl⟩
   ·subst x;exact Nat.lt_of_lt_of_le (hc.tidy.low.ro _ xl.1) hr2.size
   ·rcases h with (h|h)|(h|h)
    ·exact Uv.tidy.fV a (.inl h) hb
    ·subst h;exact ha.ro' _ xl.1 hb
    ·exact Uv.tidy.fV a (.inr h) hb
    ·exact h.elim
   ·rcases h with (h|h)|(h|h)
    ·exact Uv.gB.cell a (.inl h) hb
    ·subst h;exact⟨by simp,by simp⟩
    ·exact Uv.gB.cell a (.inr h) hb
    ·exact h.elim
  refine avU I hk hWg ⟨.inl (.inr rfl),ml⟩ lr dS ((hK.trans (.bk hrV)).view (fun _ x=>x) (fun _ x=>.inl x) fun _ x=>.inl x) (fun a h hb=>?_) (by omega) (by omega) rfl s5 ((d5.trans (d4.trans d3)).trans hd) u2 u7 K
  rcases h with (h|h)|(h|h)
  ·exact hN a (.inl h) hb
  ·subst h;exact⟨by simp,by simp⟩
  ·exact hN a (.inr h) hb
  ·exact h.elim
end
end Go.Proofs.YtmcddajniiaieaaGreatDoor
