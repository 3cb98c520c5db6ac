/- TopRace: a part of the proof that it holds for every input and every schedule. -/
import Derived.Test.YtmcddajniiaieaaGreatDoorY01
set_option linter.unusedVariables false
set_option linter.unusedSimpArgs false
namespace Go.Proofs.YtmcddajniiaieaaGreatDoor
open Go Go.Conc Go.ConcM Go.Proofs.Tryz
variable {Γ:Rc} {iN:Nat->Nat} {w':World} {S S':ln} {Fin:Goroutine->World->Prop} {base i k:Nat} {Shun:Go.Loc->Prop} {gs:Array Goroutine} {t:Trace} {g':Goroutine} {es:Array Event} {e:En} {f':Fz} {fw:Gh}
open Go.ConcN (sumTo upd upd_same upd_ne sumTo_upd sumTo_congr WgLive)
open Go.ConcR (stA smA WgAt KK rd wr)
section
variable {sm:Nat->Nat} {V VD:View} {d:Nat} {g a a':Goroutine} {w:World} {s:Ws}
theorem nh{p:Pos}{T:Rk}(h:Local prog false (fun V g w=>∃t,p.tags Γ t/\At Γ t V g w) T V g w):g.status=.running:=by
 cases T with
 |z=>obtain⟨t,_,ht⟩:=h w (.refl V w);exact ht.law.1
 |mk f=>exact h.1
theorem jd{J:cP}{Fin:Goroutine->World->Prop}{x:MK}{T:Rk}(h:Local prog true (fun V g w=>nS Γ J Fin x V g w) T V g w):g.status=.running:=by
 cases T with
 |z=>exact(h w (.refl V w)).law.1
 |mk f=>exact h.1
theorem Ch{pl:ConcR.Payload}{C n i:Nat}{s:Nat}(h:Cg pl Γ C n i s g w):g.status=.running:=by
 unfold Cg at h;split at h<;>exact h.1
theorem Hl{pl:ConcR.Payload}{C n i:Nat}(hr:aP VD w w')(hc:VD.wc ⟨C,i,none⟩)(mQ:WgLive Γ.wgT Γ.wg w->WgLive Γ.wgT Γ.wg w'):@ConcN.RW pl Γ.wgT Γ.wg C n 0 i w w':=by
 refine⟨fun b hb=>absurd hb (Nat.not_lt_zero _),mQ,fun⟨cs,h1,h2⟩=>?_,hr.cell _ (.inr hc)⟩;obtain⟨c',q1,q2⟩:=hr.kind _ _ _ _ h1;exact⟨c',q1,q2.trans h2⟩
theorem anA{pl:ConcR.Payload}{ty C n i mP Wg:Nat}(a b c:World)(h:@ConcN.RW pl ty Wg C n mP i a b)(k:@ConcN.RW pl ty Wg C n mP i b c):@ConcN.RW pl ty Wg C n mP i a c:=
 ⟨fun x h1 h2 h3=>(k.low x h1 h2 h3).trans (h.low x h1 h2 h3),fun x=>k.live (h.live x),fun x=>k.pay (h.pay x),k.cell.trans h.cell⟩
theorem ko.running{s m:Nat}(h:ko Γ VD d g w s m):g.status=.running:=by
 obtain⟨_,_,_,pl,C,n,i,hc,hG⟩:=h;exact hG.running (fun g w hs=>Ch hs) w (Hl (.refl VD w) hc id)
theorem ko.keep{s m:Nat}(h:ko Γ VD d g w s m)(hr:aP VD w w')(mQ:WgLive Γ.wgT Γ.wg w->WgLive Γ.wgT Γ.wg w'):ko Γ VD d g w' s m:=by
 obtain⟨h1,h2,h3,pl,C,n,i,hc,hG⟩:=h;exact⟨h1,h2,h3,pl,C,n,i,hc,Goes.rely anA hG (Hl hr hc mQ)⟩
theorem dP.keep(h:dP Γ sm V VD d g w s)(hr:aP V w w')(hrd:aP VD w w')(mQ:WgLive Γ.wgT Γ.wg w->WgLive Γ.wgT Γ.wg w')(hb:∀t,s=.stop t->Slp Γ sm w t g->Slp Γ iN w' t g):dP Γ iN V VD d g w' s:=by
 cases s with
 |walk p T ρ=>exact⟨h.1,h.2.rely hr⟩
 |stop t=>
  obtain⟨h1,g0,w0,q1,q2,q3,q4,q5,q6⟩:=h;exact⟨h1,g0,w0,q1,q2.trans hr,q3,q4,q5,q6.imp id (hb t rfl)⟩
 |done s m=>exact ko.keep h hrd mQ
 |quit q=>exact h
theorem Ci(w:World):(g.again w).frame=g.frame/\(g.again w).callers=g.callers/\(g.again w).dying=g.dying:=by
 unfold Goroutine.again;split
 ·simp only [];split<;>exact⟨rfl,rfl,rfl⟩
 ·exact⟨rfl,rfl,rfl⟩
 ·exact⟨rfl,rfl,rfl⟩
 ·exact⟨rfl,rfl,rfl⟩
theorem akZ{t:Tag}(h:Slp Γ sm w t g):(g.again w').status=.running\/(g.again w'=g/\∃c z,t.kind=.recv/\t.f=.found c/\g.offers=some (#[rcase c.ch z,rcase Γ.off z],.select)/\bC w c.ch/\¬oE w' c.ch):=by
 obtain⟨h1,⟨k,_,_,h2⟩|⟨c,z,h2,h3,h4,h5⟩⟩:=h
 ·left;simp [Goroutine.again,h1,h2]
 ·by_cases hs:oE w' c.ch
  ·obtain⟨s,r,tm,hs⟩:=hs;left;simp [Goroutine.again,h1,h4,rcase,hs]
  ·have aEv:g.again w'=g\/(g.again w').status=.running:=by
    simp only [Goroutine.again,h1,h4];split
    ·exact .inr rfl
    ·exact .inl rfl
   exact aEv.elim (fun e=>.inr ⟨e,c,z,h2,h3,h4,h5,hs⟩) .inl
theorem dP.turn(h:dP Γ sm V VD d g w s)(hr:aP V w w')(hrd:aP VD w w')(mQ:WgLive Γ.wgT Γ.wg w->WgLive Γ.wgT Γ.wg w')
  (hk:(mayWake prog a&&a'.status !=.blocked&&a'.status !=.waiting)=true\/(∀k,sm k=0->iN k=0)/\∀c,s.fz=.found c->bC w c.ch->bC w' c.ch)
  (hc:∀c,s.fz=.found c->bC w c.ch->bC w' c.ch\/oE w' c.ch):dP Γ iN V VD d (woken prog a a' w' g) w' s:=by
 by_cases hw:(mayWake prog a&&a'.status !=.blocked&&a'.status !=.waiting)=true
 ·have e:woken prog a a' w' g=g.again w':=by simp [woken,hw]
  rw [e];cases s with
  |walk p T ρ=>rw [again_running _ (.inl (nh h.2))];exact⟨h.1,h.2.rely hr⟩
  |stop t=>
   obtain⟨h1,g0,w0,q1,q2,q3,q4,q5,q6⟩:=h;obtain⟨e1,e2,e3⟩:=Ci (g:=g) w';refine⟨h1,g0,w0,q1,q2.trans hr,e1.trans q3,e2.trans q4,e3.trans q5,?_⟩;rcases q6 with q6|q6
   ·exact .inl (by rw [again_running _ (.inl q6)];exact q6)
   ·rcases akZ (w':=w') q6 with x|⟨x,c,z,y1,y2,y3,y4,y5⟩
    ·exact .inl x
    ·rw [x];exact .inr ⟨q6.1,.inr ⟨c,z,y1,y2,y3,(hc c y2 y4).resolve_right y5⟩⟩
  |done s m=>rw [again_running _ (.inl (ko.running h))];exact ko.keep h hrd mQ
  |quit q=>rw [again_running _ (QuitsD.status h)];exact h
 ·have e:woken prog a a' w' g=g:=by simp [woken,hw]
  obtain⟨k1,k2⟩:=hk.resolve_left hw;rw [e];refine h.keep hr hrd mQ fun t ht hb=>⟨hb.1,hb.2.imp (fun⟨k,y1,y2,y3⟩=>⟨k,y1,k1 k y2,y3⟩) fun⟨c,z,y1,y2,y3,y4⟩=>⟨c,z,y1,y2,y3,k2 c (by rw [ht];exact y2) y4⟩⟩
theorem kp.keep{J:cP}{Fin:Goroutine->World->Prop}{ms:Ms}(h:kp Γ J Fin V d g w ms)(hr:aP V w w')(hsm:(∃st,WgAt Γ.wgT Γ.wg w st 0)->∃st,WgAt Γ.wgT Γ.wg w' st 0):kp Γ J Fin V d g w' ms:=by
 cases ms with
 |walk x T ρ=>exact⟨h.1,h.2.rely hr⟩
 |stop x=>
  obtain⟨h1,g0,w0,q1,q2,q3,q4,q5,q6⟩:=h;exact⟨h1,g0,w0,q1,q2.trans hr,q3,q4,q5,q6.imp id fun⟨y1,y2,y3,y4⟩=>⟨y1,y2,y3,hsm y4⟩⟩
theorem kp.turn{J:cP}{Fin:Goroutine->World->Prop}{ms:Ms}(h:kp Γ J Fin V d g w ms)(hr:aP V w w')
  (hk:(mayWake prog a&&a'.status !=.blocked&&a'.status !=.waiting)=true\/((∃st,WgAt Γ.wgT Γ.wg w st 0)->∃st,WgAt Γ.wgT Γ.wg w' st 0)):kp Γ J Fin V d (woken prog a a' w' g) w' ms:=by
 by_cases hw:(mayWake prog a&&a'.status !=.blocked&&a'.status !=.waiting)=true
 ·have e:woken prog a a' w' g=g.again w':=by simp [woken,hw]
  rw [e];cases ms with
  |walk x T ρ=>rw [again_running _ (.inl (jd h.2))];exact⟨h.1,h.2.rely hr⟩
  |stop x=>
   obtain⟨h1,g0,w0,q1,q2,q3,q4,q5,q6⟩:=h;obtain⟨e1,e2,e3⟩:=Ci (g:=g) w';refine⟨h1,g0,w0,q1,q2.trans hr,e1.trans q3,e2.trans q4,e3.trans q5,.inl ?_⟩;rcases q6 with q6|⟨y1,_,y3,_⟩
   ·rw [again_running _ (.inl q6)];exact q6
   ·simp [Goroutine.again,y1,y3]
 ·have e:woken prog a a' w' g=g:=by simp [woken,hw]
  rw [e];exact h.keep hr (hk.resolve_left hw)
end
theorem gS{γ fw:Nat->Gh}(h:∀k,∀c∈(γ k).bO,c∈(fw k).bO){J:cP}{j s:Nat}(hs:Seen γ J j s):Seen fw J j s:=fun s' h1 h2=>let⟨c,q1,q2⟩:=hs s' h1 h2;⟨c,h _ c q1,q2⟩
theorem fK{γ fw:Nat->Gh}(h:∀k,∀c∈(γ k).bO,c∈(fw k).bO){J:cP}{j:Nat}{e:En}{f:Fz}(hs:kn γ J j e f):kn fw J j e f:=by
 obtain⟨h1,h2,h3,h4⟩:=hs;refine⟨h1,h2,gS h h3,?_⟩;cases f with
 |none=>trivial
 |_=>exact⟨h4.1,h4.2.1,h _ _ h4.2.2⟩
section
variable {J:cP} {w:World}
theorem VE.keep(bQ:dK Γ J)(h:VE Γ J S w)(hL:∀k,k<Γ.ns->aP (S.vw (.lock k)) w w')(hD:∀j,j<S.m->aP (S.vw (.mc j)) w w')(hC:∀c,aP (S.vw (.chan c)) w w')(hS:aP (aS Γ) w w')
  (hP:∀b,Fa Γ S.gh b->w'.heap[b]? =w.heap[b]?)(ho:∀j c,j<S.m->aT (S.ws j) c->∃k,k<Γ.ns/\c∈(S.gh k).bO):VE Γ J S w':=by
 have anB:∀b,Fa Γ S.gh b->bC w b->bC w' b:=fun b hb ⟨s,r,tm,x⟩=>⟨s,r,tm,(hP b hb).trans x⟩;refine⟨fun k hk=>(h.lock k hk).bk hk hS,fun k hk=>(h.cont k hk).imp id fun x=>⟨bQ.cont k _ _ _ _ x.1 (hL k hk),x.2⟩,anB _ (.inl rfl) h.off,fun k hk c hc=>?_,fun j c hj hf=>?_,fun j hj hr=>bQ.res j _ _ _ (h.res j hj hr) (hD j hj),?_⟩
 ·have Hm:Fa Γ S.gh c.ch:=.inr ⟨k,hk,c,hc,rfl⟩;rcases h.yr k hk c hc with ⟨x,y⟩|⟨x,⟨s,r,tm,y⟩,z,u⟩
  ·exact .inl ⟨anB _ Hm x,y⟩
  ·exact .inr ⟨x,⟨s,r,tm,(hP _ Hm).trans y⟩,bQ.full _ _ _ _ z (hC _),u⟩
 ·obtain⟨k,hk,hc⟩:=ho j c hj hf;exact anB _ (.inr ⟨k,hk,c,hc,rfl⟩) (h.opn j c hj hf)
 ·obtain⟨z,st,sm,h1,h2⟩:=h.wg;exact⟨z,st,sm,sI h1 hS,h2⟩
end
section
variable {J:cP} {γ:Nat->Gh} {wd:Nat->Wd} {j:Nat} {s:Ws} {c:xp}
theorem ni{e:En}{f:Fz}(h:kn γ J j e f)(hf:f=.found c\/f=.bH c\/f=.stored c):c∈(γ c.k).bO/\c.k=J.me j/\c.no=J.item j e.s:=by
 rcases hf with rfl|rfl|rfl<;>exact⟨h.2.2.2.2.2,h.2.2.2.2.1,h.2.2.2.1⟩
theorem VF(h:ju Γ J γ wd j s)(hf:s.fz=.found c\/s.fz=.bH c\/s.fz=.stored c):c∈(γ c.k).bO/\c.k=J.me j:=by
 cases s with
 |walk p T ρ=>
  cases p with
  |lk e f k r q=>obtain⟨a,b,_⟩:=ni h.2.1 hf;exact⟨a,b⟩
  |acq e f k=>obtain⟨a,b,_⟩:=ni h.2.1 hf;exact⟨a,b⟩
  |rel e f k γk=>obtain⟨a,b,_⟩:=ni h.2.1 hf;exact⟨a,b⟩
  |oa e f=>
   have:kn γ J j e f:=by rcases hf with hf|hf|hf<;>(simp only [Ws.fz,Pos.fz]at hf;subst hf;exact h)
   obtain⟨a,b,_⟩:=ni this hf;exact⟨a,b⟩
 |stop t=>
  obtain⟨e,f,kd⟩:=t;cases kd with
  |lk k p=>obtain⟨a,b,_⟩:=ni h.2.1 hf;exact⟨a,b⟩
  |acq k=>obtain⟨a,b,_⟩:=ni h.2.1 hf;exact⟨a,b⟩
  |rel k γ1 γ2 f'=>obtain⟨a,b,_⟩:=ni h.2.1 hf;exact⟨a,b⟩
  |close=>obtain⟨a,b,_⟩:=ni h hf;exact⟨a,b⟩
  |recv=>obtain⟨a,b,_⟩:=ni h hf;exact⟨a,b⟩
  |E8=>obtain⟨_,_,hn⟩:=h;subst hn;rcases hf with hf|hf|hf<;>cases hf
 |done a b=>rcases hf with hf|hf|hf<;>cases hf
 |quit q=>rcases hf with hf|hf|hf<;>cases hf
end
section
variable {J:cP} {w:World} {u:Trace} {g:Goroutine} {I:Nat}
theorem Inv.NK(bQ:dK Γ J)(h:Inv Γ J Fin base Shun S gs w t){j:Nat}{c:xp}(hj:j<S.m)(hf:(S.ws j).fz=.found c\/(S.ws j).fz=.bH c\/(S.ws j).fz=.stored c):∃k,k<Γ.ns/\c∈(S.gh k).bO/\Fa Γ S.gh c.ch:=by
 obtain⟨a,b⟩:=VF (h.pos j hj) hf;have hk:c.k<Γ.ns:=by rw [b];exact bQ.me j (Nat.lt_of_lt_of_le hj h.kq)
 exact⟨c.k,hk,a,.inr ⟨c.k,hk,c,a,rfl⟩⟩
theorem Inv.at(bQ:dK Γ J)(h:Inv Γ J Fin base Shun S gs w t)(d:Nat):Inv Γ J Fin base Shun S gs (w.at d) t:=by
 refine⟨h.size,h.tW,h.kq,h.ng,h.tX,h.above,fun j hj=>?_,h.pos,?_,h.idx,h.EY,h.gV,h.low,h.sync,h.dL,h.mx,h.bO,?_,h.ys⟩
 ·obtain⟨x,h1,h2⟩:=h.work j hj;exact⟨x,h1,h2.keep (jT _ w d) (jT _ w d) (fun x=>x) fun _ _ hb=>hb⟩
 ·obtain⟨x,h1,h2⟩:=h.main;exact⟨x,h1,h2.keep (jT _ w d) fun x=>x⟩
 ·exact h.de.keep bQ (fun _ _=>jT _ w d) (fun _ _=>jT _ w d) (fun _=>jT _ w d) (jT _ w d) (fun _ _=>rfl) fun j c hj hf=>by
   obtain⟨k,h1,h2,_⟩:=h.NK bQ hj (.inr hf);exact⟨k,h1,h2⟩
structure Env(Γ:Rc)(base:Nat)(S:ln)(I:Nat)(g g':Goroutine)(w w':World)(iN:Nat->Nat):Prop where
 rw:∀j,j<S.m->base+j≠I->aP (S.vw (.work j)) w w'
 rd:∀j,j<S.m->base+j≠I->aP (S.vw (.mc j)) w w'
 rm:I≠0->aP (S.vw .main) w w'
 wg:WgLive Γ.wgT Γ.wg w->WgLive Γ.wgT Γ.wg w'
 hk:(mayWake prog g&&g'.status !=.blocked&&g'.status !=.waiting)=true\/(∀k,S.sm k=0->iN k=0)/\∀b,Fa Γ S.gh b->bC w b->bC w' b
 hc:∀b,Fa Γ S.gh b->bC w b->bC w' b\/oE w' b
 hm:I≠0->(mayWake prog g&&g'.status !=.blocked&&g'.status !=.waiting)=true\/((∃st,WgAt Γ.wgT Γ.wg w st 0)->∃st,WgAt Γ.wgT Γ.wg w' st 0)
structure Rest(Γ:Rc)(J:cP)(Fin:Goroutine->World->Prop)(base:Nat)(S:ln)(I:Nat)(iN:Nat->Nat)(fx:Array Goroutine)(w':World)(t':Trace):Prop where
 size:fx.size=base+S.m
 tX:∀i x,0<i->i<base->i≠I->fx[i]? =some x->QuitsD prog (S.q i) (Deaf t' i) x
 above:∀j,fx.size<=j->Deaf t' j=0
 work:∀j,j<S.m->base+j≠I->∃x,fx[base+j]? =some x/\dP (Γ.at J j) iN (S.vw (.work j)) (S.vw (.mc j)) (Deaf t' (base+j)) x w' (S.ws j)
 main:I≠0->∃x,fx[0]? =some x/\kp Γ J Fin (S.vw .main) (Deaf t' 0) x w' S.ms
theorem Inv.rest(bQ:dK Γ J)(h:Inv Γ J Fin base Shun S gs w t)(hI:gs[I]? =some g)(hu:∀op∈u,op.g=I)(he:Env Γ base S I g g' w w' iN):
  Rest Γ J Fin base S I iN ((gs.map (woken prog g g' w')).setIfInBounds I g') w' (t++u):=by
 have aU:I<gs.size:=(Array.getElem?_eq_some_iff.1 hI).1;have aEw:∀i,i≠I->((gs.map (woken prog g g' w')).setIfInBounds I g')[i]? =(gs[i]?).map (woken prog g g' w'):=fun i hi=>by
  rw [Array.getElem?_setIfInBounds_ne fun e=>hi e.symm,Array.getElem?_map]
 have oh:∀i,i≠I->Deaf (t++u) i=Deaf t i:=fun i hi=>Deaf_other t (g':=I) (fun e=>hi e.symm) u hu;refine⟨by simp [h.size],fun i x h0 hb hi hx=>?_,fun j hj=>?_,fun j hj hi=>?_,fun hi=>?_⟩
 ·rw [aEw i hi]at hx;obtain⟨y,hy,rfl⟩:=Option.map_eq_some_iff.1 hx;have hq:=h.tX i y h0 hb hy;rw [woken_quitsD hq,oh i hi];exact hq
 ·have lO:gs.size<=j:=by simpa using hj
  rw [oh j (by omega)]
  exact h.above j lO
 ·obtain⟨x,hx,hw⟩:=h.work j hj;refine⟨woken prog g g' w' x,by rw [aEw _ hi,hx];rfl,?_⟩
  rw [oh _ hi];have hp:∀c,(S.ws j).fz=.found c->Fa Γ S.gh c.ch:=fun c hc=>let⟨_,_,_,x⟩:=h.NK bQ hj (.inl hc);x
  exact hw.turn (he.rw j hj hi) (he.rd j hj hi) he.wg (he.hk.imp id fun x=>⟨x.1,fun c hc=>x.2 _ (hp c hc)⟩) fun c hc=>he.hc _ (hp c hc)
 ·obtain⟨x,hx,hm⟩:=h.main;refine⟨woken prog g g' w' x,by rw [aEw _ (fun e=>hi e.symm),hx];rfl,?_⟩
  rw [oh _ (fun e=>hi e.symm)];exact hm.turn (he.rm hi) (he.hm hi)
theorem Rest.eQ(S:ln)(w:World)(I:Nat)(g g':Goroutine):Env Γ base S I g g' w w S.sm:=
 ⟨fun _ _ _=>.refl _ w,fun _ _ _=>.refl _ w,fun _=>.refl _ w,id,.inr ⟨fun _=>id,fun _ _=>id⟩,fun _ _=>.inl,fun _=>.inr id⟩
theorem fa(S:ln)(i:Nat)(x:Ws)(φ:Ws->Nat){n:Nat}(hi:i<n):sumTo n (fun j=>φ (upd S.ws i x j))+φ (S.ws i)=sumTo n (fun j=>φ (S.ws j))+φ x:=sumTo_upd S.ws x φ hi
theorem Fb{n:Nat}{a b:Hk}(h:a.1<b.1):MLt n a b:=by obtain⟨_,_,_,_,_⟩:=a;obtain⟨_,_,_,_,_⟩:=b;exact .left _ _ h
theorem aPz{n:Nat}{a b:Hk}(h1:a.1<=b.1)(h:a.2.1<b.2.1):MLt n a b:=by
 obtain⟨a1,a2,a3,a4,a5⟩:=a;obtain⟨b1,b2,b3,b4,b5⟩:=b;rcases Nat.lt_or_eq_of_le h1 with x|x
 ·exact .left _ _ x
 ·simp only at x;subst x;exact .right _ (.left _ _ h)
theorem aPA{n:Nat}{a b:Hk}(h1:a.1<=b.1)(h2:a.2.1<=b.2.1)(h:VLt n a.2.2.1 b.2.2.1):MLt n a b:=by
 obtain⟨a1,a2,a3,a4,a5⟩:=a;obtain⟨b1,b2,b3,b4,b5⟩:=b;rcases Nat.lt_or_eq_of_le h1 with x|x
 ·exact .left _ _ x
 ·simp only at x;subst x;rcases Nat.lt_or_eq_of_le h2 with x|x
  ·exact .right _ (.left _ _ x)
  ·simp only at x;subst x;exact .right _ (.right _ (.left _ _ h))
theorem anC{n:Nat}{a b:Hk}(h1:a.1<=b.1)(h2:a.2.1<=b.2.1)(h3:a.2.2.1=b.2.2.1)(h:a.2.2.2.1<b.2.2.2.1\/(a.2.2.2.1<=b.2.2.2.1/\a.2.2.2.2<b.2.2.2.2)):MLt n a b:=by
 obtain⟨a1,a2,a3,a4,a5⟩:=a;obtain⟨b1,b2,b3,b4,b5⟩:=b;simp only at h3;subst h3;rcases Nat.lt_or_eq_of_le h1 with x|x
 ·exact .left _ _ x
 ·simp only at x;subst x;rcases Nat.lt_or_eq_of_le h2 with x|x
  ·exact .right _ (.left _ _ x)
  ·simp only at x;subst x;refine .right _ (.right _ (.right _ ?_));rcases h with h|⟨h,h'⟩
   ·exact .left _ _ h
   ·rcases Nat.lt_or_eq_of_le h with x|x
    ·exact .left _ _ x
    ·simp only at x;subst x;exact .right _ h'
theorem aEx{n:Nat}{a b c:Hk}(h:MLt n a b)(h1:b.1<=c.1)(h2:b.2.1<=c.2.1)(h3:b.2.2=c.2.2):MLt n a c:=by
 obtain⟨a1,a2,a3⟩:=a;obtain⟨b1,b2,b3⟩:=b;obtain⟨c1,c2,c3⟩:=c;simp only at h1 h2 h3;subst h3;cases h with
 |left _ _ h=>exact .left _ _ (Nat.lt_of_lt_of_le h h1)
 |right _ h=>
  rcases Nat.lt_or_eq_of_le h1 with x|x
  ·exact .left _ _ x
  ·subst x;cases h with
   |left _ _ h=>exact .right _ (.left _ _ (Nat.lt_of_lt_of_le h h2))
   |right _ h=>
    rcases Nat.lt_or_eq_of_le h2 with x|x
    ·exact .right _ (.left _ _ x)
    ·subst x;exact .right _ (.right _ h)
def Done(Fin:Goroutine->World->Prop)(Shun:Go.Loc->Prop)(gs:Array Goroutine)(w:World)(t:Trace):Prop:=
 ∃a q,gs[0]? =some a/\Fin a w/\Leavers prog t gs q/\Past Shun w.heap.size t/\∀op∈t,∀a,op.act≠.mark (.release a)
def ig(Γ:Rc)(Shun:Go.Loc->Prop):Go.Loc->Prop:=fun l=>Shun l\/∃ad,l=.cell ad/\(aS Γ).wc ad
def Goal(Γ:Rc)(J:cP)(Fin:Goroutine->World->Prop)(base:Nat)(Shun:Go.Loc->Prop)(S:ln)(gs:Array Goroutine)(w:World)(sl:Option (Nat×Nat))(t:Trace)(r:Stepped×Array MemOp):Prop:=
 ∃fx w' ops,r=(.next (crowd fx w' sl),ops)/\((∃S',Inv Γ J Fin base Shun S' fx w' (t++ops)/\MLt (J.N+1) (meas Γ J base S' fx) (meas Γ J base S gs))\/Done Fin (ig Γ Shun) fx w' (t++ops))
theorem Ov(bQ:dK Γ J){sl:Option (Nat×Nat)}(h:Inv Γ J Fin base Shun S gs w t)(h0:0<I)(hb:I<base)(hg:gs[I]? =some g)(hr:g.status=.running):Goal Γ J Fin base Shun S gs w sl t (runT prog (crowd gs w sl) I):=by
 have hq:=h.tX I g h0 hb hg;have aU:I<gs.size:=(Array.getElem?_eq_some_iff.1 hg).1;have hi0:(I==0)=false:=by simp;omega
 cases hqi:S.q I with
 |zero=>rw [hqi]at hq;rw [hq.1]at hr;cases hr
 |succ k=>
  rw [hqi]at hq;rcases hq with ⟨hf,_⟩|⟨_,g',es,hm,VG,hq'⟩
  ·rw [hf]at hr;cases hr
  have oF:∀op∈MemOp.ofEvents I g.frame.fn g.frame.place es,op.g=I:=fun op aE=>by obtain⟨e,_,rfl⟩:=Conc.mem_ofEvents aE;rfl
  have hmt:∀op∈MemOp.ofEvents I g.frame.fn g.frame.place es,op.act.touch?=none:=fun op aE=>by obtain⟨e,he,rfl⟩:=Conc.mem_ofEvents aE;exact touch_mute (hm e he)
  have aYg:∀op∈MemOp.ofEvents I g.frame.fn g.frame.place es,∀a,op.act≠.mark (.release a):=fun op aE a=>by
   obtain⟨⟨loc,wr,sy⟩,he,rfl⟩:=Conc.mem_ofEvents aE;have:=hm _ he;cases loc with
   |mark m=>cases m<;>simp_all [Event.mute,MemAct.ofEvent]
   |_=>simp_all [Event.mute]
  have hR:=h.rest (Fin:=Fin) (u:=MemOp.ofEvents I g.frame.fn g.frame.place es) (g':=g') bQ hg oF (Rest.eQ (Γ:=Γ) (base:=base) S w I g g');refine⟨_,_,_,runT_crowd_go (P:=prog) (sl:=sl) hg (by rw [hi0];exact VG w),.inl ⟨{S with q:=upd S.q I k},?_,?_⟩⟩
  ·refine⟨hR.size,h.tW,h.kq,h.ng,fun i x h1 h2 h3=>?_,hR.above,fun j hj=>hR.work j hj (by omega),h.pos,hR.main (by omega),h.idx,h.EY,h.gV,h.low,h.sync,h.dL,h.mx,?_,?_,?_⟩
   ·by_cases e:i=I
    ·subst e;rw [Array.getElem?_setIfInBounds_self_of_lt (by simpa using aU)]at h3
     obtain rfl:=Option.some.inj h3;show QuitsD prog (upd S.q i k i) _ _
     rw [upd_same,Deaf_own];exact hq'
    ·show QuitsD prog (upd S.q I k i) _ _
     rw [upd_ne S.q k e];exact hR.tX i x h1 h2 e h3
   ·exact⟨h.bO.k,h.bO.no,h.bO.ch,h.bO.off,h.bO.done,h.bO.item,h.bO.one,h.bO.bH,h.bO.stored,h.bO.keep⟩
   ·exact⟨h.de.lock,h.de.cont,h.de.off,h.de.yr,h.de.opn,h.de.res,h.de.wg⟩
   ·exact h.ys.Oo (Nat.le_refl _) (Nat.le_refl _) hmt (fun op aE=>by obtain⟨e,he,rfl⟩:=Conc.mem_ofEvents aE;exact low_mute (hm e he) _) aYg (fun B a hc=>⟨B,hc,fun i hk=>hk.app _⟩) (fun i hk=>hk.app _) fun j i _ hk=>hk.app _
  ·refine anC (Nat.le_refl _) (Nat.le_refl _) rfl (.inl ?_);have:=sumTo_upd S.q k id hb;simp only [id,hqi]at this;show sumTo base (fun a=>upd S.q I k a)+sumTo J.N (fun j=>(S.ws j).lv)<sumTo base (fun a=>S.q a)+sumTo J.N (fun j=>(S.ws j).lv)
   omega
end
structure Alike(s s':Ws):Prop where
 fz:s'.fz=s.fz
 cnt:s'.cnt=s.cnt
 fJ:s'.fJ=s.fJ
 rel:s'.rel=s.rel
 ins:∀k,s'.inside k↔s.inside k
theorem Alike.refl(s:Ws):Alike s s:=⟨rfl,rfl,rfl,rfl,fun _=>.rfl⟩
theorem FQ{ws:Nat->Ws}{i:Nat}{x:Ws}(h:Alike (ws i) x)(j:Nat):Alike (ws j) (upd ws i x j):=by
 by_cases e:j=i
 ·subst e;rw [upd_same];exact h
 ·rw [upd_ne ws x e];exact .refl _
section
variable {J:cP} {w:World}
theorem tV.alike(h:tV Γ J S)(hm:S'.m=S.m)(hg:S'.gh=S.gh)(ha:∀j,Alike (S.ws j) (S'.ws j))(hk:∀j,S'.vw (.keep j)=S.vw (.keep j)):tV Γ J S':=by
 have hf:∀j c,aT (S'.ws j) c↔aT (S.ws j) c:=fun j c=>by unfold aT;rw [(ha j).fz]
 exact⟨by rw [hg];exact h.k,by rw [hg];exact h.no,by rw [hg];exact h.ch,by rw [hg];exact h.off,by rw [hg];exact h.done,by rw [hg];exact h.item,
  fun j j' c a b x y=>h.one j j' c (hm▸a) (hm▸b) ((hf j c).1 x) ((hf j' c).1 y),fun j c a b=>by rw [hg];exact h.bH j c (hm▸a) ((ha j).fz▸b),fun j c a b=>by rw [hg];exact h.stored j c (hm▸a) ((ha j).fz▸b),fun j c a b=>by rw [hk];exact h.keep j c (hm▸a) ((hf j c).1 b)⟩
theorem VE.alike(h:VE Γ J S w)(hm:S'.m=S.m)(hg:S'.gh=S.gh)(hwd:S'.wd=S.wd)(hsm:S'.sm=S.sm)(yZ:S'.ms.x=S.ms.x)(ha:∀j,Alike (S.ws j) (S'.ws j))(hl:∀k,S'.vw (.lock k)=S.vw (.lock k))(hd:∀j,S'.vw (.mc j)=S.vw (.mc j))(hc:∀c,S'.vw (.chan c)=S.vw (.chan c)):VE Γ J S' w:=by
 have hf:∀j c,aT (S'.ws j) c↔aT (S.ws j) c:=fun j c=>by unfold aT;rw [(ha j).fz]
 refine⟨fun k hk=>by rw [hwd,hsm];exact h.lock k hk,fun k hk=>?_,h.off,fun k hk c xl=>?_,fun j c a b=>h.opn j c (hm▸a) ((hf j c).1 b),fun j a b=>by rw [hd];exact h.res j (hm▸a) ((ha j).rel▸b),?_⟩
 ·rw [hg,hl];exact(h.cont k hk).imp (fun⟨j,a,b⟩=>⟨j,hm▸a,((ha j).ins k).2 b⟩) id
 ·rw [hg]at xl;unfold tU;rw [hg,hc];rcases h.yr k hk c xl with ⟨x,y⟩|y
  ·exact .inl ⟨x,y.imp (fun⟨a,j,b,d⟩=>⟨a,j,hm▸b,by rw [(ha j).fz];exact d⟩) fun⟨a,j,b,d⟩=>⟨a,j,hm▸b,by rw [(ha j).fz];exact d⟩⟩
  ·exact .inr y
 ·obtain⟨z,st,sm,h1,h2,h3,h4,h5⟩:=h.wg;refine⟨z,st,sm,h1,?_,fun j a=>by rw [(ha j).fJ];exact h3 j (hm▸a),fun j j' a b=>by rw [(ha j).fJ,(ha j').fJ];exact h4 j j' (hm▸a) (hm▸b),fun hz=>let⟨j,a,b⟩:=h5 hz;⟨j,hm▸a,(ha j).fJ.trans b⟩⟩
  rw [yZ,hm,sumTo_congr (g:=fun j=>(S.ws j).cnt) fun j _=>(ha j).cnt];exact h2
end
section
variable {J:cP} {w:World} {g:Goroutine}
theorem je{ws:Nat->Ws}{x:Ws}{m:Nat}(h:x.cnt=(ws i).cnt):sumTo m (fun j=>(upd ws i x j).cnt)=sumTo m fun j=>(ws j).cnt:=
 sumTo_congr fun j _=>by
  by_cases e:j=i
  ·subst e;rw [upd_same];exact h
  ·rw [upd_ne ws x e]
theorem VH{p:Pos}{ρ:Nat}{t':Tag}{γ:Nat->Gh}{wd:Nat->Wd}(FT:J.me i<Γ.ns)(h:ju Γ J γ wd i (.walk p .z ρ))(ht:p.tags (Γ.at J i) t'):
  ju Γ J γ wd i (.stop t')/\Alike (.walk p .z ρ) (.stop t')/\(∀k,(Ws.stop t').role k=p.role k)/\(Ws.stop t').E<=p.E/\(Ws.stop t').rk wd<=(Ws.walk p .z ρ).rk wd:=by
 obtain⟨e',f',kd⟩:=t';cases p with
 |lk e f k r q=>
  obtain⟨p',hq,ht⟩:=ht;cases ht;obtain⟨a,b,c,d,hp⟩:=h;obtain⟨p1,p2,p3,p4⟩:=hp p' hq;have hw:p'.worth=r.worth:=by
   rw [←p2];cases p'<;>first|rfl|exact absurd p2.symm d
  refine⟨⟨a,b,c,p4⟩,⟨rfl,rfl,rfl,rfl,fun _=>.rfl⟩,fun k'=>?_,?_,p3⟩
  ·simp only [Ws.role,Kind.role,Pos.role,p2]
  ·simp only [Ws.E,Kind.E,Pos.E,hw];exact Nat.le_refl _
 |acq e f k=>
  cases ht;exact⟨h,⟨rfl,rfl,rfl,rfl,fun _=>.rfl⟩,fun _=>rfl,Nat.le_refl _,Nat.le_refl _⟩
 |rel e f k γk=>
  obtain⟨fw,f2,hm,ht⟩:=ht;cases ht;exact⟨h,⟨rfl,rfl,rfl,rfl,fun _=>.rfl⟩,fun _=>rfl,Nat.le_refl _,Nat.le_refl _⟩
 |oa e f=>
  obtain⟨h1,h2⟩:=ht;simp only at h1;have hE:EC*e'.n+160<=EC*e.n:=by
   have:EC*(e'.n+1)<=EC*e.n:=Nat.mul_le_mul_left _ h1;simp only [EC,Nat.mul_add]at this⊢;omega
  cases f with
  |none=>
   obtain⟨a,b,c⟩:=h;obtain⟨q1,q2,q3⟩:=h2;simp only at q1 q2 q3;subst q1;rcases q3 with ⟨q3,q4⟩|⟨q3,q4⟩
   ·subst q4;refine⟨⟨FT,⟨by omega,by omega,by rw [q2];exact c,trivial⟩,rfl,fun x=>x.elim⟩,⟨rfl,rfl,rfl,rfl,fun _=>.rfl⟩,fun k=>?_,?_,Nat.le_refl _⟩
    ·simp [Ws.role,Kind.role,Pos.role,LP.role]
    ·simp only [Ws.E,Kind.E,Pos.E,LP.worth];omega
   ·subst q4;refine⟨⟨q3,by rw [show(1:Nat)=e.s by omega];exact c,rfl⟩,⟨rfl,rfl,rfl,rfl,fun _=>.rfl⟩,fun k=>rfl,?_,Nat.le_refl _⟩
    simp only [Ws.E,Kind.E,Pos.E];omega
  |found c=>
   obtain⟨q1,q2,q3⟩:=h2;simp only at q1 q2 q3;subst q2 q3;obtain⟨a,b,cc,d⟩:=h;refine⟨⟨by omega,by omega,by rw [q1];exact cc,by rw [q1];exact d⟩,⟨rfl,rfl,rfl,rfl,fun _=>.rfl⟩,fun k=>rfl,?_,Nat.le_refl _⟩
   simp only [Ws.E,Kind.E,Pos.E];omega
  |bH c=>
   obtain⟨q1,q2,q3⟩:=h2;simp only at q1 q2 q3;subst q2 q3;obtain⟨a,b,cc,d⟩:=h;refine⟨⟨by rw [d.2.1];exact FT,⟨by omega,by omega,by rw [q1];exact cc,by rw [q1];exact d⟩,rfl,fun x=>x.elim⟩,⟨rfl,rfl,rfl,rfl,fun _=>.rfl⟩,fun k=>?_,?_,Nat.le_refl _⟩
   ·simp [Ws.role,Kind.role,Pos.role,LP.role]
   ·simp only [Ws.E,Kind.E,Pos.E,LP.worth];omega
  |stored c=>
   obtain⟨q1,q2,q3⟩:=h2;simp only at q1 q2 q3;subst q2 q3;obtain⟨a,b,cc,d⟩:=h;refine⟨⟨by omega,by omega,by rw [q1];exact cc,by rw [q1];exact d⟩,⟨rfl,rfl,rfl,rfl,fun _=>.rfl⟩,fun k=>rfl,?_,Nat.le_refl _⟩
   simp only [Ws.E,Kind.E,Pos.E];omega
theorem Inv.settle(bQ:dK Γ J)(h:Inv Γ J Fin base Shun S gs w t){p:Pos}{ρ:Nat}(hi:i<S.m)(hw:S.ws i=.walk p .z ρ):
  ∃t',Inv Γ J Fin base Shun {S with ws:=upd S.ws i (.stop t')} gs w t/\L1 Γ J {S with ws:=upd S.ws i (.stop t')}<=L1 Γ J S/\L2 J {S with ws:=upd S.ws i (.stop t')}<=L2 J S/\
   (meas Γ J base {S with ws:=upd S.ws i (.stop t')} gs).2.2=(meas Γ J base S gs).2.2:=by
 obtain⟨g,hg,hk⟩:=h.work i hi;rw [hw]at hk;obtain⟨hd,sO⟩:=hk;obtain⟨t',ht,jf⟩:=sO w (.refl _ w);have dZ:=h.pos i hi;rw [hw]at dZ;have rZ:i<J.N:=Nat.lt_of_lt_of_le hi h.kq;obtain⟨p1,p2,p3,p4,p5⟩:=VH (bQ.me i rZ) dZ ht;have ha:∀j,Alike (S.ws j) (upd S.ws i (.stop t') j):=FQ (by rw [hw];exact p2)
 have r5:∀k j,(upd S.ws i (.stop t') j).role k=(S.ws j).role k:=fun k j=>by
  by_cases e:j=i
  ·subst e;rw [upd_same,hw];exact p3 k
  ·rw [upd_ne S.ws _ e]
 refine⟨t',⟨h.size,h.tW,h.kq,fun j hj=>?_,h.tX,h.above,fun j hj=>?_,fun j hj=>?_,h.main,h.idx,?_,h.gV,h.low,h.sync,h.dL,fun k hk=>?_,h.bO.alike rfl rfl ha (fun _=>rfl),h.de.alike rfl rfl rfl rfl rfl ha (fun _=>rfl) (fun _=>rfl) fun _=>rfl,?_⟩,?_,?_,?_⟩
 ·show upd S.ws i (.stop t') j=_
  rw [upd_ne S.ws _ (by simp only at hj;omega)];exact h.ng j hj
 ·by_cases e:j=i
  ·subst e;refine⟨g,hg,?_⟩;show dP _ _ _ _ _ _ _ (upd S.ws j (.stop t') j)
   rw [upd_same];exact⟨hd,g,w,jf,.refl _ w,rfl,rfl,rfl,.inl jf.law.1⟩
  ·obtain⟨x,hx,jc⟩:=h.work j hj;refine⟨x,hx,?_⟩;show dP _ _ _ _ _ _ _ (upd S.ws i (.stop t') j)
   rw [upd_ne S.ws _ e];exact jc
 ·show ju _ _ _ _ _ (upd S.ws i (.stop t') j)
  by_cases e:j=i
  ·subst e;rw [upd_same];exact p1
  ·rw [upd_ne S.ws _ e];exact h.pos j hj
 ·intro x T db e;have:=h.EY x T db e;show x.rk (sumTo S.m fun j=>(upd S.ws i (.stop t') j).cnt)<=db
  rw [je (by rw [hw];rfl)]
  exact this
 ·have e:(fun j=>(upd S.ws i (.stop t') j).role k)=fun j=>(S.ws j).role k:=funext (r5 k);show br J.N (fun j=>(upd S.ws i (.stop t') j).role k) _ _
  rw [e];exact h.mx k hk
 ·have e:(fun j=>(upd S.ws i (.stop t') j).rel)=fun j=>(S.ws j).rel:=funext fun j=>(ha j).rel;show yY Γ base Shun (fun j=>(upd S.ws i (.stop t') j).rel) _ _ _ _
  rw [e];exact h.ys
 ·have:=fa S i (.stop t') Ws.E rZ;rw [hw]at this;simp only [L1];have e:(Ws.walk p .z ρ).E=p.E:=rfl;omega
 ·have:=fa S i (.stop t') (Ws.rk S.wd) rZ;rw [hw]at this;have hv:ln.v {S with ws:=upd S.ws i (.stop t')}=S.v:=je (by rw [hw];rfl)
  simp only [L2,hv];omega
 ·have e1:LT {S with ws:=upd S.ws i (.stop t')}=LT S:=funext fun j=>by
   cases j with
   |zero=>rfl
   |succ j=>
    show(upd S.ws i (.stop t') j).T=(S.ws j).T
    by_cases e:j=i
    ·subst e;rw [upd_same,hw];rfl
    ·rw [upd_ne S.ws _ e]
  have e2:LL J base {S with ws:=upd S.ws i (.stop t')}=LL J base S:=by
   have:=fa S i (.stop t') Ws.lv rZ;rw [hw]at this;simp only [LL,Ws.lv]at this⊢;omega
  simp only [meas,e1,e2]
end
def Ws.bump:Ws->Ws
 |.walk p T ρ=>.walk p T (ρ+57)
 |s=>s
variable {s:Ws}
def Ms.bump:Ms->Ms
 |.walk x T ρ=>.walk x T (ρ+3)
 |s=>s
theorem Ws.sP(s:Ws):Alike s s.bump:=by
 cases s with
 |walk p T ρ=>exact⟨rfl,rfl,rfl,rfl,fun k=>by cases p<;>exact .rfl⟩
 |_=>exact .refl _
theorem Ws.ak1(s:Ws)(k:Nat):s.bump.role k=s.role k:=by cases s<;>rfl
theorem Ws.aEz(s:Ws):s.bump.E=s.E:=by cases s<;>rfl
theorem Ms.VI(s:Ms):s.bump.x=s.x:=by cases s<;>rfl
theorem Ws.ak2{Γ:Rc}{sm:Nat->Nat}{V VD:View}{d:Nat}{g:Goroutine}{w:World}{s:Ws}(h:dP Γ sm V VD d g w s):dP Γ sm V VD d g w s.bump:=by cases s<;>exact h
theorem Ms.ak3{Γ:Rc}{J:cP}{Fin:Goroutine->World->Prop}{V:View}{d:Nat}{g:Goroutine}{w:World}{s:Ms}(h:kp Γ J Fin V d g w s):kp Γ J Fin V d g w s.bump:=by cases s<;>exact h
theorem Ws.anE{Γ:Rc}{J:cP}{γ:Nat->Gh}{wd iZ:Nat->Wd}{j:Nat}{s:Ws}(h:ju Γ J γ wd j s):ju Γ J γ iZ j s.bump:=by
 cases s with
 |walk p T ρ=>
  cases p with
  |lk e f k r q=>
   obtain⟨a,b,c,d,e⟩:=h;exact⟨a,b,c,d,fun p hp=>⟨(e p hp).1,(e p hp).2.1,Nat.le_trans (LP.G5 _ p) (Nat.le_add_left _ _),(e p hp).2.2.2⟩⟩
  |_=>exact h
 |stop t=>obtain⟨e,f,kd⟩:=t;cases kd<;>exact h
 |_=>exact h
section
variable {J:cP} {w:World} {g:Goroutine} {sl:Option (Nat×Nat)}
structure VJ(Γ:Rc)(J:cP)(base:Nat)(Shun:Go.Loc->Prop)(S S':ln)(i:Nat)(g g':Goroutine)(w w':World)(t u:Trace):Prop where
 m:S'.m=S.m
 ms:S'.ms=S.ms\/S'.ms=S.ms.bump
 q:S'.q=S.q
 ws:∀j,j≠i->S'.ws j=S.ws j\/S'.ws j=(S.ws j).bump
 vm:S'.vw .main=S.vw .main
 vw:∀j,j≠i->S'.vw (.work j)=S.vw (.work j)
 vd:∀j,j≠i->S'.vw (.mc j)=S.vw (.mc j)
 env:Env Γ base S (base+i) g g' w w' S'.sm
 work:dP (Γ.at J i) S'.sm (S'.vw (.work i)) (S'.vw (.mc i)) (Deaf (t++u) (base+i)) g' w' (S'.ws i)
 pos:∀j,j<S.m->ju Γ J S'.gh S'.wd j (S'.ws j)
 EY:∀x T ρ,S'.ms=.walk x T ρ->x.rk (sumTo S.m fun j=>(S'.ws j).cnt)<=ρ
 gV:gu S'.vw
 low:∀A,mP (S'.vw A) w'.heap.size
 sync:S'.vw .sync=aS Γ
 dL:∀b,Fa Γ S'.gh b->b<w'.heap.size/\∀A,(∀j,A≠.keep j)->¬(S'.vw A).own b
 mx:∀k,k<Γ.ns->br J.N (fun j=>(S'.ws j).role k) (S'.wd k) (S'.sm k)
 bO:tV Γ J S'
 de:VE Γ J S' w'
 ys:yY Γ base Shun (fun j=>(S'.ws j).rel) (t++u) S.m w'.heap.size S'.vw
theorem mg{I:Nat}{fn:FuncId}{pos:String}{es:Array Event}:∀op∈MemOp.ofEvents I fn pos es,op.g=I:=fun op aE=>by obtain⟨e,_,rfl⟩:=Conc.mem_ofEvents aE;rfl
theorem Inv.anF(h:Inv Γ J Fin base Shun S gs w t)(hi:i<S.m){fx:Array Goroutine}{u:Trace}(hR:Rest Γ J Fin base S (base+i) S'.sm fx w' (t++u))(hgi:fx[base+i]? =some g')(ha:VJ Γ J base Shun S S' i g g' w w' t u):Inv Γ J Fin base Shun S' fx w' (t++u):=by
 have hp:=h.tW;refine⟨by rw [ha.m];exact hR.size,h.tW,by rw [ha.m];exact h.kq,fun j hj=>?_,fun k x h1 h2 h3=>?_,hR.above,fun j hj=>?_,fun j hj=>ha.pos j (ha.m▸hj),?_,by rw [ha.m];rcases ha.ms with e|e<;>rw [e]<;>first|exact h.idx|(rw [Ms.VI];exact h.idx),fun x T ρ e=>?_,ha.gV,ha.low,ha.sync,ha.dL,ha.mx,ha.bO,ha.de,by rw [ha.m];exact ha.ys⟩
 ·rw [ha.m]at hj;have hu:=h.ng j hj;rcases ha.ws j (by omega)with e|e<;>rw [e,hu]
  rfl
 ·rw [ha.q];exact hR.tX k x h1 h2 (by omega) h3
 ·rw [ha.m]at hj;by_cases e:j=i
  ·subst e;refine⟨g',hgi,?_⟩;exact ha.work
  ·rw [ha.vw j e,ha.vd j e];obtain⟨x,h1,h2⟩:=hR.work j hj (by omega)
   rcases ha.ws j e with e'|e'<;>rw [e']
   ·exact⟨x,h1,h2⟩
   ·exact⟨x,h1,Ws.ak2 h2⟩
 ·rw [ha.vm];obtain⟨x,h1,h2⟩:=hR.main (by omega)
  rcases ha.ms with e'|e'<;>rw [e']
  ·exact⟨x,h1,h2⟩
  ·exact⟨x,h1,Ms.ak3 h2⟩
 ·rw [ha.m];exact ha.EY x T ρ e
theorem Inv.aYh(bQ:dK Γ J)(h:Inv Γ J Fin base Shun S gs w t)(hi:i<S.m)(hg:gs[base+i]? =some g)(ha:VJ Γ J base Shun S S' i g g' w w' t (MemOp.ofEvents (base+i) g.frame.fn g.frame.place es)):
  Inv Γ J Fin base Shun S' ((gs.map (woken prog g g' w')).setIfInBounds (base+i) g') w' (t++MemOp.ofEvents (base+i) g.frame.fn g.frame.place es):=by
 have aU:base+i<gs.size:=(Array.getElem?_eq_some_iff.1 hg).1;exact h.anF hi (h.rest (Fin:=Fin) (u:=MemOp.ofEvents (base+i) g.frame.fn g.frame.place es) (g':=g') bQ hg mg ha.env) (by rw [Array.getElem?_setIfInBounds_self_of_lt (by simpa using aU)]) ha
theorem Inv.aA2(h:Inv Γ J Fin base Shun S gs w t){I:Nat}{u:Trace}(hI:I<gs.size)(hu:∀op∈u,op.g=I)(x:Goroutine):Rest Γ J Fin base S I S.sm (gs.setIfInBounds I x) w (t++u):=by
 have oh:∀j,j≠I->Deaf (t++u) j=Deaf t j:=fun j hj=>Deaf_other t (g':=I) (fun e=>hj e.symm) u hu;refine⟨by simp [h.size],fun j y h0 hb hi hx=>?_,fun j hj=>?_,fun j hj hi=>?_,fun hi=>?_⟩
 ·rw [Array.getElem?_setIfInBounds_ne fun e=>hi e.symm]at hx;rw [oh j hi];exact h.tX j y h0 hb hx
 ·have lO:gs.size<=j:=by simpa using hj
  rw [oh j (by omega)];exact h.above j lO
 ·rw [Array.getElem?_setIfInBounds_ne fun e=>hi e.symm,oh _ hi];exact h.work j hj
 ·rw [Array.getElem?_setIfInBounds_ne hi,oh _ (fun e=>hi e.symm)];exact h.main
theorem Inv.goal(bQ:dK Γ J)(h:Inv Γ J Fin base Shun S gs w t)(hi:i<S.m)(hg:gs[base+i]? =some g)(bF:stepG prog false g w=.go g' w' es)(ha:VJ Γ J base Shun S S' i g g' w w' t (MemOp.ofEvents (base+i) g.frame.fn g.frame.place es))
  (hm:∀fx,fx=(gs.map (woken prog g g' w')).setIfInBounds (base+i) g'->MLt (J.N+1) (meas Γ J base S' fx) (meas Γ J base S gs)):Goal Γ J Fin base Shun S gs w sl t (runT prog (crowd gs w sl) (base+i)):=by
 have hp:=h.tW;have hi0:(base+i==0)=false:=by simp;omega
 exact⟨_,_,_,runT_crowd_go (P:=prog) (sl:=sl) hg (by rw [hi0];exact bF),.inl ⟨S',h.aYh bQ hi hg ha,hm _ rfl⟩⟩
theorem Cj(a:Addr)(wr sy:Bool):(MemAct.ofEvent ⟨.cell a,wr,sy⟩).touch?=some ⟨.cell a,wr,if sy then .atomic else .plain⟩:=by cases wr<;>cases sy<;>rfl
theorem xD{V:View}{e:Event}(h:EvV V e){b:Touch}(hb:(MemAct.ofEvent e).touch?=some b):b.kind≠.said/\may V b:=by
 rcases h with ⟨a,wr,rfl,h⟩|⟨r,wr,sy,rfl,h⟩|rfl|rfl|rfl
 ·rw [Cj]at hb;cases hb;refine⟨by simp,?_⟩
  exact h
 ·have:b.loc=.obj r/\b.kind≠.said:=by cases wr<;>cases sy<;>simp [MemAct.ofEvent,MemAct.touch?]at hb<;>subst hb<;>simp
  refine⟨this.2,?_⟩;unfold may;rw [this.1];exact h
 ·cases hb
 ·cases hb
 ·cases hb
theorem Hn{V:View}{n:Nat}(hl:mP V n){e:Event}(h:EvV V e):(MemAct.ofEvent e).low n:=by
 rcases h with ⟨a,wr,rfl,h⟩|⟨r,wr,sy,rfl,h⟩|rfl|rfl|rfl
 ·rw [show MemAct.ofEvent ⟨.cell a,wr,false⟩=.access ⟨.cell a,wr,false⟩ by cases wr<;>rfl]
  rcases h with h|h|⟨_,h⟩
  ·exact hl.own _ h
  ·exact hl.wc _ h
  ·exact hl.ro _ h
 ·have:=hl.own _ h;cases wr<;>cases sy<;>exact this
 ·trivial
 ·trivial
 ·trivial
theorem xE{V:View}{e:Event}(h:EvV V e)(a:Addr):MemAct.ofEvent e≠.mark (.release a):=by
 rcases h with ⟨a,wr,rfl,h⟩|⟨r,wr,sy,rfl,h⟩|rfl|rfl|rfl
 ·cases wr<;>simp [MemAct.ofEvent]
 ·cases wr<;>cases sy<;>simp [MemAct.ofEvent]
 ·simp [MemAct.ofEvent]
 ·simp [MemAct.ofEvent]
 ·simp [MemAct.ofEvent]
theorem aaD{V':View}(bQ:dK Γ J)(h:Inv Γ J Fin base Shun S gs w t){A:Ag}{I:Nat}(hA:∀j,j<S.m->base+j≠I->Ag.work j≠A/\Ag.mc j≠A)(hm:I≠0->Ag.main≠A)(hs:A≠.sync)(aZ:fG (S.vw A) w w' es V')(hnk:∀j,A≠.keep j:=by simp):Env Γ base S I g g' w w' S.sm:=by
 have hr:∀B,B≠A->aP (S.vw B) w w':=fun B hB=>aZ.rely (h.gV A B fun e=>hB e.symm) (h.low B);have hsy:=hr .sync fun e=>hs e.symm;rw [h.sync]at hsy;have hp:∀b,Fa Γ S.gh b->(∀c e fr,w.heap[b]? ≠some (.cells c e fr))->w'.heap[b]? =w.heap[b]? :=fun b hb hn=>aZ.l9 b (h.dL b hb).1 ((h.dL b hb).2 A hnk) hn;have ho:∀b,Fa Γ S.gh b->bC w b->bC w' b:=fun b hb ⟨s,r,tm,x⟩=>⟨s,r,tm,(hp b hb (by rw [x];simp)).trans x⟩
 exact⟨fun j hj hi=>hr _ (hA j hj hi).1,fun j hj hi=>hr _ (hA j hj hi).2,fun hi=>hr _ (hm hi),fun⟨st,sm,x⟩=>⟨st,sm,sI x hsy⟩,.inr ⟨fun _=>id,ho⟩,fun b hb x=>.inl (ho b hb x),fun _=>.inr fun⟨st,x⟩=>⟨st,sI x hsy⟩⟩
theorem aaE{V':View}(bQ:dK Γ J)(h:Inv Γ J Fin base Shun S gs w t){A:Ag}(hA:A=.main\/∃j,A=.work j)(aZ:fG (S.vw A) w w' es V'):VE Γ J S w':=by
 have cM:∀B,(∀j,B≠.work j)->B≠.main->B≠A:=fun B h1 h2 e=>by
  rcases hA with rfl|⟨j,rfl⟩
  ·exact h2 e
  ·exact h1 j e
 have hr:∀B,(∀j,B≠.work j)->B≠.main->aP (S.vw B) w w':=fun B h1 h2=>aZ.rely (h.gV A B fun e=>cM B h1 h2 e.symm) (h.low B);have hsy:=hr .sync (by simp) (by simp)
 rw [h.sync]at hsy;have FL:∀b,Fa Γ S.gh b->∃x,w.heap[b]? =some x/\∀c e fr,x≠.cells c e fr:=fun b hb=>by
  rcases hb with rfl|⟨k,hk,c,hc,rfl⟩
  ·obtain⟨s,r,tm,x⟩:=h.de.off;exact⟨_,x,by simp⟩
  ·rcases h.de.yr k hk c hc with ⟨⟨s,r,tm,x⟩,_⟩|⟨_,⟨s,r,tm,x⟩,_⟩
   ·exact⟨_,x,by simp⟩
   ·exact⟨_,x,by simp⟩
 refine h.de.keep bQ (fun k _=>hr _ (by simp) (by simp)) (fun j _=>hr _ (by simp) (by simp)) (fun c=>hr _ (by simp) (by simp)) hsy (fun b hb=>?_) fun j c hj hf=>?_
 ·obtain⟨x,hx,hn⟩:=FL b hb;exact aZ.l9 b (h.dL b hb).1 ((h.dL b hb).2 A (by rcases hA with rfl|⟨j,rfl⟩<;>simp)) fun c e fr e2=>hn c e fr (Option.some.inj (hx.symm.trans e2))
 ·obtain⟨k,h1,h2,_⟩:=h.NK bQ hj (.inr hf);exact⟨k,h1,h2⟩
theorem Ow{V':View}(h:Inv Γ J Fin base Shun S gs w t){A:Ag}(aZ:fG (S.vw A) w w' es V'):∀b,Fa Γ S.gh b->b<w'.heap.size/\∀B,(∀j,B≠.keep j)->¬(bx S.vw A V' B).own b:=fun b hb=>by
 refine⟨Nat.lt_of_lt_of_le (h.dL b hb).1 aZ.size,fun B hBk=>?_⟩;by_cases e:B=A
 ·subst e;rw [bm,aZ.view];rintro(x|x)
  ·exact(h.dL b hb).2 _ hBk x
  ·exact Nat.not_lt.2 x.1 (h.dL b hb).1
 ·rw [bq _ _ e];exact(h.dL b hb).2 B hBk
theorem aaF{V':View}(h:Inv Γ J Fin base Shun S gs w t){A:Ag}(aZ:fG (S.vw A) w w' es V'):∀B,mP (bx S.vw A V' B) w'.heap.size:=fun B=>by
 by_cases e:B=A
 ·subst e;rw [bm];exact aZ.low (h.low _)
 ·rw [bq _ _ e];exact(h.low B).mono aZ.size
theorem Ox{V':View}(h:Inv Γ J Fin base Shun S gs w t){A:Ag}(aZ:fG (S.vw A) w w' es V'):gu (bx S.vw A V'):=by
 rw [aZ.view];exact h.gV.grow h.low fun b hb=>hb.1
theorem aaG{V':View}(h:Inv Γ J Fin base Shun S gs w t){A:Ag}{I:Nat}(hg:VA base A I)(hj:∀j,A=.work j->j<S.m/\(S.ws j).rel=false)(aZ:fG (S.vw A) w w' es V')(fn:FuncId)(pos:String):
  yY Γ base Shun (fun j=>(S.ws j).rel) (t++MemOp.ofEvents I fn pos es) S.m w'.heap.size (bx S.vw A V'):=by
 have gj:=aZ.low (h.low A);have gN:=aZ.ev;rw [aZ.view]at gN gj⊢;refine h.ys.own h.gV h.sync hg hj h.low aZ.size mg (fun op aE b hb=>?_) (fun op aE=>?_) fun op aE a=>?_
 ·obtain⟨e,he,rfl⟩:=Conc.mem_ofEvents aE;exact xD (gN e he) hb
 ·obtain⟨e,he,rfl⟩:=Conc.mem_ofEvents aE;exact Hn gj (gN e he)
 ·obtain⟨e,he,rfl⟩:=Conc.mem_ofEvents aE;exact xE (gN e he) a
theorem ak4(bQ:dK Γ J)(h:Inv Γ J Fin base Shun S gs w t)(hi:i<S.m)(hg:gs[base+i]? =some g){p:Pos}{f:World->Rk}{ρ:Nat}(hw:S.ws i=.walk p (.mk f) ρ):Goal Γ J Fin base Shun S gs w sl t (runT prog (crowd gs w sl) (base+i)):=by
 obtain⟨g0,hg0,hk⟩:=h.work i hi;obtain rfl:g0=g:=Option.some.inj (hg0.symm.trans hg);rw [hw]at hk;obtain⟨hd,sO⟩:=hk;obtain⟨g',w',es,V',bF,dH,hl'⟩:=sO.2 w (.refl _ w);have rZ:i<J.N:=Nat.lt_of_lt_of_le hi h.kq;have ha:∀j,Alike (S.ws j) (upd S.ws i (.walk p (f w) ρ) j):=FQ (by rw [hw];exact⟨rfl,rfl,rfl,rfl,fun k=>by cases p<;>exact .rfl⟩)
 have dZ:=h.pos i hi;have h0:=h.tW;refine h.goal (S':={S with ws:=upd S.ws i (.walk p (f w) ρ),vw:=bx S.vw (.work i) V'}) bQ hi hg bF ?_ fun fx hgs=>?_
 ·refine⟨rfl,.inl rfl,rfl,fun j hj=>.inl (upd_ne S.ws _ hj),akR S.vw i V',fun j hj=>akV S.vw i V' hj,fun j _=>Om S.vw i V' j,?_,?_,fun j hj=>?_,fun x T db e=>?_,Ox h dH,aaF h dH,?_,Ow h dH,fun k hk=>?_,h.bO.alike rfl rfl ha (fun j=>bq (A:=.work i) (B:=.keep j) S.vw V' (by simp)),?_,?_⟩
  ·exact aaD bQ h (A:=.work i) (fun j hj cM=>⟨by simp;omega,by simp⟩) (by simp) (by simp) dH
  ·show dP _ _ (bx S.vw (.work i) V' (.work i)) _ _ _ _ (upd S.ws i (.walk p (f w) ρ) i)
   rw [upd_same,bm,Deaf_own];exact⟨by rw [dH.view];show deafBehind _ es=_;rw [hd],hl'⟩
  ·show ju _ _ _ _ _ (upd S.ws i (.walk p (f w) ρ) j)
   by_cases e:j=i
   ·subst e;rw [upd_same];rw [hw]at dZ;cases p<;>exact dZ
   ·rw [upd_ne S.ws _ e];exact h.pos j hj
  ·have:=h.EY x T db e;show x.rk (sumTo S.m fun j=>(upd S.ws i (.walk p (f w) ρ) j).cnt)<=db
   rw [je (by rw [hw];rfl)];exact this
  ·show bx S.vw (.work i) V' .sync=_
   rw [akU];exact h.sync
  ·have e:(fun j=>(upd S.ws i (.walk p (f w) ρ) j).role k)=fun j=>(S.ws j).role k:=funext fun j=>by
    by_cases e:j=i
    ·subst e;rw [upd_same,hw];rfl
    ·rw [upd_ne S.ws _ e]
   show br J.N (fun j=>(upd S.ws i (.walk p (f w) ρ) j).role k) _ _
   rw [e];exact h.mx k hk
  ·exact(aaE bQ h (.inr ⟨i,rfl⟩) dH).alike rfl rfl rfl rfl rfl ha (akS S.vw i V') (Om S.vw i V') (akT S.vw i V')
  ·have e:(fun j=>(upd S.ws i (.walk p (f w) ρ) j).rel)=fun j=>(S.ws j).rel:=funext fun j=>(ha j).rel;show yY Γ base Shun (fun j=>(upd S.ws i (.walk p (f w) ρ) j).rel) _ _ _ _
   rw [e];exact aaG h (A:=.work i) rfl (fun j e=>by cases e;exact⟨hi,by rw [hw];rfl⟩) dH _ _
 ·refine aPA ?_ ?_ ⟨i+1,by omega,?_,fun j hj=>?_⟩
  ·have:=fa S i (.walk p (f w) ρ) Ws.E rZ;rw [hw]at this;show L1 Γ J _<=L1 Γ J S
   simp only [L1,Ws.E]at this⊢;omega
  ·have:=fa S i (.walk p (f w) ρ) (Ws.rk S.wd) rZ;rw [hw]at this;have hv:ln.v {S with ws:=upd S.ws i (.walk p (f w) ρ),vw:=bx S.vw (.work i) V'}=S.v:=je (by rw [hw];rfl)
   show L2 J _<=L2 J S
   have e:∀T:Rk,(Ws.walk p T ρ).rk S.wd=(Ws.walk p (f w) ρ).rk S.wd:=fun T=>by cases p<;>rfl
   rw [e (.mk f)]at this;simp only [L2,hv];omega
  ·show Rk.Lt (upd S.ws i (.walk p (f w) ρ) i).T (S.ws i).T
   rw [upd_same,hw];exact .mk f w
  ·cases j with
   |zero=>rfl
   |succ j=>
    show(upd S.ws i (.walk p (f w) ρ) j).T=(S.ws j).T
    rw [upd_ne S.ws _ (by omega)]
end
open Go.ConcN (sumTo upd upd_same upd_ne sumTo_upd sumTo_congr WgLive le_sumTo)
structure Still(Γ:Rc)(S:ln)(w w':World):Prop where
 rel:∀B,B≠.sync->aP (S.vw B) w w'
 size:w'.heap.size=w.heap.size
 NK:∀b,Fa Γ S.gh b->w'.heap[b]? =w.heap[b]?
section
variable {J:cP} {w:World} {g:Goroutine}
theorem Still.refl(Γ:Rc)(S:ln)(w:World):Still Γ S w w:=⟨fun _ _=>.refl _ w,rfl,fun _ _=>rfl⟩
theorem Still.opn(hs:Still Γ S w w'){b:Nat}(hb:Fa Γ S.gh b)(h:bC w b):bC w' b:=let⟨s,r,tm,x⟩:=h;⟨s,r,tm,(hs.NK b hb).trans x⟩
theorem Inv.aaI(h:Inv Γ J Fin base Shun S gs w t){b:Nat}(hb:Fa Γ S.gh b):∃x,w.heap[b]? =some x/\∀c e fr,x≠.cells c e fr:=by
 rcases hb with rfl|⟨k,hk,c,hc,rfl⟩
 ·obtain⟨s,r,tm,x⟩:=h.de.off;exact⟨_,x,by simp⟩
 ·rcases h.de.yr k hk c hc with ⟨⟨s,r,tm,x⟩,_⟩|⟨_,⟨s,r,tm,x⟩,_⟩
  ·exact⟨_,x,by simp⟩
  ·exact⟨_,x,by simp⟩
theorem Inv.aA3(h:Inv Γ J Fin base Shun S gs w t){B:Ag}(hB:B≠.sync):Apart (S.vw B) (aS Γ):=by have:=h.gV B .sync hB;rwa [h.sync]at this
theorem kr(h:Inv Γ J Fin base Shun S gs w t){off:Nat}{v:Value}:Still Γ S w (w.setCell ⟨Γ.wg,off,none⟩ v):=by
 have hs:=aside_setCell w ⟨Γ.wg,off,none⟩ v;refine⟨fun B hB=>yX (h.aA3 hB),hs.size,fun b hb=>hs.block b fun e=>?_⟩;simp only at e;subst e;obtain⟨x,hx,hn⟩:=h.aaI hb;obtain⟨z,st,sm,hw,_⟩:=h.de.wg;rw [hw]at hx;cases hx;exact hn _ _ _ rfl
theorem VM{k:Nat}(h:Inv Γ J Fin base Shun S gs w t)(hk:k<Γ.ns)(ho:gq Γ k w w'):Still Γ S w w':=by
 refine⟨fun B hB=>ho.aPu hk (h.aA3 hB),ho.size,fun b hb=>ho.block b fun e=>?_⟩;subst e;obtain⟨x,hx,hn⟩:=h.aaI hb;obtain⟨c,ty,hc,_⟩:=h.de.lock k hk;rw [hc]at hx;cases hx;exact hn _ _ _ rfl
theorem FU(I:Nat){iN:Nat->Nat}(hs:Still Γ S w w')(mQ:WgLive Γ.wgT Γ.wg w->WgLive Γ.wgT Γ.wg w')(hk:(mayWake prog g&&g'.status !=.blocked&&g'.status !=.waiting)=true\/∀k,S.sm k=0->iN k=0)
  (hm:(mayWake prog g&&g'.status !=.blocked&&g'.status !=.waiting)=true\/((∃st,WgAt Γ.wgT Γ.wg w st 0)->∃st,WgAt Γ.wgT Γ.wg w' st 0)):Env Γ base S I g g' w w' iN:=
 ⟨fun j _ _=>hs.rel _ (by simp),fun j _ _=>hs.rel _ (by simp),fun _=>hs.rel _ (by simp),mQ,hk.imp id fun x=>⟨x,fun b hb=>hs.opn hb⟩,fun b hb x=>.inl (hs.opn hb x),fun _=>hm⟩
theorem tV.fz(h:tV Γ J S)(hm:S'.m=S.m)(hg:S'.gh=S.gh)(ha:∀j,j<S.m->(S'.ws j).fz=(S.ws j).fz)(hk:∀j,S'.vw (.keep j)=S.vw (.keep j)):tV Γ J S':=by
 have hf:∀j c,j<S.m->(aT (S'.ws j) c↔aT (S.ws j) c):=fun j c hj=>by unfold aT;rw [ha j hj]
 exact⟨by rw [hg];exact h.k,by rw [hg];exact h.no,by rw [hg];exact h.ch,by rw [hg];exact h.off,by rw [hg];exact h.done,by rw [hg];exact h.item,
  fun j j' c a b x y=>h.one j j' c (hm▸a) (hm▸b) ((hf j c (hm▸a)).1 x) ((hf j' c (hm▸b)).1 y),fun j c a b=>by rw [hg];exact h.bH j c (hm▸a) (ha j (hm▸a)▸b),fun j c a b=>by rw [hg];exact h.stored j c (hm▸a) (ha j (hm▸a)▸b),fun j c a b=>by rw [hk];exact h.keep j c (hm▸a) ((hf j c (hm▸a)).1 b)⟩
theorem VE.still(bQ:dK Γ J)(h:Inv Γ J Fin base Shun S gs w t)(hs:Still Γ S w w')(hm:S'.m=S.m)(hg:S'.gh=S.gh)(hv:S'.vw=S.vw)(hf:∀j,j<S.m->(S'.ws j).fz=(S.ws j).fz)(hi:∀j,j<S.m->∀k,(S.ws j).inside k->(S'.ws j).inside k)(hr:∀j,j<S.m->(S'.ws j).rel=true->(S.ws j).rel=true)
  (hl:∀k,k<Γ.ns->dw Γ k w' (S'.wd k) (S'.sm k))
  (mQ:∃z st sm,WgAt Γ.wgT Γ.wg w' st sm/\sN (sumTo S.m (fun j=>(S'.ws j).cnt)+S'.ms.x.on) z st sm S'.ms.x/\(∀j,j<S.m->(S'.ws j).fJ=0\/(S'.ws j).fJ=z)/\
   (∀j j',j<S.m->j'<S.m->(S'.ws j).fJ≠0->(S'.ws j').fJ≠0->j=j')/\(z≠0->∃j,j<S.m/\(S'.ws j).fJ=z)):VE Γ J S' w':=by
 have hff:∀j c,j<S.m->(aT (S'.ws j) c↔aT (S.ws j) c):=fun j c hj=>by unfold aT;rw [hf j hj]
 refine⟨hl,fun k hk=>?_,hs.opn (.inl rfl) h.de.off,fun k hk c hc=>?_,fun j c a b=>?_,fun j a b=>?_,by rw [hm];exact mQ⟩
 ·rw [hg,hv];exact(h.de.cont k hk).imp (fun⟨j,a,b⟩=>⟨j,hm▸a,hi j a k b⟩) fun x=>⟨bQ.cont k _ _ _ _ x.1 (hs.rel _ (by simp)),x.2⟩
 ·rw [hg]at hc;have hp:Fa Γ S.gh c.ch:=.inr ⟨k,hk,c,hc,rfl⟩;unfold tU;rw [hg,hv];rcases h.de.yr k hk c hc with ⟨x,y⟩|⟨x,⟨s,r,tm,y⟩,z,u⟩
  ·exact .inl ⟨hs.opn hp x,y.imp (fun⟨a,j,b,d⟩=>⟨a,j,hm▸b,by rw [hf j b];exact d⟩) fun⟨a,j,b,d⟩=>⟨a,j,hm▸b,by rw [hf j b];exact d⟩⟩
  ·exact .inr ⟨x,⟨s,r,tm,(hs.NK _ hp).trans y⟩,bQ.full _ _ _ _ z (hs.rel _ (by simp)),u⟩
 ·have hx:=(hff j c (hm▸a)).1 b;obtain⟨_,_,_,hp⟩:=h.NK bQ (hm▸a) (.inr hx);exact hs.opn hp (h.de.opn j c (hm▸a) hx)
 ·rw [hv];exact bQ.res _ _ _ _ (h.de.res j (hm▸a) (hr j (hm▸a) b)) (hs.rel _ (by simp))
theorem ku(bQ:dK Γ J)(h:Inv Γ J Fin base Shun S gs w t)(hi:i<S.m)(hs:Still Γ S w w')(hm:S'.m=S.m)(yZ:S'.ms=S.ms\/S'.ms=S.ms.bump)(hq:S'.q=S.q)(hg:S'.gh=S.gh)(hv:S'.vw=S.vw)
  (hws:∀j,j≠i->(S'.ws j=(S.ws j).bump\/S'.ws j=S.ws j/\S'.wd=S.wd))(env:Env Γ base S (base+i) g g' w w' S'.sm)
  (work:dP (Γ.at J i) S'.sm (S.vw (.work i)) (S.vw (.mc i)) (deafBehind (Deaf t (base+i)) es) g' w' (S'.ws i))(pos:ju Γ J S.gh S'.wd i (S'.ws i))(EY:∀x T ρ,S'.ms=.walk x T ρ->x.rk (sumTo S.m fun j=>(S'.ws j).cnt)<=ρ)
  (FC:(S'.ws i).fz=(S.ws i).fz)(anG:∀k,(S.ws i).inside k->(S'.ws i).inside k)(hrl:(S'.ws i).rel=(S.ws i).rel)
  (mx:∀k,k<Γ.ns->br J.N (upd (fun j=>(S.ws j).role k) i ((S'.ws i).role k)) (S'.wd k) (S'.sm k))(hl:∀k,k<Γ.ns->dw Γ k w' (S'.wd k) (S'.sm k))
  (mQ:∃z st sm,WgAt Γ.wgT Γ.wg w' st sm/\sN (sumTo S.m (fun j=>(S'.ws j).cnt)+S'.ms.x.on) z st sm S'.ms.x/\(∀j,j<S.m->(S'.ws j).fJ=0\/(S'.ws j).fJ=z)/\
   (∀j j',j<S.m->j'<S.m->(S'.ws j).fJ≠0->(S'.ws j').fJ≠0->j=j')/\(z≠0->∃j,j<S.m/\(S'.ws j).fJ=z))
  (ys:yY Γ base Shun (fun j=>(S.ws j).rel) (t++MemOp.ofEvents (base+i) g.frame.fn g.frame.place es) S.m w.heap.size S.vw):VJ Γ J base Shun S S' i g g' w w' t (MemOp.ofEvents (base+i) g.frame.fn g.frame.place es):=by
 have oth:∀j,j≠i->(S'.ws j).fz=(S.ws j).fz/\(∀k,(S'.ws j).inside k↔(S.ws j).inside k)/\(S'.ws j).rel=(S.ws j).rel/\∀k,(S'.ws j).role k=(S.ws j).role k:=fun j hj=>by
  rcases hws j hj with e|⟨e,_⟩<;>rw [e]
  ·have a:=(S.ws j).sP;exact⟨a.fz,a.ins,a.rel,(S.ws j).ak1⟩
  ·exact⟨rfl,fun _=>.rfl,rfl,fun _=>rfl⟩
 have amY:∀j,(S'.ws j).fz=(S.ws j).fz:=fun j=>if e:j=i then e▸FC else(oth j e).1
 refine⟨hm,yZ,hq,fun j hj=>(hws j hj).symm.imp (·.1) id,by rw [hv],fun j _=>by rw [hv],fun j _=>by rw [hv],env,by rw [hv,Deaf_own];exact work,fun j hj=>?_,EY,by rw [hv];exact h.gV,fun A=>by rw [hv,hs.size];exact h.low A,by rw [hv];exact h.sync,by rw [hg,hv,hs.size];exact h.dL,fun k hk=>?_,h.bO.fz hm hg (fun j _=>amY j) (fun j=>by rw [hv]),?_,?_⟩
 ·rw [hg];by_cases e:j=i
  ·subst e;exact pos
  ·rcases hws j e with e'|⟨e',e2⟩
   ·rw [e'];exact Ws.anE (h.pos j hj)
   ·rw [e',e2];exact h.pos j hj
 ·have e:(fun j=>(S'.ws j).role k)=upd (fun j=>(S.ws j).role k) i ((S'.ws i).role k):=funext fun j=>by
   by_cases e:j=i
   ·subst e;rw [upd_same]
   ·rw [upd_ne _ _ e];exact(oth j e).2.2.2 k
  rw [e];exact mx k hk
 ·exact VE.still bQ h hs hm hg hv (fun j _=>amY j) (fun j _ k x=>if e:j=i then(by subst e;exact anG k x)else((oth j e).2.1 k).2 x) (fun j _ x=>if e:j=i then(by subst e;rw [←hrl];exact x)else(by rw [←(oth j e).2.2.1];exact x)) hl mQ
 ·have e:(fun j=>(S'.ws j).rel)=fun j=>(S.ws j).rel:=funext fun j=>if e:j=i then e▸hrl else(oth j e).2.2.1
  rw [e,hs.size,hv];exact ys
theorem y6(h:Inv Γ J Fin base Shun S gs w t){x:Ws}(hx:∀k,x.role k=(S.ws i).role k){k:Nat}(hk:k<Γ.ns):br J.N (upd (fun j=>(S.ws j).role k) i (x.role k)) (S.wd k) (S.sm k):=by
 rw [gn (hx k).symm];exact h.mx k hk
theorem qV(h:Inv Γ J Fin base Shun S gs w t):WgLive Γ.wgT Γ.wg w:=let⟨_,st,sm,x,_⟩:=h.de.wg;⟨st,sm,x⟩
structure kv(Γ:Rc)(es:Array Event):Prop where
 ev:∀e∈es,(∃a wr,e=⟨.cell a,wr,true⟩/\(aS Γ).wc a)\/e=⟨.mark .disable,false,true⟩\/e=⟨.mark .enable,false,true⟩
 mid:∀d j,d≠0->deafBehind d (es.extract 0 j)≠0
 all:∀d,deafBehind d es=d
theorem kv.plain(h:∀e∈es,∃a wr,e=⟨.cell a,wr,true⟩/\(aS Γ).wc a):kv Γ es:=by
 have hm:∀e∈es,e.loc≠.mark .disable/\e.loc≠.mark .enable:=fun e he=>by obtain⟨a,wr,rfl,_⟩:=h e he;simp
 refine⟨fun e he=>.inl (h e he),fun d j hd=>?_,deafBehind_still hm⟩;rw [deafBehind_still fun z hz=>hm z ?_]
 ·exact hd
 ·obtain⟨l⟩:=es;simp only [List.mem_toArray]at hz⊢;simp at hz;exact List.mem_of_mem_take hz
theorem kv.yK{a:Addr}(h:(aS Γ).wc a):kv Γ (semEvents a):=by
 refine⟨fun e he=>?_,fun d j hd=>?_,fun d=>by simp [semEvents,deafBehind]⟩
 ·simp [semEvents]at he;rcases he with rfl|rfl|rfl|rfl
  ·exact .inr (.inl rfl)
  ·exact .inl ⟨a,_,rfl,h⟩
  ·exact .inl ⟨a,_,rfl,h⟩
  ·exact .inr (.inr rfl)
 ·match j with
  |0=>simpa [semEvents,deafBehind]using hd
  |1=>simp [semEvents,deafBehind]
  |2=>simp [semEvents,deafBehind]
  |3=>simp [semEvents,deafBehind]
  |j+4=>simpa [semEvents,deafBehind]using hd
theorem ak5{I:Nat}{fn:FuncId}{pos:String}(hd:Deaf t I≠0)(he:kv Γ es){j:Nat}(hj:t.size<=j):¬(t++MemOp.ofEvents I fn pos es).heard j:=by
 rintro⟨x,hx,hx0⟩;obtain⟨op,ho,hog⟩:=Option.map_eq_some_iff.1 hx;have aE:op∈MemOp.ofEvents I fn pos es:=by
  rcases getElem?_append_cases ho with ⟨y,_⟩|⟨_,y⟩
  ·omega
  ·exact y
 have hg:x=I:=by rw [←hog];exact mg op aE
 subst hg;have aU:=lt_size_of_getElem? ho;have fO:(MemOp.ofEvents x fn pos es).size=es.size:=by rw [ofEvents_eq];simp
 rw [Array.size_append,fO]at aU;have e:=deaf_inside t x fn pos es (j-t.size) (by omega)
 rw [show t.size+(j-t.size)=j by omega]at e
 rw [e]at hx0;exact he.mid _ _ hd hx0
theorem Cm(h:Inv Γ J Fin base Shun S gs w t){A:Ag}{I:Nat}(hA:A≠.sync)(hg:VA base A I)(hj:∀j,A=.work j->j<S.m)(he:kv Γ es)(hd:A≠.main->Deaf t I≠0)(gj:∀a,(aS Γ).wc a->a.block<w.heap.size)(fn:FuncId)(pos:String):
  yY Γ base Shun (fun j=>(S.ws j).rel) (t++MemOp.ofEvents I fn pos es) S.m w.heap.size S.vw:=by
 refine h.ys.atom h.gV h.sync hg hj mg (fun op aE b hb=>?_) (fun hm j lO _=>ak5 (hd hm) he lO) (fun op aE=>?_) fun op aE a=>?_
 ·obtain⟨e,hee,rfl⟩:=Conc.mem_ofEvents aE;rcases he.ev e hee with ⟨a,wr,rfl,ha⟩|rfl|rfl
  ·rw [Cj]at hb;cases hb;exact⟨.inr (.inl ha),.inl rfl⟩
  ·cases hb
  ·cases hb
 ·obtain⟨e,hee,rfl⟩:=Conc.mem_ofEvents aE;rcases he.ev e hee with ⟨a,wr,rfl,ha⟩|rfl|rfl
  ·rw [show MemAct.ofEvent ⟨.cell a,wr,true⟩=.access ⟨.cell a,wr,true⟩ by cases wr<;>rfl]
   exact gj a ha
  ·trivial
  ·trivial
 ·obtain⟨e,hee,rfl⟩:=Conc.mem_ofEvents aE;rcases he.ev e hee with ⟨a,wr,rfl,ha⟩|rfl|rfl
  ·cases wr<;>simp [MemAct.ofEvent]
  ·simp [MemAct.ofEvent]
  ·simp [MemAct.ofEvent]
theorem Inv.jv(h:Inv Γ J Fin base Shun S gs w t):∀a,(aS Γ).wc a->a.block<w.heap.size:=by have:=(h.low .sync).wc;rwa [h.sync]at this
theorem tY(h:Inv Γ J Fin base Shun S gs w t){I:Nat}(he:∀e∈es,Event.mute e=true)(fn:FuncId)(pos:String):yY Γ base Shun (fun j=>(S.ws j).rel) (t++MemOp.ofEvents I fn pos es) S.m w.heap.size S.vw:=by
 refine h.ys.Oo (Nat.le_refl _) (Nat.le_refl _) (fun op aE=>?_) (fun op aE=>?_) (fun op aE a=>?_) (fun B a hc=>⟨B,hc,fun i hk=>hk.app _⟩) (fun i hk=>hk.app _) fun j i _ hk=>hk.app _
 ·obtain⟨e,hee,rfl⟩:=Conc.mem_ofEvents aE;exact touch_mute (he e hee)
 ·obtain⟨e,hee,rfl⟩:=Conc.mem_ofEvents aE;exact low_mute (he e hee) _
 ·obtain⟨⟨loc,wr,sy⟩,hee,rfl⟩:=Conc.mem_ofEvents aE;have:=he _ hee;cases loc with
  |mark m=>cases m<;>simp_all [Event.mute,MemAct.ofEvent]
  |_=>simp_all [Event.mute]
end
section
variable {J:cP} {w:World} {g:Goroutine} {sl:Option (Nat×Nat)}
theorem Ws.qW{s:Ws}(h:s.rel=true):s.fz=.none/\(∀k,s.role k=.out)/\(∀k,¬s.inside k)/\(∀wd,s.rk wd=0)/\s.T=.z:=by
 cases s with
 |walk p T ρ=>cases h
 |stop t=>cases h
 |done a b=>exact⟨rfl,fun _=>rfl,fun _=>id,fun _=>rfl,rfl⟩
 |quit q=>exact⟨rfl,fun _=>rfl,fun _=>id,fun _=>rfl,rfl⟩
theorem Ws.Ho{Γ:Rc}{J:cP}{γ:Nat->Gh}{wd:Nat->Wd}{j:Nat}{s:Ws}(h:s.rel=true):ju Γ J γ wd j s↔Seen γ J j 1:=by
 cases s with
 |walk p T ρ=>cases h
 |stop t=>cases h
 |done a b=>exact .rfl
 |quit q=>exact .rfl
theorem nj(h:VE Γ J S w){ws':Nat->Ws}{Cn:Ms}(hx:Cn.x=S.ms.x)(hc:∀j,j<S.m->(ws' j).cnt=(S.ws j).cnt)(hs:∀j,j<S.m->(ws' j).fJ=(S.ws j).fJ):
  ∃z st sm,WgAt Γ.wgT Γ.wg w st sm/\sN (sumTo S.m (fun j=>(ws' j).cnt)+Cn.x.on) z st sm Cn.x/\(∀j,j<S.m->(ws' j).fJ=0\/(ws' j).fJ=z)/\
   (∀j j',j<S.m->j'<S.m->(ws' j).fJ≠0->(ws' j').fJ≠0->j=j')/\(z≠0->∃j,j<S.m/\(ws' j).fJ=z):=by
 obtain⟨z,st,sm,h1,h2,h3,h4,h5⟩:=h.wg;refine⟨z,st,sm,h1,?_,fun j hj=>by rw [hs j hj];exact h3 j hj,fun j j' hj lO=>by rw [hs j hj,hs j' lO];exact h4 j j' hj lO,fun hz=>let⟨j,a,b⟩:=h5 hz;⟨j,a,(hs j a).trans b⟩⟩
 rw [hx,sumTo_congr (g:=fun j=>(S.ws j).cnt) hc];exact h2
theorem lp{ws:Nat->Ws}{x:Ws}{α:Type}(φ:Ws->α)(h:φ x=φ (ws i))(j:Nat):φ (upd ws i x j)=φ (ws j):=by
 by_cases e:j=i
 ·subst e;rw [upd_same];exact h
 ·rw [upd_ne ws x e]
theorem oG(bQ:dK Γ J)(h:Inv Γ J Fin base Shun S gs w t)(hi:i<S.m)(hg:gs[base+i]? =some g)(bF:stepG prog false g w=.go g' w es){x:Ws}(hx:(S.ws i).rel=true)(hxr:x.rel=true)(yO:x.cnt=(S.ws i).cnt)(aEA:x.fJ=(S.ws i).fJ)
  (he:∀e∈es,Event.mute e=true)(work:dP (Γ.at J i) S.sm (S.vw (.work i)) (S.vw (.mc i)) (deafBehind (Deaf t (base+i)) es) g' w x)(hm:x.E<(S.ws i).E\/x.E<=(S.ws i).E/\x.lv<(S.ws i).lv):Goal Γ J Fin base Shun S gs w sl t (runT prog (crowd gs w sl) (base+i)):=by
 have rZ:i<J.N:=Nat.lt_of_lt_of_le hi h.kq;have dZ:=h.pos i hi;have Hp:Seen S.gh J i 1:=(Ws.Ho hx).1 dZ;obtain⟨f1,f2,f3,f4,f5⟩:=Ws.qW hx;obtain⟨x1,x2,x3,x4,x5⟩:=Ws.qW hxr;have FC:x.fz=(S.ws i).fz:=x1.trans f1.symm;have r5:∀k,x.role k=(S.ws i).role k:=fun k=>(x2 k).trans (f2 k).symm;have anG:∀k,¬(S.ws i).inside k:=f3;have hrk:∀wd,x.rk wd=(S.ws i).rk wd:=fun wd=>(x4 wd).trans (f4 wd).symm;have hT:x.T=(S.ws i).T:=x5.trans f5.symm;refine h.goal (S':={S with ws:=upd S.ws i x}) bQ hi hg bF ?_ fun fx _=>?_
 ·refine ku bQ h hi (.refl Γ S w) rfl (.inl rfl) rfl rfl rfl (fun j hj=>.inr ⟨upd_ne S.ws _ hj,rfl⟩) (Rest.eQ S w _ g g') ?_ ?_ (fun y T ρ e=>?_) ?_ (fun k hk=>absurd hk (anG k)) ?_ (fun k hk=>?_) h.de.lock ?_ (tY h he _ _)
  ·show dP _ _ _ _ _ _ _ (upd S.ws i x i);rw [upd_same];exact work
  ·show ju _ _ _ _ _ (upd S.ws i x i);rw [upd_same];exact(Ws.Ho hxr).2 Hp
  ·show y.rk (sumTo S.m fun j=>(upd S.ws i x j).cnt)<=ρ;rw [je yO];exact h.EY y T ρ e
  ·show(upd S.ws i x i).fz=_;rw [upd_same];exact FC
  ·show(upd S.ws i x i).rel=_;rw [upd_same,hx,hxr]
  ·show br J.N (upd (fun j=>(S.ws j).role k) i ((upd S.ws i x i).role k)) _ _;rw [upd_same];exact y6 h r5 hk
  ·exact nj h.de rfl (fun j _=>lp Ws.cnt yO j) fun j _=>lp Ws.fJ aEA j
 ·have hv:ln.v {S with ws:=upd S.ws i x}=S.v:=je yO
  have e1:=fa S i x Ws.E rZ;have e2:=fa S i x (Ws.rk S.wd) rZ;have e3:=fa S i x Ws.lv rZ;rw [hrk S.wd]at e2;rcases hm with hm|⟨hm,hl⟩
  ·refine Fb ?_;show L1 Γ J _<L1 Γ J S
   simp only [L1];omega
  ·refine anC ?_ ?_ ?_ (.inl ?_)
   ·show L1 Γ J _<=L1 Γ J S
    simp only [L1];omega
   ·show L2 J _<=L2 J S
    simp only [L2,hv];omega
   ·funext j;cases j with
    |zero=>rfl
    |succ j=>exact lp Ws.T hT j
   ·show LL J base _<LL J base S
    simp only [LL];omega
theorem ak7(bQ:dK Γ J)(h:Inv Γ J Fin base Shun S gs w t)(hi:i<S.m)(hg:gs[base+i]? =some g)(hr:g.status=.running){q:Nat}(hw:S.ws i=.quit q):Goal Γ J Fin base Shun S gs w sl t (runT prog (crowd gs w sl) (base+i)):=by
 obtain⟨g0,hg0,hk⟩:=h.work i hi;obtain rfl:g0=g:=Option.some.inj (hg0.symm.trans hg);rw [hw]at hk;cases q with
 |zero=>rw [hk.1]at hr;cases hr
 |succ q=>
  rcases hk with ⟨hf,_⟩|⟨_,g',es,hm,VG,hq'⟩
  ·rw [hf]at hr;cases hr
  exact oG bQ h hi hg (VG w) (x:=.quit q) (by rw [hw];rfl) rfl (by rw [hw];rfl) (by rw [hw];rfl) hm hq' (.inr ⟨by rw [hw];exact Nat.le_refl _,by rw [hw];exact Nat.lt_succ_self _⟩)
theorem kx(bQ:dK Γ J)(h:Inv Γ J Fin base Shun S gs w t)(hi:i<S.m)(hg:gs[base+i]? =some g){s m:Nat}(hs:Still Γ S w w')(hlk:∀k,k<Γ.ns->w'.heap[Γ.src k]? =w.heap[Γ.src k]?)(hw:S.ws i=.done s m)(hd:Deaf t (base+i)≠0)
  (bF:stepG prog false g w=.go g' w' es)(he:kv Γ es){x:Ws}(hxr:x.rel=true)(hE:x.E<s)(r6:WgLive Γ.wgT Γ.wg w')
  (aPC:(mayWake prog g&&g'.status !=.blocked&&g'.status !=.waiting)=true\/((∃st,WgAt Γ.wgT Γ.wg w st 0)->∃st,WgAt Γ.wgT Γ.wg w' st 0))
  (work:dP (Γ.at J i) S.sm (S.vw (.work i)) (S.vw (.mc i)) (Deaf t (base+i)) g' w' x)
  (mQ:∃z st sm,WgAt Γ.wgT Γ.wg w' st sm/\sN (sumTo S.m (fun j=>(upd S.ws i x j).cnt)+S.ms.x.on) z st sm S.ms.x/\(∀j,j<S.m->(upd S.ws i x j).fJ=0\/(upd S.ws i x j).fJ=z)/\
   (∀j j',j<S.m->j'<S.m->(upd S.ws i x j).fJ≠0->(upd S.ws i x j').fJ≠0->j=j')/\(z≠0->∃j,j<S.m/\(upd S.ws i x j).fJ=z)):Goal Γ J Fin base Shun S gs w sl t (runT prog (crowd gs w sl) (base+i)):=by
 have rZ:i<J.N:=Nat.lt_of_lt_of_le hi h.kq;have dZ:=h.pos i hi;rw [hw]at dZ;refine h.goal (S':={S with ws:=upd S.ws i x,ms:=S.ms.bump}) bQ hi hg bF ?_ fun fx _=>?_
 ·refine ku bQ h hi hs rfl (.inr rfl) rfl rfl rfl (fun j hj=>.inr ⟨upd_ne S.ws _ hj,rfl⟩) (FU _ hs (fun _=>r6) (.inr fun _=>id) aPC) ?_ ?_ (fun y T ρ e=>?_) ?_ (fun k hk=>?_) ?_ (fun k hk=>?_) (fun k hk=>?_) ?_ (Cm h (A:=.work i) (by simp) rfl (fun j e=>by cases e;exact hi) he (fun _=>hd) h.jv _ _)
  ·show dP _ _ _ _ _ _ _ (upd S.ws i x i);rw [upd_same,he.all];exact work
  ·show ju _ _ _ _ _ (upd S.ws i x i);rw [upd_same];exact(Ws.Ho hxr).2 dZ
  ·show y.rk (sumTo S.m fun j=>(upd S.ws i x j).cnt)<=ρ
   have e:S.ms.bump=.walk y T ρ:=e;cases yZ:S.ms with
   |stop z=>rw [yZ]at e;cases e
   |walk z T' db=>
    rw [yZ]at e;cases e;cases y with
    |Hj v0=>simp only [MK.rk];split<;>omega
    |FP=>simp only [MK.rk];omega
    |_=>exact Nat.zero_le _
  ·show(upd S.ws i x i).fz=_;rw [upd_same,hw];exact(Ws.qW hxr).1
  ·rw [hw]at hk;exact hk.elim
  ·show(upd S.ws i x i).rel=_;rw [upd_same,hw,hxr];rfl
  ·show br J.N (upd (fun j=>(S.ws j).role k) i ((upd S.ws i x i).role k)) _ _;rw [upd_same]
   exact y6 h (fun k=>by rw [hw];exact(Ws.qW hxr).2.1 k) hk
  ·refine(h.de.lock k hk).imp fun c hc=>?_;obtain⟨ty,a,b⟩:=hc;exact⟨ty,(hlk k hk).trans a,b⟩
  ·obtain⟨z,st,sm,a,b⟩:=mQ;exact⟨z,st,sm,a,by rw [show({S with ws:=upd S.ws i x,ms:=S.ms.bump}:ln).ms.x=S.ms.x from S.ms.VI];exact b⟩
 ·refine Fb ?_;have e1:=fa S i x Ws.E rZ;rw [hw]at e1;have:(Ws.done s m).E=s:=rfl;show L1 Γ J _<L1 Γ J S
  simp only [L1,Ms.VI];omega
theorem sQ(bQ:dK Γ J){off:Nat}{v:Value}:∀k,k<Γ.ns->(w.setCell ⟨Γ.wg,off,none⟩ v).heap[Γ.src k]? =w.heap[Γ.src k]? :=fun k hk=>(aside_setCell w ⟨Γ.wg,off,none⟩ v).block _ (bQ.wg k hk)
theorem iR(off:Nat)(wr:Bool):kv Γ #[⟨.cell ⟨Γ.wg,off,none⟩,wr,true⟩]:=.plain fun e he=>by
 simp at he;exact⟨_,wr,he,.inr rfl⟩
theorem nk(off:Nat)(x y:Bool):kv Γ #[⟨.cell ⟨Γ.wg,off,none⟩,x,true⟩,⟨.cell ⟨Γ.wg,off,none⟩,y,true⟩]:=.plain fun e he=>by
 simp at he;rcases he with he|he<;>exact⟨_,_,he,.inr rfl⟩
theorem VN{v z:Nat}{st sm:Int}{x:MK}(h:sN v z st sm x)(hz:z≠0):(x=.mwr\/x=.sM)/\v=0/\(((z=3\/z=2)/\st=1/\sm=0)\/(z=1/\st=0/\sm=0)):=by
 have key:∀y:MK,(y=.mwr\/y=.sM)->sN v z st sm y->v=0/\(((z=3\/z=2)/\st=1/\sm=0)\/(z=1/\st=0/\sm=0)):=fun y hy h=>by
  have h:(z=0/\0<v/\st=(v:Int)*KK+1/\sm=0)\/(v=0/\(z=3\/z=2)/\st=1/\sm=0)\/(v=0/\z=1/\st=0/\sm=0)\/(v=0/\z=0/\st=0/\sm=1):=by rcases hy with rfl|rfl<;>exact h
  rcases h with ⟨h,_⟩|⟨a,b⟩|⟨a,b⟩|⟨_,h,_⟩
  ·exact absurd h hz
  ·exact⟨a,.inl b⟩
  ·exact⟨a,.inr b⟩
  ·exact absurd h hz
 cases x with
 |mwr=>exact⟨.inl rfl,key _ (.inl rfl) h⟩
 |sM=>exact⟨.inr rfl,key _ (.inr rfl) h⟩
 |Ce=>exact absurd h.2.1 hz
 |rL=>exact absurd h.2.1 hz
 |_=>exact absurd h.1 hz
theorem anH{v z:Nat}{st sm:Int}{x:MK}(h:sN v z st sm x)(hv:0<v):z=0/\sm=0/\∃u:Nat,u<=1/\st=(v:Int)*KK+u/\∀v' z':Nat,(z'=if v'=0/\u=1 then 3 else 0)->sN v' z' ((v':Int)*KK+u) 0 x:=by
 have key:∀y:MK,(y=.mwr\/y=.sM)->sN v z st sm y->z=0/\sm=0/\∃u:Nat,u<=1/\st=(v:Int)*KK+u/\∀v' z':Nat,(z'=if v'=0/\u=1 then 3 else 0)->sN v' z' ((v':Int)*KK+u) 0 y:=fun y hy h=>by
  have h:(z=0/\0<v/\st=(v:Int)*KK+1/\sm=0)\/(v=0/\(z=3\/z=2)/\st=1/\sm=0)\/(v=0/\z=1/\st=0/\sm=0)\/(v=0/\z=0/\st=0/\sm=1):=by rcases hy with rfl|rfl<;>exact h
  rcases h with ⟨a,_,b,c⟩|⟨a,_⟩|⟨a,_⟩|⟨a,_⟩<;>first|(exfalso;omega)|skip
  refine⟨a,c,1,Nat.le_refl _,b,fun v' z' hz=>?_⟩;have:(z'=0/\0<v'/\(v':Int)*KK+(1:Nat)=(v':Int)*KK+1/\(0:Int)=0)\/(v'=0/\(z'=3\/z'=2)/\(v':Int)*KK+(1:Nat)=1/\(0:Int)=0):=by
   by_cases h0:v'=0
   ·subst h0;right;refine⟨rfl,.inl (by simpa using hz),by simp,rfl⟩
   ·left;exact⟨by simpa [h0]using hz,Nat.pos_of_ne_zero h0,rfl,rfl⟩
  rcases hy with rfl|rfl<;>exact this.imp id .inl
 cases x with
 |mwr=>exact key _ (.inl rfl) h
 |sM=>exact key _ (.inr rfl) h
 |Ce=>exact absurd h.1 (by omega)
 |rL=>exact absurd h.1 (by omega)
 |_=>exact⟨h.1,h.2.2,0,by omega,by rw [h.2.1];simp,fun v' z' hz=>⟨by simpa using hz,by simp,rfl⟩⟩
theorem tZ{ws:Nat->Ws}{m:Nat}{x:Ws}(h:∀j j',j<m->j'<m->(ws j).fJ≠0->(ws j').fJ≠0->j=j')(hi:i<m)(hx:x.fJ≠0->(ws i).fJ≠0\/∀j,j<m->(ws j).fJ=0):
  ∀j j',j<m->j'<m->(upd ws i x j).fJ≠0->(upd ws i x j').fJ≠0->j=j':=by
 intro j j' hj lO a b;by_cases e:j=i
 ·by_cases e':j'=i
  ·rw [e,e']
  ·subst e;rw [upd_same]at a;rw [upd_ne ws x e']at b;rcases hx a with y|y
   ·exact h _ _ hj lO y b
   ·exact absurd (y j' lO) b
 ·rw [upd_ne ws x e]at a;by_cases e':j'=i
  ·subst e';rw [upd_same]at b;rcases hx b with y|y
   ·exact h _ _ hj lO a y
   ·exact absurd (y j hj) a
  ·rw [upd_ne ws x e']at b;exact h _ _ hj lO a b
theorem ak8(bQ:dK Γ J)(h:Inv Γ J Fin base Shun S gs w t)(hi:i<S.m)(hg:gs[base+i]? =some g){s m:Nat}(hw:S.ws i=.done s m):Goal Γ J Fin base Shun S gs w sl t (runT prog (crowd gs w sl) (base+i)):=by
 obtain⟨g0,hg0,hk⟩:=h.work i hi;obtain rfl:g0=g:=Option.some.inj (hg0.symm.trans hg);rw [hw]at hk;obtain⟨s1,s5,hd,pl,C,n,ic,hc,hG⟩:=hk;have rK:(S.ws i).rel=true:=by rw [hw];rfl
 have rw0:@ConcN.RW pl Γ.wgT Γ.wg C n 0 ic w w:=Hl (.refl _ w) hc id;have rZ:i<J.N:=Nat.lt_of_lt_of_le hi h.kq;have hEi:(S.ws i).E=s:=by rw [hw];rfl
 have way:Cg pl Γ C n ic s g0 w\/∃m',m=m'+1/\(stepG prog false g0 w).goes fun g' w' es=>ConcR.DC0 w w' es/\Goes prog false (@ConcN.RW pl Γ.wgT Γ.wg C n 0 ic) ConcR.DC0 (Cg pl Γ C n ic s) m' g' w':=by
  cases m with
  |zero=>exact .inl (hG w rw0)
  |succ m=>
   rcases hG with hG|⟨_,hG⟩
   ·exact .inl (hG w rw0)
   ·exact .inr ⟨m,rfl,hG w rw0⟩
 rcases way.symm with ⟨m',rfl,FV⟩|hP
 ·cases hgo:stepG prog false g0 w with
  |go g' w' es=>
   rw [hgo,goes_go]at FV;obtain⟨⟨rfl,rfl⟩,hG'⟩:=FV;exact oG bQ h hi hg hgo (x:=.done s m') rK rfl (by rw [hw];rfl) (by rw [hw];rfl) (fun e he=>absurd he (Array.not_mem_empty _)) ⟨s1,s5,hd,pl,C,n,ic,hc,hG'⟩ (.inr ⟨by rw [hw];exact Nat.le_refl _,by rw [hw];exact Nat.lt_succ_self _⟩)
  |_=>rw [hgo]at FV;exact FV.elim
 obtain⟨z,st,sm,mO,xn,EZ,hw4,VO⟩:=h.de.wg;have oH:(S.ws i).fJ=if s<=3 then s else 0:=by rw [hw];rfl
 have s':s=5\/s=4\/s=3\/s=2\/s=1:=by omega
 rcases s' with rfl|rfl|rfl|rfl|rfl
 ·obtain⟨_,g',bF,m',hG'⟩:=hP;refine oG bQ h hi hg bF (x:=.done 4 m') rK rfl (by rw [hw];rfl) (by rw [hw];rfl) (fun e he=>?_) ⟨by omega,by omega,?_,pl,C,n,ic,hc,hG'⟩ (.inl (by rw [hEi];exact Nat.lt_succ_self _))
  ·simp at he;subst he;rfl
  ·rw [hd];rfl
 ·obtain⟨_,axI⟩:=hP;have yO:=le_sumTo (f:=fun j=>(S.ws j).cnt) hi;have hci:(S.ws i).cnt=1:=by rw [hw];rfl
  simp only [hci]at yO;have hle:sumTo S.m (fun j=>(S.ws j).cnt)<=S.m:=by
   have:=ConcN.sumTo_le (f:=fun j=>(S.ws j).cnt) (c:=1) (j:=S.m) fun j _=>by cases S.ws j<;>simp only [Ws.cnt]<;>(try split)<;>omega
   omega
  have hon:S.ms.x.on<=1:=by cases S.ms.x<;>simp [MK.on]
  obtain⟨rfl,rfl,u,hu,rfl,VP⟩:=anH xn (by omega)
  have hN:=bQ.N;have hmN:=h.kq;obtain⟨v',yM⟩:∃v',sumTo S.m (fun j=>(S.ws j).cnt)+S.ms.x.on=v'+1:=⟨_,(Nat.succ_pred_eq_of_pos (by omega)).symm⟩
  obtain⟨g',bF,lq,aYl⟩:=axI v' u hu (by omega) (by
   have e:((sumTo S.m (fun j=>(S.ws j).cnt)+S.ms.x.on:Nat):Int)=(v':Int)+1:=by omega
   rw [e]at mO;exact mO)
  have hz0:∀j,j<S.m->(S.ws j).fJ=0:=fun j hj=>(EZ j hj).elim id id;have gv:=Go.ConcR.WgAt.setSt mO ((v':Int)*KK+u);have r6:WgLive Γ.wgT Γ.wg (w.setCell (stA Γ.wg) (.int .u64 ((v':Int)*KK+u))):=⟨_,_,gv⟩;by_cases hl:v'=0/\u=1
  ·obtain⟨m',hG'⟩:=lq hl;refine kx bQ h hi hg (kr h) (sQ bQ) hw (by rw [hd];simp) bF (nk _ _ _) (x:=.done 3 m') rfl (by simp [Ws.E]) r6 (.inr fun _=>⟨_,gv⟩) ⟨by omega,by omega,by rw [hd];rfl,pl,C,n,ic,hc,hG'⟩ ⟨3,_,0,gv,?_,fun j hj=>?_,tZ hw4 hi fun _=>.inr hz0,fun _=>⟨i,hi,by rw [upd_same];rfl⟩⟩
   ·have e:=fa S i (.done 3 m') Ws.cnt hi;have e1:(Ws.done 3 m').cnt=0:=rfl;rw [show sumTo S.m (fun j=>(upd S.ws i (Ws.done 3 m') j).cnt)+S.ms.x.on=v' by omega]
    exact VP _ _ (by rw [if_pos hl])
   ·by_cases e:j=i
    ·subst e;rw [upd_same];exact .inr rfl
    ·rw [upd_ne S.ws _ e];exact .inl (hz0 j hj)
  ·obtain⟨q,hq⟩:=aYl hl;refine kx bQ h hi hg (kr h) (sQ bQ) hw (by rw [hd];simp) bF (nk _ _ _) (x:=.quit q) rfl (by simp [Ws.E]) r6 (.inr fun _=>⟨_,gv⟩) (by rw [hd];exact hq) ⟨0,_,0,gv,?_,fun j hj=>.inl ?_,tZ hw4 hi fun x=>absurd rfl x,fun x=>absurd rfl x⟩
   ·have e:=fa S i (.quit q) Ws.cnt hi;have e1:(Ws.quit q).cnt=0:=rfl;rw [show sumTo S.m (fun j=>(upd S.ws i (Ws.quit q) j).cnt)+S.ms.x.on=v' by omega]
    exact VP _ _ (by rw [if_neg hl])
   ·by_cases e:j=i
    ·subst e;rw [upd_same];rfl
    ·rw [upd_ne S.ws _ e];exact hz0 j hj
 ·obtain⟨_,aPD⟩:=hP;have hz:3=z:=(EZ i hi).resolve_left (by rw [oH];decide)▸oH.symm
  subst hz;obtain⟨hx,rM,anJ⟩:=VN xn (by decide)
  obtain⟨_,rfl,rfl⟩:=anJ.resolve_right fun y=>absurd y.1 (by decide)
  obtain⟨g',bF,m',hG'⟩:=aPD mO;refine kx bQ h hi hg (.refl Γ S w) (fun _ _=>rfl) hw (by rw [hd];simp) bF (iR _ _) (x:=.done 2 m') rfl (by simp [Ws.E]) (qV h) (.inr id) ⟨by omega,by omega,by rw [hd];rfl,pl,C,n,ic,hc,hG'⟩ ⟨2,1,0,mO,?_,fun j hj=>?_,tZ hw4 hi fun _=>.inl (by rw [oH];decide),fun _=>⟨i,hi,by rw [upd_same];rfl⟩⟩
  ·rw [je (by rw [hw];rfl)]
   rcases hx with e|e<;>rw [e]at rM⊢<;>exact .inr (.inl ⟨rM,.inr rfl,rfl,rfl⟩)
  ·by_cases e:j=i
   ·subst e;rw [upd_same];exact .inr rfl
   ·rw [upd_ne S.ws _ e];refine .inl ?_;by_cases y:(S.ws j).fJ=0
    ·exact y
    ·exact absurd (hw4 j i hj hi y (by rw [oH];decide)) e
 ·obtain⟨_,aYm⟩:=hP;have hz:2=z:=(EZ i hi).resolve_left (by rw [oH];decide)▸oH.symm
  subst hz;obtain⟨hx,rM,anJ⟩:=VN xn (by decide)
  obtain⟨_,rfl,rfl⟩:=anJ.resolve_right fun y=>absurd y.1 (by decide)
  obtain⟨g',bF,m',hG'⟩:=aYm mO;have gv:=Go.ConcR.WgAt.setSt mO 0;refine kx bQ h hi hg (kr h) (sQ bQ) hw (by rw [hd];simp) bF (iR _ _) (x:=.done 1 m') rfl (by simp [Ws.E]) ⟨_,_,gv⟩ (.inr fun _=>⟨_,gv⟩) ⟨by omega,by omega,by rw [hd];rfl,pl,C,n,ic,hc,hG'⟩ ⟨1,0,0,gv,?_,fun j hj=>?_,tZ hw4 hi fun _=>.inl (by rw [oH];decide),fun _=>⟨i,hi,by rw [upd_same];rfl⟩⟩
  ·rw [je (by rw [hw];rfl)]
   rcases hx with e|e<;>rw [e]at rM⊢<;>exact .inr (.inr (.inl ⟨rM,rfl,rfl,rfl⟩))
  ·by_cases e:j=i
   ·subst e;rw [upd_same];exact .inr rfl
   ·rw [upd_ne S.ws _ e];refine .inl ?_;by_cases y:(S.ws j).fJ=0
    ·exact y
    ·exact absurd (hw4 j i hj hi y (by rw [oH];decide)) e
 ·obtain⟨_,hmw,VQ⟩:=hP;have hz:1=z:=(EZ i hi).resolve_left (by rw [oH];decide)▸oH.symm
  subst hz;obtain⟨hx,rM,anJ⟩:=VN xn (by decide)
  obtain⟨_,rfl,rfl⟩:=anJ.resolve_left fun y=>absurd y.1 (by decide)
  obtain⟨g',bF,q,hq⟩:=VQ mO;have gv:=Go.ConcR.WgAt.setSm mO 1;refine kx bQ h hi hg (kr h) (sQ bQ) hw (by rw [hd];simp) bF (.yK (.inr rfl)) (x:=.quit q) rfl (by simp [Ws.E]) ⟨_,_,gv⟩ (.inl ?_) (by rw [hd];exact hq) ⟨0,0,1,gv,?_,fun j hj=>.inl ?_,tZ hw4 hi fun x=>absurd rfl x,fun x=>absurd rfl x⟩
  ·rw [hmw];rcases QuitsD.status hq with e|e<;>rw [e]<;>rfl
  ·rw [je (by rw [hw];rfl)]
   rcases hx with e|e<;>rw [e]at rM⊢<;>exact .inr (.inr (.inr ⟨rM,rfl,rfl,rfl⟩))
  ·by_cases e:j=i
   ·subst e;rw [upd_same];rfl
   ·rw [upd_ne S.ws _ e];by_cases y:(S.ws j).fJ=0
    ·exact y
    ·exact absurd (hw4 j i hj hi y (by rw [oH];decide)) e
end
theorem Co{α:Type}{p:α->Bool}{x y:α}:∀{l:List α} {i:Nat},l[i]? =some x->p x=true->p y=false->((l.set i y).filter p).length<(l.filter p).length
 |a::l,0,h,hx,hy=>by
  simp only [List.getElem?_cons_zero,Option.some.injEq]at h;subst h;simp [hx,hy]
 |a::l,i+1,h,hx,hy=>by
  have:=Co (l:=l) (i:=i) (by simpa using h) hx hy
  by_cases ha:p a=true<;>simp [ha]<;>omega
theorem oI{gs:Array Goroutine}{I:Nat}{g g':Goroutine}(h:gs[I]? =some g)(hr:g.status=.running)(hn:g'.status≠.running):running (gs.setIfInBounds I g')<running gs:=by
 unfold running;rw [Array.toList_setIfInBounds];exact Co (by simpa using h) (by simp [hr]) (by simpa using hn)
theorem r7{P:Program}{g g':Goroutine}{w':World}(h:g'.status=.blocked):woken P g g' w'=id:=by
 funext o;simp [woken,h]
theorem Out.some{p:LP}{wd iZ:Wd}{sm iN:Nat}{r':MR}{q:LP->Prop}(o:Out p wd sm iZ iN r' (.on q)):∃p',q p':=by
 cases o with
 |ld=>exact⟨_,.inl rfl⟩
 |l5 _=>exact⟨_,false,.inl rfl⟩
 |_=>exact⟨_,rfl⟩
section
variable {J:cP} {w:World} {g:Goroutine} {sl:Option (Nat×Nat)}
theorem ua{q:Tag->Prop}{V:View}(h:bf (At Γ) q V g w):g.status=.running:=by
 obtain⟨T,h⟩:=h;cases T with
 |z=>obtain⟨t,_,ht⟩:=h w (.refl V w);exact ht.law.1
 |mk f=>exact h.1
theorem FW{k:Nat}(hk:k<Γ.ns)(h:aEm Γ k es):kv Γ es:=by
 have ha:∀off:Nat,(off=2\/off=3)->(aS Γ).wc ⟨Γ.src k,off,none⟩:=fun off ho=>.inl ⟨k,hk,rfl,ho⟩;rcases h with rfl|rfl|rfl|rfl
 ·exact .plain fun e he=>absurd he (Array.not_mem_empty _)
 ·exact .plain fun e he=>by simp at he;exact⟨_,_,he,ha 2 (.inl rfl)⟩
 ·exact .plain fun e he=>by simp at he;rcases he with he|he<;>exact⟨_,_,he,ha 2 (.inl rfl)⟩
 ·exact .yK (ha 3 (.inr rfl))
theorem qX(h:Inv Γ J Fin base Shun S gs w t)(hi:i<S.m)(hg:gs[base+i]? =some g){tg:Tag}(hw:S.ws i=.stop tg):
  (S.vw (.work i)).deaf=Deaf t (base+i)/\∃g0 w0,At (Γ.at J i) tg (S.vw (.work i)) g0 w0/\aP (S.vw (.work i)) w0 w/\(∀w₁,stepG prog false g w₁=stepG prog false g0 w₁)/\mayWake prog g=mayWake prog g0/\g.frame=g0.frame/\g.callers=g0.callers/\g.dying=g0.dying:=by
 obtain⟨g1,hg1,hk⟩:=h.work i hi;obtain rfl:g1=g:=Option.some.inj (hg1.symm.trans hg);rw [hw]at hk;obtain⟨hd,g0,w0,q1,q2,q3,q4,q5,_⟩:=hk;exact⟨hd,g0,w0,q1,q2,fun w₁=>stepG_same q3 q4 q5 w₁,by simp only [mayWake,q3],q3,q4,q5⟩
theorem VS(bQ:dK Γ J)(h:Inv Γ J Fin base Shun S gs w t)(hi:i<S.m)(hg:gs[base+i]? =some g)(hr:g.status=.running){tg:Tag}(hw:S.ws i=.stop tg){k:Nat}(hk:tg.kind=.lk k .yK)(hsm:S.sm k=0){g0:Goroutine}
  (jf:∃w0,At (Γ.at J i) tg (S.vw (.work i)) g0 w0/\aP (S.vw (.work i)) w0 w)(hd:(S.vw (.work i)).deaf=Deaf t (base+i))(ho:g0.offers=none)(bF:stepG prog false g w=.go {g0 with status:=.blocked} w #[]):
  Goal Γ J Fin base Shun S gs w sl t (runT prog (crowd gs w sl) (base+i)):=by
 refine h.goal (S':=S) bQ hi hg bF ?_ fun fx hgs=>?_
 ·refine ku bQ h hi (.refl Γ S w) rfl (.inl rfl) rfl rfl rfl (fun j _=>.inr ⟨rfl,rfl⟩) (Rest.eQ S w _ g _) ?_ (h.pos i hi) (fun y T ρ e=>h.EY y T ρ e) rfl (fun _ x=>x) rfl (fun k hk=>y6 h (fun _=>rfl) hk) h.de.lock h.de.wg (tY h (fun e he=>absurd he (Array.not_mem_empty _)) _ _);rw [hw];obtain⟨w0,h1,h2⟩:=jf;exact⟨hd,g0,w0,h1,h2,rfl,rfl,rfl,.inr ⟨rfl,.inl ⟨k,hk,hsm,ho⟩⟩⟩
 ·subst hgs;rw [r7 rfl,Array.map_id];exact anC (Nat.le_refl _) (Nat.le_refl _) rfl (.inr ⟨Nat.le_refl _,oI hg hr (by simp)⟩)
def dh(b:Bool)(ws:Nat->Ws):Nat->Ws:=fun j=>if b then(ws j).bump else ws j
theorem FX(b:Bool)(ws:Nat->Ws)(j:Nat):(dh b ws j).E=(ws j).E:=by unfold dh;split<;>simp [Ws.aEz]
theorem ax6(bQ:dK Γ J)(h:Inv Γ J Fin base Shun S gs w t)(hi:i<S.m)(hg:gs[base+i]? =some g)(hr:g.status=.running){e:En}{f:Fz}{k:Nat}{p:LP}(hw:S.ws i=.stop ⟨e,f,.lk k p⟩):Goal Γ J Fin base Shun S gs w sl t (runT prog (crowd gs w sl) (base+i)):=by
 obtain⟨hd,g0,w0,jf,nf,bF,hmw,_⟩:=qX h hi hg hw;obtain⟨_,hV,dH,hk,fb⟩:=jf.law;have rZ:i<J.N:=Nat.lt_of_lt_of_le hi h.kq;have hmx:=h.mx k hk;have r5:(S.ws i).role k=p.role:=by rw [hw];simp [Ws.role,Kind.role]
 have anK:=axv bQ.N rZ hmx;simp only [r5]at anK;have a3U:S.sm k<=J.N:=by
  cases hwd:S.wd k with
  |mk L W Sx n=>rw [hwd]at hmx;exact(BG hmx).2
 have hN:=bQ.N;obtain⟨hl1,hl2,hl3⟩:=fb w (S.wd k) (S.sm k) nf (h.de.lock k hk) (by omega) anK
 by_cases VQ:p=.yK/\S.sm k=0
 ·obtain⟨ho,hx⟩:=hl1 VQ.1 VQ.2;exact VS bQ h hi hg hr hw (by simp [VQ.1]) VQ.2 ⟨w0,jf,nf⟩ hd ho ((bF w).trans hx)
 obtain⟨g',w',es,iZ,iN,r',to,hx,ho,hla,hol,gN,sO⟩:=hl3 VQ;obtain⟨T,hT⟩:=sO;have jU:g'.status=.running:=ua ⟨T,hT⟩;replace hol:gq Γ k w w':=⟨hol.tape,hol.output,hol.os,hol.size,hol.kind,hol.block,hol.cell⟩;replace hla:dw Γ k w' iZ iN:=hla;replace gN:aEm Γ k es:=gN;have anM:=VM h hk hol;have anN:Deaf t (base+i)≠0:=by rw [←hd,hV];simp
 have dZ:=h.pos i hi;rw [hw]at dZ;obtain⟨_,Cp,Oy,aEB⟩:=dZ;have aEC:w'.heap[Γ.wg]? =w.heap[Γ.wg]? :=hol.block _ fun e=>bQ.wg k hk e.symm;have gj:=ho.lowers dH;obtain⟨P,ρ,hP1,hP2,hP3,hP4⟩:∃(P:Pos) (ρ:Nat),(∀tg,rY (Γ.at J i) e f k to tg->P.tags (Γ.at J i) tg)/\ju Γ J S.gh (upd S.wd k iZ) i (.walk P T ρ)/\
   ((∀k',P.role k'=if k=k' then r' else .out)/\P.fz=f/\(∀k',¬(Ws.walk P T ρ).inside k')/\P.E<=EC*e.n+4*r'.worth+3)/\
   ((r'.worth+10*iN<p.worth+10*S.sm k)\/(iZ=S.wd k/\iN=S.sm k/\P.E<=EC*e.n+4*p.worth/\(Ws.walk P T ρ).rk S.wd<p.ot (S.wd k))):=by
  cases to with
  |on q=>
   have hq:∀p',q p'->p'.ok/\p'.role=r':=fun p' hp'=>ho.oks dH anK hp';by_cases cM:∃p',q p'
   ·obtain⟨p1,hp1⟩:=cM;have aPG:=(ho.Ve hp1).1;rcases gj with gj|⟨rfl,hs,hrr,q',hto,aA7⟩
    ·refine⟨.lk e f k r' q,57,fun tg ht=>ht,⟨hk,Cp,Oy,aPG,fun p' hp'=>⟨(hq p' hp').1,(hq p' hp').2,LP.G5 _ _,fun hu=>aEB ((ho.Ve hp').2 hu)⟩⟩,⟨fun k'=>rfl,rfl,fun _=>id,?_⟩,.inl gj⟩;simp only [Pos.E];omega
    ·cases hto;refine⟨.lk e f k r' q,p.ot (S.wd k)-1,fun tg ht=>ht,⟨hk,Cp,Oy,aPG,fun p' hp'=>⟨(hq p' hp').1,(hq p' hp').2,?_,fun hu=>aEB ((ho.Ve hp').2 hu)⟩⟩,⟨fun k'=>rfl,rfl,fun _=>id,?_⟩,.inr ⟨rfl,hs,?_,?_⟩⟩
     ·rw [upd_same];have:=aA7 p' hp';omega
     ·simp only [Pos.E];omega
     ·have:r'.worth<=p.worth:=by rw [hrr];cases p<;>first|exact Nat.le_refl _|(simp [LP.worth,LP.role,MR.worth])
      simp only [Pos.E];omega
     ·have:=aA7 p1 hp1;show p.ot (S.wd k)-1<_;omega
   ·exact absurd ho.some cM
  |held=>
   have hh:=ho.held;rcases gj with gj|⟨_,_,_,q',hto,_⟩
   ·refine⟨.acq e f k,0,fun tg ht=>ht,⟨hk,Cp,Oy⟩,⟨fun k'=>by rw [hh];rfl,rfl,fun _=>id,?_⟩,.inl gj⟩
    rw [hh];exact Nat.le_refl _
   ·cases hto
  |off=>
   obtain⟨hh,hu⟩:=ho.off;rcases gj with gj|⟨_,_,_,q',hto,_⟩
   ·refine⟨.oa e f,0,fun tg ht=>ht,?_,⟨fun k'=>by rw [hh];simp [Pos.role],rfl,fun _=>id,?_⟩,.inl gj⟩
    ·have qY:=aEB hu;show aA1 S.gh J i e f
     cases f with
     |none=>exact absurd rfl qY
     |_=>exact Cp
    ·rw [hh];simp only [Pos.E,MR.worth];omega
   ·cases hto
 obtain⟨aYn,aYo,a30,a34⟩:=hP3;have hl':Local prog false (fun V g w=>∃tg,P.tags (Γ.at J i) tg/\At (Γ.at J i) tg V g w) T (S.vw (.work i)) g' w':=Local.mono (fun V g w ⟨tg,x,y⟩=>⟨tg,hP1 tg x,y⟩) hT;have main:∀b:Bool,(b=true\/(iZ=S.wd k/\b=false))->∀fx,fx=(gs.map (woken prog g g' w')).setIfInBounds (base+i) g'->
   (MLt (J.N+1) (meas Γ J base {S with ws:=upd (dh b S.ws) i (.walk P T ρ),wd:=upd S.wd k iZ,sm:=upd S.sm k iN} fx) (meas Γ J base S gs))->Goal Γ J Fin base Shun S gs w sl t (runT prog (crowd gs w sl) (base+i)):=by
  intro b hb gs1 aYq hm;have aYr:b=false->upd S.wd k iZ=S.wd:=fun e=>by
   rcases hb with hb|⟨hb,_⟩
   ·rw [e]at hb;cases hb
   ·rw [hb];exact gn rfl
  refine h.goal (S':={S with ws:=upd (dh b S.ws) i (.walk P T ρ),wd:=upd S.wd k iZ,sm:=upd S.sm k iN}) bQ hi hg ((bF w).trans hx) ?_ fun gs2 aYs=>by rw [aYs,←aYq];exact hm
  have hWi:upd (dh b S.ws) i (Ws.walk P T ρ) i=.walk P T ρ:=upd_same _ _ _;have anO:∀j,(upd (dh b S.ws) i (Ws.walk P T ρ) j).cnt=(S.ws j).cnt/\(upd (dh b S.ws) i (Ws.walk P T ρ) j).fJ=(S.ws j).fJ:=fun j=>by
   by_cases e:j=i
   ·subst e;rw [upd_same,hw];exact⟨rfl,rfl⟩
   ·rw [upd_ne _ _ e];unfold dh;split
    ·exact⟨(S.ws j).sP.cnt,(S.ws j).sP.fJ⟩
    ·exact⟨rfl,rfl⟩
  refine ku bQ h hi anM rfl (.inl rfl) rfl rfl rfl (fun j hj=>?_) (FU _ anM (fun⟨st,sm,x⟩=>⟨st,sm,aEC.trans x⟩) ?_ (.inr fun⟨st,x⟩=>⟨st,aEC.trans x⟩)) ?_ ?_ (fun y T' db e'=>?_) ?_ (fun k' cm=>?_) ?_ (fun k' cm=>?_) (fun k' cm=>?_) ?_ (Cm h (A:=.work i) (by simp) rfl (fun j e=>by cases e;exact hi) (FW hk gN) (fun _=>anN) h.jv _ _)
  ·show upd (dh b S.ws) i (Ws.walk P T ρ) j=_\/upd (dh b S.ws) i (Ws.walk P T ρ) j=_/\upd S.wd k iZ=S.wd
   rw [upd_ne _ _ hj];cases b with
   |true=>exact .inl rfl
   |false=>exact .inr ⟨rfl,aYr rfl⟩
  ·rcases ho.aPl with hus|hle
   ·left;rw [hmw,hl2 hus,jU];rfl
   ·right;intro k' h0;show upd S.sm k iN k'=0
    by_cases e:k'=k
    ·subst e;rw [upd_same];omega
    ·rw [upd_ne _ _ e];exact h0
  ·show dP _ _ _ _ _ _ _ (upd (dh b S.ws) i (Ws.walk P T ρ) i)
   rw [hWi,(FW hk gN).all];exact⟨hd,hl'⟩
  ·show ju _ _ _ _ _ (upd (dh b S.ws) i (Ws.walk P T ρ) i)
   rw [hWi];exact hP2
  ·show y.rk (sumTo S.m fun j=>(upd (dh b S.ws) i (Ws.walk P T ρ) j).cnt)<=db
   rw [sumTo_congr (g:=fun j=>(S.ws j).cnt) fun j _=>(anO j).1];exact h.EY y T' db e'
  ·show(upd (dh b S.ws) i (Ws.walk P T ρ) i).fz=_
   rw [hWi,hw];exact aYo
  ·rw [hw]at cm;exact cm.elim
  ·show(upd (dh b S.ws) i (Ws.walk P T ρ) i).rel=_
   rw [hWi,hw];rfl
  ·show br J.N (upd (fun j=>(S.ws j).role k') i ((upd (dh b S.ws) i (Ws.walk P T ρ) i).role k')) (upd S.wd k iZ k') (upd S.sm k iN k')
   rw [hWi,show(Ws.walk P T ρ).role k'=P.role k' from rfl,aYn k']
   by_cases e:k'=k
   ·subst e;rw [upd_same,upd_same,if_pos rfl];exact ho.keeps dH rZ hmx r5
   ·rw [upd_ne _ _ e,upd_ne _ _ e,if_neg fun x=>e x.symm];have:(S.ws i).role k'=.out:=by rw [hw];simp only [Ws.role,Kind.role];rw [if_neg fun x=>e x.symm]
    rw [gn this];exact h.mx k' cm
  ·show dw Γ k' w' (upd S.wd k iZ k') (upd S.sm k iN k')
   by_cases e:k'=k
   ·subst e;rw [upd_same,upd_same];exact hla
   ·rw [upd_ne _ _ e,upd_ne _ _ e];obtain⟨c,ty,a,b,d⟩:=h.de.lock k' cm;exact⟨c,ty,(hol.block _ fun x=>e (bQ.inj k' k cm hk x)).trans a,b,d⟩
  ·obtain⟨z,st,sm,x1,x2⟩:=nj h.de (ws':=upd (dh b S.ws) i (Ws.walk P T ρ)) (Cn:=S.ms) rfl (fun j _=>(anO j).1) (fun j _=>(anO j).2);exact⟨z,st,sm,aEC.trans x1,x2⟩
 have ax7:∀b:Bool,sumTo J.N (fun j=>(upd (dh b S.ws) i (Ws.walk P T ρ) j).E)+(EC*e.n+4*p.worth)=sumTo J.N (fun j=>(S.ws j).E)+P.E:=fun b=>by
  have:=sumTo_upd (dh b S.ws) (Ws.walk P T ρ) Ws.E rZ;rw [FX,hw,sumTo_congr (g:=fun j=>(S.ws j).E) fun j _=>FX b S.ws j]at this;exact this
 have a38:sumTo Γ.ns (upd S.sm k iN)+S.sm k=sumTo Γ.ns S.sm+iN:=sumTo_upd S.sm iN id hk;rcases hP4 with gj|⟨hwd,hsm,hE,hrk⟩
 ·refine main true (.inl rfl) _ rfl (Fb ?_);have:=ax7 true;show L1 Γ J _<L1 Γ J S
  simp only [L1];omega
 ·refine main false (.inr ⟨hwd,rfl⟩) _ rfl (aPz ?_ ?_)
  ·have:=ax7 false;show L1 Γ J _<=L1 Γ J S
   simp only [L1];omega
  ·have e0:dh false S.ws=S.ws:=rfl;have e1:upd S.wd k iZ=S.wd:=by rw [hwd];exact gn rfl
   have:=fa S i (.walk P T ρ) (Ws.rk S.wd) rZ;have e2:(S.ws i).rk S.wd=p.ot (S.wd k):=by rw [hw];rfl
   have hv:ln.v {S with ws:=upd S.ws i (.walk P T ρ),wd:=S.wd,sm:=upd S.sm k iN}=S.v:=je (by rw [hw];rfl)
   show L2 J _<L2 J S
   rw [e0,e1];simp only [L2,hv];omega
end
theorem oJ{V W:View}{a:Touch}(h:bD (V.join W) a):bD V a\/bD W a:=by
 revert h;unfold bD;cases a.loc with
 |cell ad=>
  intro h;rcases h with (h|h)|(h|h)|⟨h|h,x⟩
  ·exact .inl (.inl h)
  ·exact .inr (.inl h)
  ·exact .inl (.inr (.inl h))
  ·exact .inr (.inr (.inl h))
  ·exact .inl (.inr (.inr ⟨h,x⟩))
  ·exact .inr (.inr (.inr ⟨h,x⟩))
 |obj r=>exact id
 |_=>exact .inl
theorem iS{V W:View}{a:Touch}(h:V.Le W)(hc:bD V a):bD W a:=by
 revert hc;unfold bD;cases a.loc with
 |cell ad=>
  intro hc;rcases hc with x|x|⟨x,y⟩
  ·exact .inl (h.own _ x)
  ·exact(h.wc _ x).elim (fun z=>.inr (.inl z)) .inl
  ·rcases h.ro _ x with z|z|z
   ·exact .inr (.inr ⟨z,y⟩)
   ·exact .inr (.inl z)
   ·exact .inl z
 |obj r=>exact h.own _
 |_=>exact id
theorem oK{a:Touch}:¬bD View.bare a:=by
 unfold bD;cases a.loc with
 |cell ad=>rintro(h|h|⟨h,_⟩)<;>exact h
 |obj r=>exact id
 |_=>exact id
theorem mh(vw:Ag->View){A B C:Ag}(V W:View)(h1:C≠A)(h2:C≠B):bx (bx vw A V) B W C=vw C:=by rw [bq _ _ h2,bq _ _ h1]
section
variable {J:cP} {w:World} {g:Goroutine} {sl:Option (Nat×Nat)}
theorem Cq(h:Inv Γ J Fin base Shun S gs w t)(hi:i<S.m){k j:Nat}(hk:k<Γ.ns)(hr:(S.ws i).role k=.hold)(hj:j<S.m)(eD:(S.ws j).inside k):i=j:=by
 have hm:=h.mx k hk;have hN:=h.kq;cases hwd:S.wd k with
 |mk L W Sx n=>
  rw [hwd]at hm;exact amT (mr:=fun j=>(S.ws j).role k) (by omega:i<J.N) (by omega:j<J.N) hm hr (Ws.Ou eD)
theorem mi(fn:FuncId)(pos:String)(I:Nat)(m:Mark):MemOp.ofEvents I fn pos #[⟨.mark m,false,true⟩]=#[{g:=I,fn,pos,act:=.mark m}]:=by rw [ofEvents_eq];simp [MemAct.ofEvent]
theorem anP(bQ:dK Γ J)(h:Inv Γ J Fin base Shun S gs w t)(hi:i<S.m)(hg:gs[base+i]? =some g){e:En}{f:Fz}{k:Nat}(hw:S.ws i=.stop ⟨e,f,.acq k⟩):Goal Γ J Fin base Shun S gs w sl t (runT prog (crowd gs w sl) (base+i)):=by
 obtain⟨hd,g0,w0,jf,nf,bF,_⟩:=qX h hi hg hw;obtain⟨_,hV,hk,fb⟩:=jf.law;have rZ:i<J.N:=Nat.lt_of_lt_of_le hi h.kq;have r5:(S.ws i).role k=.hold:=by rw [hw];simp [Ws.role,Kind.role]
 have dZ:=h.pos i hi;rw [hw]at dZ;obtain⟨_,Cp,Oy⟩:=dZ;have jN:Γ.cont k (S.gh k) (S.vw (.lock k)) w/\(S.vw (.lock k)).deaf=0:=by
  rcases h.de.cont k hk with ⟨j,hj,eD⟩|x
  ·have:=Cq h hi hk r5 hj eD;subst this;rw [hw]at eD;exact eD.elim
  ·exact x
 have hWL:Ag.work i≠Ag.lock k:=by simp
 obtain⟨g',hx,sO⟩:=fb w (S.gh k) (S.vw (.lock k)) nf jN.2 (h.gV _ _ hWL) jN.1 fun c hc=>by
  subst hc;have lr:c.k=k:=Oy;refine⟨lr▸Cp.2.2.2.2.2,?_⟩;have:=h.bO.bH i c hi (by rw [hw];rfl)
  rwa [lr]at this
 obtain⟨T,hT⟩:=sO;have rN:=(bF w).trans hx;have oh:Deaf t (base+i)=0:=by rw [←hd,hV]
 have hS:∀C,C≠.work i->C≠.lock k->bx (bx S.vw (.work i) ((S.vw (.work i)).join (S.vw (.lock k)))) (.lock k) View.bare C=S.vw C:=fun C h1 h2=>mh _ _ _ h1 h2;have hSi:bx (bx S.vw (.work i) ((S.vw (.work i)).join (S.vw (.lock k)))) (.lock k) View.bare (.work i)=(S.vw (.work i)).join (S.vw (.lock k)):=by rw [bq _ _ hWL,bm]
 have hSk:bx (bx S.vw (.work i) ((S.vw (.work i)).join (S.vw (.lock k)))) (.lock k) View.bare (.lock k)=View.bare:=bm _ _ _;have yO:∀j,(upd S.ws i (Ws.walk (.rel e f k (S.gh k)) T 0) j).cnt=(S.ws j).cnt:=fun j=>lp Ws.cnt (by rw [hw];rfl) j
 have aEA:∀j,(upd S.ws i (Ws.walk (.rel e f k (S.gh k)) T 0) j).fJ=(S.ws j).fJ:=fun j=>lp Ws.fJ (by rw [hw];rfl) j
 have FC:∀j,(upd S.ws i (Ws.walk (.rel e f k (S.gh k)) T 0) j).fz=(S.ws j).fz:=fun j=>lp Ws.fz (by rw [hw];rfl) j
 have rK:∀j,(upd S.ws i (Ws.walk (.rel e f k (S.gh k)) T 0) j).rel=(S.ws j).rel:=fun j=>lp Ws.rel (by rw [hw];rfl) j
 refine h.goal (S':={S with ws:=upd S.ws i (.walk (.rel e f k (S.gh k)) T 0),vw:=bx (bx S.vw (.work i) ((S.vw (.work i)).join (S.vw (.lock k)))) (.lock k) View.bare}) bQ hi hg rN ?_ fun fx _=>?_
 ·refine⟨rfl,.inl rfl,rfl,fun j hj=>.inl (upd_ne S.ws _ hj),hS .main (by simp) (by simp),fun j hj=>hS (.work j) (by simp [hj]) (by simp),fun j _=>hS (.mc j) (by simp) (by simp),Rest.eQ S w _ g g',?_,fun j hj=>?_,fun y T' ρ e'=>?_,h.gV.join hWL,fun A=>?_,(hS .sync (by simp) (by simp)).trans h.sync,fun b hb=>?_,fun k' cm=>?_,h.bO.fz rfl rfl (fun j _=>FC j) (fun j=>hS (.keep j) (by simp) (by simp)),?_,?_⟩
  ·show dP _ _ (bx (bx S.vw _ _) _ _ (.work i)) _ _ _ _ (upd S.ws i _ i)
   rw [hSi,upd_same,Deaf_own];exact⟨hd,hT⟩
  ·show ju _ _ _ _ _ (upd S.ws i _ j)
   by_cases e':j=i
   ·subst e';rw [upd_same];exact⟨hk,Cp,Oy,rfl⟩
   ·rw [upd_ne _ _ e'];exact h.pos j hj
  ·show y.rk (sumTo S.m fun j=>(upd S.ws i _ j).cnt)<=ρ
   rw [sumTo_congr (g:=fun j=>(S.ws j).cnt) fun j _=>yO j];exact h.EY y T' ρ e'
  ·show mP (bx (bx S.vw _ _) _ _ A) _
   by_cases e1:A=.work i
   ·subst e1;rw [hSi];exact(h.low _).join (h.low _)
   ·by_cases e2:A=.lock k
    ·subst e2;rw [hSk];exact .bare _
    ·rw [hS A e1 e2];exact h.low A
  ·refine⟨(h.dL b hb).1,fun A hAk=>?_⟩;show ¬(bx (bx S.vw _ _) _ _ A).own b
   by_cases e1:A=.work i
   ·subst e1;rw [hSi];exact fun x=>x.elim ((h.dL b hb).2 _ (by simp)) ((h.dL b hb).2 _ (by simp))
   ·by_cases e2:A=.lock k
    ·subst e2;rw [hSk];exact id
    ·rw [hS A e1 e2];exact(h.dL b hb).2 A hAk
  ·show br J.N (fun j=>(upd S.ws i _ j).role k') _ _
   rw [show(fun j=>(upd S.ws i (Ws.walk (.rel e f k (S.gh k)) T 0) j).role k')=fun j=>(S.ws j).role k' from funext fun j=>lp (Ws.role k') (by rw [hw];rfl) j]
   exact h.mx k' cm
  ·obtain⟨z,st,sm,x⟩:=nj h.de (ws':=upd S.ws i (Ws.walk (.rel e f k (S.gh k)) T 0)) (Cn:=S.ms) rfl (fun j _=>yO j) fun j _=>aEA j;refine⟨h.de.lock,fun k' cm=>?_,h.de.off,fun k' cm c hc=>?_,fun j c hj hf=>h.de.opn j c hj ?_,fun j hj hr=>?_,⟨z,st,sm,x⟩⟩
   ·by_cases e':k'=k
    ·subst e';exact .inl ⟨i,hi,by show(upd S.ws i _ i).inside k';rw [upd_same];rfl⟩
    ·rcases h.de.cont k' cm with ⟨j,hj,eD⟩|y
     ·refine .inl ⟨j,hj,?_⟩;show(upd S.ws i _ j).inside k'
      by_cases e2:j=i
      ·subst e2;rw [hw]at eD;exact eD.elim
      ·rw [upd_ne _ _ e2];exact eD
     ·refine .inr ?_;show Γ.cont k' (S.gh k') (bx (bx S.vw _ _) _ _ (.lock k')) w/\(bx (bx S.vw _ _) _ _ (.lock k')).deaf=0
      rw [hS (.lock k') (by simp) (by simp [e'])];exact y
   ·refine(h.de.yr k' cm c hc).imp (fun⟨x,y⟩=>⟨x,y.imp (fun⟨a,j,b,d⟩=>⟨a,j,b,(FC j).trans d⟩) fun⟨a,j,b,d⟩=>⟨a,j,b,(FC j).trans d⟩⟩) fun⟨x1,x2,x3⟩=>⟨x1,x2,?_⟩;have e1:=hS (.chan c.ch) (by simp) (by simp)
    exact⟨by rw [←e1]at x3;exact x3.1,by rw [←e1]at x3;exact x3.2.1,by rw [←e1]at x3;exact x3.2.2⟩
   ·unfold aT at hf⊢;rw [←FC j];exact hf
   ·have e1:=hS (.mc j) (by simp) (by simp)
    have:=h.de.res j hj (rK j▸hr);rw [←e1]at this;exact this
  ·rw [mi];show yY Γ base Shun (fun j=>(upd S.ws i _ j).rel) _ _ _ _
   rw [show(fun j=>(upd S.ws i (Ws.walk (.rel e f k (S.gh k)) T 0) j).rel)=fun j=>(S.ws j).rel from funext rK]
   refine h.ys.Oo (Nat.le_refl _) (Nat.le_refl _) (fun op aE=>?_) (fun op aE=>?_) (fun op aE a=>?_) (fun B a hc=>?_) (fun j hk=>hk.app _) fun j i' _ hk=>hk.app _
   ·simp at aE;subst aE;rfl
   ·simp at aE;subst aE;exact h.jv (eC Γ k) (.inl ⟨k,hk,rfl,.inl rfl⟩)
   ·simp at aE;subst aE;simp
   ·by_cases e1:B=.work i
    ·subst e1;have hc:bD (bx (bx S.vw _ _) _ _ (.work i)) a:=hc;rw [hSi]at hc;rcases oJ hc with y|y
     ·exact⟨_,y,fun j hk=>hk.app _⟩
     ·refine⟨.lock k,y,fun j cm=>?_⟩;rcases cm with z|z
      ·exact iP.Oq (y:={g:=base+i,fn:=g.frame.fn,pos:=g.frame.place,act:=.mark (.acquire (eC Γ k))}) h.ys.norel rfl oh z
      ·exact(z.2 i hi).app _
    ·by_cases e2:B=.lock k
     ·subst e2;have hc:bD (bx (bx S.vw _ _) _ _ (.lock k)) a:=hc;rw [hSk]at hc;exact(oK hc).elim
     ·have hc:bD (bx (bx S.vw _ _) _ _ B) a:=hc;rw [hS B e1 e2]at hc;exact⟨B,hc,fun j hk=>hk.app _⟩
 ·refine Fb ?_;have:=fa S i (.walk (.rel e f k (S.gh k)) T 0) Ws.E rZ;rw [hw]at this;have e1:(Ws.walk (.rel e f k (S.gh k)) T 0).E=EC*e.n+82:=rfl;have e2:(Ws.stop ⟨e,f,.acq k⟩).E=EC*e.n+83:=rfl;show L1 Γ J _<L1 Γ J S
  simp only [L1];omega
end
section
variable {J:cP} {w:World} {f:Fz}
theorem anQ(hm:Made (Γ.at J i) e k f (S.gh k) fw f')(hs:kn S.gh J i e f):(∀k',∀c∈(S.gh k').bO,c∈(upd S.gh k fw k').bO)/\kn (upd S.gh k fw) J i e f'/\AtK J i k f'/\f'≠.none:=by
 have mono:(∀c∈(S.gh k).bO,c∈fw.bO)->∀k',∀c∈(S.gh k').bO,c∈(upd S.gh k fw k').bO:=fun h k' c hc=>by
  by_cases e:k'=k
  ·subst e;rw [upd_same];exact h c hc
  ·rw [upd_ne _ _ e];exact hc
 obtain⟨s1,s2,s3,s4⟩:=hs;generalize U6:S.gh k=γ at hm mono;cases hm with
 |@found _ c h hk FT dS=>
  have m:=mono fun c hc=>hc;exact⟨m,⟨s1,s2,gS m s3,dS,hk.trans FT,by rw [hk,upd_same];exact h⟩,hk,by simp⟩
 |@fresh _ c h hk FT dS=>
  have m:=mono fun d hd=>List.mem_cons_of_mem _ hd;exact⟨m,⟨s1,s2,gS m s3,dS,hk.trans FT,by rw [hk,upd_same];exact List.mem_cons_self ..⟩,hk,by simp⟩
 |@done _ c hk=>
  have m:=mono fun c hc=>hc;exact⟨m,⟨s1,s2,gS m s3,s4.1,s4.2.1,m _ _ s4.2.2⟩,hk,by simp⟩
theorem anR(bQ:dK Γ J)(h:Inv Γ J Fin base Shun S gs w t)(hi:i<S.m)(hk:k<Γ.ns)(hm:Made (Γ.at J i) e k f (S.gh k) fw f')(hs:kn S.gh J i e f)(Cr:(S.ws i).fz=f)
  (Hq:∀c,f'=.bH c->∀b,Fa Γ S.gh b->c.ch≠b)(NL:S'.m=S.m)(hgh:S'.gh=upd S.gh k fw)(hw':∀j,j≠i->(S'.ws j).fz=(S.ws j).fz)(hwi:(S'.ws i).fz=f')(anS:∀j c,j<S'.m->aT (S'.ws j) c->(S'.vw (.keep j)).own c.ch):tV Γ J S':=by
 have rZ:i<J.N:=Nat.lt_of_lt_of_le hi h.kq;have T:=h.bO;have ff:∀j c,j≠i->(aT (S'.ws j) c↔aT (S.ws j) c):=fun j c hj=>by unfold aT;rw [hw' j hj]
 generalize U6:S.gh k=γ at hm;cases hm with
 |@found _ c hc lr FT dS=>
  have e0:S'.gh=S.gh:=by rw [hgh,←U6];exact gn rfl
  have fi:∀d,¬aT (S'.ws i) d:=fun d=>by unfold aT;rw [hwi];simp
  refine⟨by rw [e0];exact T.k,by rw [e0];exact T.no,by rw [e0];exact T.ch,by rw [e0];exact T.off,by rw [e0];exact T.done,by rw [e0];exact T.item,fun j j' d a b x y=>?_,fun j d a x=>?_,fun j d a x=>?_,anS⟩
  ·by_cases e1:j=i
   ·subst e1;exact(fi d x).elim
   by_cases e2:j'=i
   ·subst e2;exact(fi d y).elim
   exact T.one j j' d (NL▸a) (NL▸b) ((ff j d e1).1 x) ((ff j' d e2).1 y)
  ·by_cases e1:j=i
   ·subst e1;exact(fi d (.inl x)).elim
   ·rw [e0];exact T.bH j d (NL▸a) (hw' j e1▸x)
  ·by_cases e1:j=i
   ·subst e1;exact(fi d (.inr x)).elim
   ·rw [e0];exact T.stored j d (NL▸a) (hw' j e1▸x)
 |@fresh _ c ax8 lr FT dS=>
  subst U6;have gk:S'.gh k=⟨c::(S.gh k).bO,(S.gh k).done⟩:=by rw [hgh,upd_same]
  have go:∀k',k'≠k->S'.gh k'=S.gh k':=fun k' e=>by rw [hgh,upd_ne _ _ e]
  have Hr:∀k',k'<Γ.ns->∀d∈(S'.gh k').bO,(k'=k/\d=c)\/d∈(S.gh k').bO:=fun k' _ d hd=>by
   by_cases e1:k'=k
   ·subst e1;rw [gk]at hd;rcases List.mem_cons.1 hd with x|x
    ·exact .inl ⟨rfl,x⟩
    ·exact .inr x
   ·rw [go k' e1]at hd;exact .inr hd
  have dn:∀k',(S'.gh k').done=(S.gh k').done:=fun k'=>by
   by_cases e1:k'=k
   ·subst e1;rw [gk]
   ·rw [go k' e1]
  have Hm:∀k',k'<Γ.ns->∀d∈(S.gh k').bO,c.ch≠d.ch:=fun k' cm d hd=>Hq c rfl _ (.inr ⟨k',cm,d,hd,rfl⟩);have cnd:c.no∉(S.gh k).done:=fun x=>by obtain⟨d,hd,e1⟩:=T.done k hk _ x;exact ax8 d hd e1
  have fi:∀d,aT (S'.ws i) d↔d=c:=fun d=>by unfold aT;rw [hwi];simp [eq_comm]
  have nof:∀j,j<S.m->¬aT (S.ws j) c:=fun j hj x=>by
   obtain⟨a,b⟩:=VF (h.pos j hj) (.inr x);rw [lr]at a;exact ax8 c a rfl
  refine⟨fun k' cm d hd=>?_,fun k' cm d hd d' aV en=>?_,fun k1 h1 k2 h2 d hd d' aV en=>?_,fun k' cm d hd=>?_,fun k' cm x hx=>?_,fun k' cm d hd=>?_,fun j j' d a b x y=>?_,fun j d a x=>?_,fun j d a x=>?_,anS⟩
  ·rcases Hr k' cm d hd with ⟨rfl,rfl⟩|x
   ·exact lr
   ·exact T.k k' cm d x
  ·rcases Hr k' cm d hd with ⟨rfl,rfl⟩|x
   ·rcases Hr k' cm d' aV with ⟨_,rfl⟩|x'
    ·rfl
    ·exact absurd en.symm (ax8 d' x')
   ·rcases Hr k' cm d' aV with ⟨rfl,rfl⟩|x'
    ·exact absurd en (ax8 d x)
    ·exact T.no k' cm d x d' x' en
  ·rcases Hr k1 h1 d hd with ⟨rfl,rfl⟩|x
   ·rcases Hr k2 h2 d' aV with ⟨_,rfl⟩|x'
    ·rfl
    ·exact absurd en (Hm k2 h2 d' x')
   ·rcases Hr k2 h2 d' aV with ⟨rfl,rfl⟩|x'
    ·exact absurd en.symm (Hm k1 h1 d x)
    ·exact T.ch k1 h1 k2 h2 d x d' x' en
  ·rcases Hr k' cm d hd with ⟨rfl,rfl⟩|x
   ·exact Hq d rfl _ (.inl rfl)
   ·exact T.off k' cm d x
  ·rw [dn]at hx;obtain⟨d,hd,e1⟩:=T.done k' cm x hx;refine⟨d,?_,e1⟩;by_cases e2:k'=k
   ·subst e2;rw [gk];exact List.mem_cons_of_mem _ hd
   ·rw [go k' e2];exact hd
  ·rcases Hr k' cm d hd with ⟨rfl,rfl⟩|x
   ·exact⟨i,rZ,FT.symm,e.s,hs.1,hs.2.1,dS⟩
   ·exact T.item k' cm d x
  ·by_cases e1:j=i
   ·subst e1;have:=(fi d).1 x;subst this;by_cases e2:j'=j
    ·exact e2.symm
    ·exact absurd ((ff j' d e2).1 y) (nof j' (NL▸b))
   ·by_cases e2:j'=i
    ·subst e2;have:=(fi d).1 y;subst this;exact absurd ((ff j d e1).1 x) (nof j (NL▸a))
    ·exact T.one j j' d (NL▸a) (NL▸b) ((ff j d e1).1 x) ((ff j' d e2).1 y)
  ·rw [dn];by_cases e1:j=i
   ·subst e1;have:=(fi d).1 (.inl x);subst this;rw [lr];exact cnd
   ·exact T.bH j d (NL▸a) (hw' j e1▸x)
  ·rw [dn];by_cases e1:j=i
   ·subst e1;rw [hwi]at x;cases x
   ·exact T.stored j d (NL▸a) (hw' j e1▸x)
 |@done _ c lr=>
  subst U6;have gk:S'.gh k=⟨(S.gh k).bO,c.no::(S.gh k).done⟩:=by rw [hgh,upd_same]
  have go:∀k',k'≠k->S'.gh k'=S.gh k':=fun k' e=>by rw [hgh,upd_ne _ _ e]
  have tb:∀k',(S'.gh k').bO=(S.gh k').bO:=fun k'=>by
   by_cases e1:k'=k
   ·subst e1;rw [gk]
   ·rw [go k' e1]
  have hc:c∈(S.gh k).bO:=by have:=hs.2.2.2.2.2;rwa [lr]at this
  have fi:∀d,aT (S'.ws i) d↔d=c:=fun d=>by unfold aT;rw [hwi];simp [eq_comm]
  have fo:aT (S.ws i) c:=.inl Cr;refine⟨by simp only [tb];exact T.k,by simp only [tb];exact T.no,by simp only [tb];exact T.ch,by simp only [tb];exact T.off,fun k' cm x hx=>?_,by simp only [tb];exact T.item,fun j j' d a b x y=>?_,fun j d a x=>?_,fun j d a x=>?_,anS⟩
  ·rw [tb];by_cases e1:k'=k
   ·subst e1;rw [gk]at hx;rcases List.mem_cons.1 hx with rfl|hx
    ·exact⟨c,hc,rfl⟩
    ·exact T.done k' cm x hx
   ·rw [go k' e1]at hx;exact T.done k' cm x hx
  ·have old:∀j,j<S'.m->aT (S'.ws j) d->aT (S.ws j) d:=fun j _ x=>by
    by_cases e1:j=i
    ·subst e1;rw [(fi d).1 x];exact fo
    ·exact(ff j d e1).1 x
   exact T.one j j' d (NL▸a) (NL▸b) (old j a x) (old j' b y)
  ·by_cases e1:j=i
   ·subst e1;rw [hwi]at x;cases x
   ·have hx:(S.ws j).fz=.bH d:=hw' j e1▸x;have hn:=T.bH j d (NL▸a) hx;by_cases e2:d.k=k
    ·rw [e2]at hn⊢;rw [gk];intro y;rcases List.mem_cons.1 y with y|y
     ·obtain⟨a1,_⟩:=VF (h.pos j (NL▸a)) (.inr (.inl hx));rw [e2]at a1;have:=T.no k hk d a1 c hc y;subst this;exact e1 (T.one j i d (NL▸a) hi (.inl hx) fo)
     ·exact hn y
    ·rw [go _ e2];exact hn
  ·by_cases e1:j=i
   ·subst e1;have:=(fi d).1 (.inr x);subst this;rw [lr,gk];exact List.mem_cons_self ..
   ·have hn:=T.stored j d (NL▸a) (hw' j e1▸x);by_cases e2:d.k=k
    ·rw [e2]at hn⊢;rw [gk];exact List.mem_cons_of_mem _ hn
    ·rw [go _ e2];exact hn
end
section
variable {J:cP} {w:World} {g:Goroutine} {sl:Option (Nat×Nat)} {f:Fz} {γ:Gh}
theorem VT(h:Inv Γ J Fin base Shun S gs w t)(hm:∀k',∀c∈(S.gh k').bO,c∈(upd S.gh k fw k').bO){j:Nat}(hj:j<S.m)(eD:¬(S.ws j).inside k):ju Γ J (upd S.gh k fw) S.wd j (S.ws j):=by
 have hp:=h.pos j hj;cases hs:S.ws j with
 |walk p T ρ=>
  rw [hs]at hp eD;cases p with
  |lk e f k r q=>exact⟨hp.1,fK hm hp.2.1,hp.2.2⟩
  |acq e f k=>exact⟨hp.1,fK hm hp.2.1,hp.2.2⟩
  |rel e f k' γk=>exact⟨hp.1,fK hm hp.2.1,hp.2.2.1,by rw [upd_ne _ _ (fun x=>eD x)];exact hp.2.2.2⟩
  |oa e f=>
   cases f with
   |none=>exact⟨hp.1,hp.2.1,gS hm hp.2.2⟩
   |found c=>exact fK (f:=.found c) (e:=e) hm hp
   |bH c=>exact fK (f:=.bH c) (e:=e) hm hp
   |stored c=>exact fK (f:=.stored c) (e:=e) hm hp
 |stop tg=>
  rw [hs]at hp eD;obtain⟨e,f,kd⟩:=tg;cases kd with
  |lk k p=>exact⟨hp.1,fK hm hp.2.1,hp.2.2⟩
  |acq k=>exact⟨hp.1,fK hm hp.2.1,hp.2.2⟩
  |rel k' γk γ2 f2=>exact⟨hp.1,fK hm hp.2.1,hp.2.2.1,by rw [upd_ne _ _ (fun x=>eD x)];exact hp.2.2.2⟩
  |close=>exact fK hm hp
  |recv=>exact fK hm hp
  |E8=>exact⟨hp.1,gS hm hp.2.1,hp.2.2⟩
 |done a b=>rw [hs]at hp;exact gS hm hp
 |quit q=>rw [hs]at hp;exact gS hm hp
theorem anT(bQ:dK Γ J)(h:Inv Γ J Fin base Shun S gs w t)(hi:i<S.m)(hg:gs[base+i]? =some g)(hw:S.ws i=.stop ⟨e,f,.rel k γ fw f'⟩):Goal Γ J Fin base Shun S gs w sl t (runT prog (crowd gs w sl) (base+i)):=by
 obtain⟨hd,g0,w0,jf,nf,bF,_⟩:=qX h hi hg hw;obtain⟨_,hV,hk,r8,fb⟩:=jf.law;have rZ:i<J.N:=Nat.lt_of_lt_of_le hi h.kq;have dZ:=h.pos i hi;rw [hw]at dZ;obtain⟨_,Cp,Oy,rfl⟩:=dZ;have r5:(S.ws i).role k=.hold:=by rw [hw];simp [Ws.role,Kind.role]
 obtain⟨V',VK,g',y7,hVK,VB,jN,U7,hx,sO⟩:=fb w nf;obtain⟨T,hT⟩:=sO;have rN:=(bF w).trans hx;have oh:Deaf t (base+i)=0:=by rw [←hd,hV]
 obtain⟨aPM,aPN,aPO,qY⟩:=anQ r8 Cp;have hWL:Ag.work i≠Ag.lock k:=by simp
 have Cr:(S.ws i).fz=f:=by rw [hw];rfl
 have Hq:∀c,f'=.bH c->∀b,Fa Γ S.gh b->c.ch≠b:=fun c hc b hb x=>(h.dL b hb).2 (.work i) (by simp) (x▸(U7 c hc).1)
 have anG:∀j,j<S.m->j≠i->¬(S.ws j).inside k:=fun j hj cM eD=>cM (Cq h hi hk r5 hj eD).symm;obtain⟨S',eE⟩:∃S':ln,S'={S with ws:=upd S.ws i (.walk (.lk e f' k .hold fun p=>p=.add) T 57),vw:=bx (bx (bx S.vw (.work i) V') (.lock k) VK) (.keep i) (FN (S.vw (.keep i)) f'),gh:=upd S.gh k fw}:=⟨_,rfl⟩
 have em:S'.m=S.m:=by rw [eE]
 have yP:S'.ms=S.ms:=by rw [eE]
 have eq:S'.q=S.q:=by rw [eE]
 have iE:S'.gh=upd S.gh k fw:=by rw [eE]
 have Hs:S'.wd=S.wd:=by rw [eE]
 have y8:S'.sm=S.sm:=by rw [eE]
 have nT:∀j,j≠i->S'.ws j=S.ws j:=fun j hj=>by rw [eE];exact upd_ne _ _ hj
 have rO:S'.ws i=.walk (.lk e f' k .hold fun p=>p=.add) T 57:=by rw [eE];exact upd_same _ _ _
 have y9:S'.vw (.work i)=V':=by rw [eE];exact(bq (A:=.keep i) (B:=.work i) (bx (bx S.vw (.work i) V') (.lock k) VK) (FN (S.vw (.keep i)) f') (by simp)).trans ((bq (bx S.vw (.work i) V') VK hWL).trans (bm _ _ _))
 have Ct:S'.vw (.lock k)=VK:=by rw [eE];exact(bq (A:=.keep i) (B:=.lock k) (bx (bx S.vw (.work i) V') (.lock k) VK) (FN (S.vw (.keep i)) f') (by simp)).trans (bm _ _ _)
 have evq:S'.vw (.keep i)=FN (S.vw (.keep i)) f':=by rw [eE];exact bm _ _ _
 have ij:∀A,A≠.work i->A≠.lock k->A≠.keep i->S'.vw A=S.vw A:=fun A h1 h2 h3=>by rw [eE];exact(bq (bx (bx S.vw (.work i) V') (.lock k) VK) (FN (S.vw (.keep i)) f') h3).trans (mh _ _ _ h1 h2)
 have ub:gu S'.vw:=by
  rw [eE];have d1:=h.gV.split hWL y7 hVK VB;refine gu.upd d1 fun A hA=>?_;have e1:Apart (S.vw (.keep i)) (bx (bx S.vw (.work i) V') (.lock k) VK A):=by
   have:=d1 (.keep i) A fun e=>hA e.symm;rwa [show bx (bx S.vw (.work i) V') (.lock k) VK (.keep i)=S.vw (.keep i)from mh _ _ _ (by simp) (by simp)]at this
  refine e1.keep fun c hc=>?_;obtain⟨a1,a2,a3,_,_,a4⟩:=U7 c hc;by_cases x1:A=.lock k
  ·subst x1;rw [bm];exact⟨a3,fun a ha=>a4 a (by rcases ha with ha|ha<;>simp [ha])⟩
  ·rw [bq _ _ x1];by_cases x2:A=.work i
   ·subst x2;rw [bm];exact⟨a2,fun a ha=>a4 a (by rcases ha with ha|ha<;>simp [ha])⟩
   ·rw [bq _ _ x2];have hh:=h.gV (.work i) A fun e=>x2 e.symm;exact⟨hh.own _ a1,fun a ha e=>by
     rcases ha with ha|ha
     ·exact hh.ro' a ha (e▸a1)
     ·exact(hh.mX a ha).2.2 (e▸a1)⟩
 have gx:∀j,(S'.ws j).cnt=(S.ws j).cnt/\(S'.ws j).fJ=(S.ws j).fJ/\(S'.ws j).rel=(S.ws j).rel/\∀k',(S'.ws j).role k'=(S.ws j).role k':=fun j=>by
  by_cases x:j=i
  ·subst x;rw [rO,hw];exact⟨rfl,rfl,rfl,fun _=>rfl⟩
  ·rw [nT j x];exact⟨rfl,rfl,rfl,fun _=>rfl⟩
 have efz:(S'.ws i).fz=f':=by rw [rO];rfl
 clear eE;have hkp:∀j c,j<S'.m->aT (S'.ws j) c->(S'.vw (.keep j)).own c.ch:=fun j c hj hc=>by
  by_cases x:j=i
  ·subst x;rw [evq];unfold aT at hc;rw [efz]at hc;rcases hc with hc|hc
   ·exact .inr ⟨c,hc,rfl⟩
   ·refine .inl (h.bO.keep j c (em▸hj) (.inl ?_));rw [Cr];generalize S.gh k=γ0 at r8;cases r8 with
    |done _=>cases hc;rfl
    |_=>cases hc
  ·rw [ij (.keep j) (by simp) (by simp) (by simp [x])]
   rw [nT j x]at hc;exact h.bO.keep j c (em▸hj) hc
 have Cu:VJ Γ J base Shun S S' i g g' w w t (MemOp.ofEvents (base+i) g.frame.fn g.frame.place #[⟨.mark (.releaseMerge (eC Γ k)),false,true⟩]):=by
  refine⟨em,.inl yP,eq,fun j hj=>.inl (nT j hj),ij .main (by simp) (by simp) (by simp),fun j hj=>ij (.work j) (by simp [hj]) (by simp) (by simp),fun j _=>ij (.mc j) (by simp) (by simp) (by simp),by rw [y8];exact Rest.eQ S w _ g g',?_,fun j hj=>?_,fun y T' ρ e'=>?_,ub,fun A=>?_,(ij .sync (by simp) (by simp) (by simp)).trans h.sync,fun b hb=>?_,fun k' cm=>?_,anR bQ h hi hk r8 Cp Cr Hq em iE (fun j hj=>by rw [nT j hj]) efz hkp,?_,?_⟩
  ·rw [y9,rO,Deaf_own];exact⟨(y7.deaf).trans hd,Local.mono (fun V g w ⟨tg,x,y⟩=>⟨tg,⟨.add,rfl,x⟩,y⟩) hT⟩
  ·rw [iE,Hs];by_cases x:j=i
   ·subst x;rw [rO];exact⟨hk,aPN,aPO,by simp,fun p hp=>by subst hp;exact⟨trivial,rfl,Nat.le_trans (LP.G5 _ _) (Nat.le_refl _),fun _=>qY⟩⟩
   ·rw [nT j x];exact VT h aPM hj (anG j hj x)
  ·rw [sumTo_congr (g:=fun j=>(S.ws j).cnt) fun j _=>(gx j).1];exact h.EY y T' ρ (yP▸e')
  ·by_cases e1:A=.work i
   ·subst e1;rw [y9];exact(h.low _).le y7
   ·by_cases e2:A=.lock k
    ·subst e2;rw [Ct];exact(h.low _).le hVK
    ·by_cases e3:A=.keep i
     ·subst e3;rw [evq];exact⟨fun b hb=>hb.elim ((h.low _).own b) fun⟨c,hc,e⟩=>by subst e;exact(h.low (.work i)).own _ (U7 c hc).1,(h.low _).wc,(h.low _).ro⟩
     ·rw [ij A e1 e2 e3];exact h.low A
  ·have FL:Fa Γ S.gh b\/∃c,f'=.bH c/\c.ch=b:=by
    rcases hb with rfl|⟨k',cm,c,hc,rfl⟩
    ·exact .inl (.inl rfl)
    ·rw [iE]at hc;by_cases e1:k'=k
     ·subst e1;rw [upd_same]at hc;generalize U6:S.gh k'=γ0 at r8;cases r8 with
      |found _ _ _ _=>exact .inl (.inr ⟨k',cm,c,U6▸hc,rfl⟩)
      |fresh _ _ _ _=>
       rcases List.mem_cons.1 hc with x|x
       ·subst x;exact .inr ⟨_,rfl,rfl⟩
       ·exact .inl (.inr ⟨k',cm,c,U6▸x,rfl⟩)
      |done _=>exact .inl (.inr ⟨k',cm,c,U6▸hc,rfl⟩)
     ·rw [upd_ne _ _ e1]at hc;exact .inl (.inr ⟨k',cm,c,hc,rfl⟩)
   rcases FL with FL|⟨c,hc,rfl⟩
   ·refine⟨(h.dL b FL).1,fun A hAk=>?_⟩;by_cases e1:A=.work i
    ·subst e1;rw [y9];exact fun x=>(h.dL b FL).2 _ (by simp) (y7.own _ x)
    ·by_cases e2:A=.lock k
     ·subst e2;rw [Ct];exact fun x=>(h.dL b FL).2 (.work i) (by simp) (hVK.own _ x)
     ·rw [ij A e1 e2 (hAk i)];exact(h.dL b FL).2 A hAk
   ·obtain⟨a1,a2,a3,_⟩:=U7 c hc;refine⟨(h.low _).own _ a1,fun A hAk=>?_⟩;by_cases e1:A=.work i
    ·subst e1;rw [y9];exact a2
    ·by_cases e2:A=.lock k
     ·subst e2;rw [Ct];exact a3
     ·rw [ij A e1 e2 (hAk i)];exact fun x=>(h.gV (.work i) A fun y=>e1 y.symm).own _ a1 x
  ·rw [Hs,y8,show(fun j=>(S'.ws j).role k')=fun j=>(S.ws j).role k' from funext fun j=>(gx j).2.2.2 k'];exact h.mx k' cm
  ·obtain⟨z,st,sm,x1,x2⟩:=nj h.de (ws':=S'.ws) (Cn:=S'.ms) (by rw [yP]) (fun j _=>(gx j).1) fun j _=>(gx j).2.1
   have oth:∀j c,j<S.m->j≠i->((S'.ws j).fz=.bH c↔(S.ws j).fz=.bH c)/\((S'.ws j).fz=.stored c↔(S.ws j).fz=.stored c):=fun j c _ hj=>by rw [nT j hj];exact⟨.rfl,.rfl⟩
   refine⟨by rw [Hs,y8];exact h.de.lock,fun k' cm=>?_,h.de.off,fun k' cm c hc=>?_,fun j c hj hf=>?_,fun j hj hr=>?_,by rw [em];exact⟨z,st,sm,x1,x2⟩⟩
   ·rw [iE,em];by_cases e1:k'=k
    ·subst e1;rw [upd_same,Ct];exact .inr ⟨jN,hVK.deaf.trans hV⟩
    ·rw [upd_ne _ _ e1,ij (.lock k') (by simp) (by simp [e1]) (by simp)]
     rcases h.de.cont k' cm with ⟨j,hj,eD⟩|y
     ·refine .inl ⟨j,hj,?_⟩;by_cases e2:j=i
      ·subst e2;rw [hw]at eD;exact absurd eD.symm e1
      ·rw [nT j e2];exact eD
     ·exact .inr y
   ·have keep:∀k'' c,(c.no∉(S.gh k'').done->c.no∉(S'.gh k'').done)->(c.no∈(S.gh k'').done->c.no∈(S'.gh k'').done)->(∀j,j=i->(S.ws j).fz≠.bH c/\(S.ws j).fz≠.stored c)->tU Γ S w k'' c->tU Γ S' w k'' c:=fun k'' c h1 h2 h3 h4=>by
     rcases h4 with ⟨y,z⟩|⟨y1,y2,y3⟩
     ·refine .inl ⟨y,z.imp (fun⟨a,j,b,d⟩=>⟨h1 a,j,em▸b,?_⟩) fun⟨a,j,b,d⟩=>⟨h2 a,j,em▸b,?_⟩⟩
      ·have cM:j≠i:=fun x=>(h3 j x).1 d;exact(oth j c b cM).1.2 d
      ·have cM:j≠i:=fun x=>(h3 j x).2 d;exact(oth j c b cM).2.2 d
     ·exact .inr ⟨h2 y1,y2,by rw [ij (.chan c.ch) (by simp) (by simp) (by simp)];exact y3⟩
    by_cases e1:k'=k
    ·subst e1;rw [iE,upd_same]at hc;have gk:S'.gh k'=fw:=by rw [iE,upd_same]
     have ax9:=h.de.yr k' cm;have aPP:=h.bO.one;have dS:=h.bO.no k' cm;have aya:=h.de.opn;generalize U6:S.gh k'=γ0 at r8 ax9 dS;cases r8 with
     |@found _ d aV lr _ _=>
      have e0:S'.gh k'=S.gh k':=by rw [gk,U6]
      exact keep k' c (by rw [e0];exact id) (by rw [e0];exact id) (fun j x=>by subst x;rw [Cr];simp) (ax9 c hc)
     |@fresh _ d aV lr _ _=>
      rcases List.mem_cons.1 hc with x|x
      ·subst x;obtain⟨_,_,_,aE,_⟩:=U7 c rfl;have hcn:c.no∉(S'.gh k').done:=by
        rw [gk];intro y;have y':c.no∈(S.gh k').done:=by rw [U6];exact y
        obtain⟨d,hdd,e2⟩:=h.bO.done k' cm _ y';rw [U6]at hdd;exact aV d hdd e2
       exact .inl ⟨aE,.inl ⟨hcn,i,em▸hi,efz⟩⟩
      ·have e0:(S'.gh k').done=(S.gh k').done:=by rw [gk,U6]
       exact keep k' c (by rw [e0];exact id) (by rw [e0];exact id) (fun j x=>by subst x;rw [Cr];simp) (ax9 c x)
     |@done _ d lr=>
      have dt:d∈γ0.bO:=by have:=Cp.2.2.2.2.2;rw [lr,U6]at this;exact this
      have gd:(S'.gh k').done=d.no::(S.gh k').done:=by rw [gk,U6]
      by_cases e2:c=d
      ·subst e2;exact .inl ⟨aya i c hi (.inl Cr),.inr ⟨by rw [gd];exact List.mem_cons_self ..,i,em▸hi,efz⟩⟩
      ·refine keep k' c (fun a b=>?_) (fun a=>by rw [gd];exact List.mem_cons_of_mem _ a) (fun j x=>?_) (ax9 c hc)
       ·rw [gd]at b;rcases List.mem_cons.1 b with b|b
        ·exact e2 (dS c hc d dt b)
        ·exact a b
       ·subst x;rw [Cr];exact⟨fun y=>e2 (by cases y;rfl),by simp⟩
    ·have e0:S'.gh k'=S.gh k':=by rw [iE,upd_ne _ _ e1]
     rw [e0]at hc;refine keep k' c (by rw [e0];exact id) (by rw [e0];exact id) (fun j x=>?_) (h.de.yr k' cm c hc)
     subst x;have lr:c.k=k':=h.bO.k k' cm c hc;rw [Cr];refine⟨fun y=>?_,fun y=>?_⟩<;>subst y<;>exact e1 (lr.symm.trans Oy)
   ·by_cases e2:j=i
    ·subst e2;unfold aT at hf;rw [efz]at hf;generalize U6:S.gh k=γ0 at r8;cases r8 with
     |found _ _ _ _=>rcases hf with hf|hf<;>cases hf
     |fresh _ _ _ _=>
      rcases hf with hf|hf
      ·cases hf;exact(U7 c rfl).2.2.2.1
      ·cases hf
     |done _=>
      rcases hf with hf|hf
      ·cases hf
      ·cases hf;exact h.de.opn j c hi (.inl Cr)
    ·unfold aT at hf;rw [nT j e2]at hf;exact h.de.opn j c (em▸hj) hf
   ·rw [ij (.mc j) (by simp) (by simp) (by simp)];exact h.de.res j (em▸hj) ((gx j).2.2.1▸hr)
  ·rw [mi,show(fun j=>(S'.ws j).rel)=fun j=>(S.ws j).rel from funext fun j=>(gx j).2.2.1]
   refine h.ys.Oo (Nat.le_refl _) (Nat.le_refl _) (fun op aE=>?_) (fun op aE=>?_) (fun op aE a=>?_) (fun B a hc=>?_) (fun j hk=>hk.app _) fun j i' _ hk=>hk.app _
   ·simp at aE;subst aE;rfl
   ·simp at aE;subst aE;exact h.jv (eC Γ k) (.inl ⟨k,hk,rfl,.inl rfl⟩)
   ·simp at aE;subst aE;simp
   ·by_cases e1:B=.work i
    ·subst e1;rw [y9]at hc;exact⟨.work i,iS y7 hc,fun j hk=>hk.app _⟩
    ·by_cases e2:B=.lock k
     ·subst e2;rw [Ct]at hc;exact⟨.work i,iS hVK hc,fun j cm=>.inl (iP.new (y:={g:=base+i,fn:=g.frame.fn,pos:=g.frame.place,act:=.mark (.releaseMerge (eC Γ k))}) rfl oh cm)⟩
     ·by_cases e3:B=.keep i
      ·subst e3;rw [evq]at hc;unfold bD at hc;have:bD (S.vw (.keep i)) a\/∃c,f'=.bH c/\bD (S.vw (.work i)) a:=by
        unfold bD;cases hl:a.loc with
        |cell ad=>
         rw [hl]at hc;rcases hc with (x|⟨c,BQ,x⟩)|x
         ·exact .inl (.inl x)
         ·exact .inr ⟨c,BQ,.inl (by rw [x];exact(U7 c BQ).1)⟩
         ·exact .inl (.inr x)
        |obj r=>
         rw [hl]at hc;rcases hc with x|⟨c,BQ,x⟩
         ·exact .inl x
         ·exact .inr ⟨c,BQ,by rw [x];exact(U7 c BQ).1⟩
        |_=>rw [hl]at hc;exact hc.elim
       rcases this with x|⟨c,_,x⟩
       ·exact⟨.keep i,x,fun j hk=>hk.app _⟩
       ·exact⟨.work i,x,fun j hk=>Knows.app _ hk⟩
      ·rw [ij B e1 e2 e3]at hc;exact⟨B,hc,fun j hk=>hk.app _⟩
 refine h.goal (S':=S') bQ hi hg rN Cu fun fx _=>Fb ?_;have e0:sumTo J.N (fun j=>(S'.ws j).E)=sumTo J.N fun j=>(upd S.ws i (.walk (.lk e f' k .hold fun p=>p=.add) T 57) j).E:=sumTo_congr fun j _=>by
  by_cases x:j=i
  ·subst x;rw [upd_same,rO]
  ·rw [upd_ne _ _ x,nT j x]
 have:=fa S i (.walk (.lk e f' k .hold fun p=>p=.add) T 57) Ws.E rZ;rw [hw]at this;have e1:(Ws.walk (.lk e f' k .hold fun p=>p=.add) T 57).E=EC*e.n+80:=rfl;have e2:(Ws.stop ⟨e,f,.rel k (S.gh k) fw f'⟩).E=EC*e.n+82:=rfl;show L1 Γ J S'<L1 Γ J S
 simp only [L1,e0,y8,yP];omega
end
section
variable {J:cP} {w:World} {g:Goroutine} {sl:Option (Nat×Nat)} {f:Fz}
theorem ak9(h:Inv Γ J Fin base Shun S gs w t){ch:Nat}(hc:∃s r tm cl,w.heap[ch]? =some (.chan 0 #[] cl s r tm)):(∀k,k<Γ.ns->Γ.src k≠ch)/\Γ.wg≠ch:=by
 obtain⟨s,r,tm,cl,hc⟩:=hc;refine⟨fun k hk x=>?_,fun x=>?_⟩
 ·subst x;obtain⟨c,ty,h1,_⟩:=h.de.lock k hk;rw [h1]at hc;cases hc
 ·subst x;obtain⟨z,st,sm,h1,_⟩:=h.de.wg;rw [h1]at hc;cases hc
theorem VU(bQ:dK Γ J)(h:Inv Γ J Fin base Shun S gs w t)(hi:i<S.m)(hg:gs[base+i]? =some g)(hw:S.ws i=.stop ⟨e,f,.close⟩):Goal Γ J Fin base Shun S gs w sl t (runT prog (crowd gs w sl) (base+i)):=by
 obtain⟨hd,g0,w0,jf,nf,bF,hmw,_⟩:=qX h hi hg hw;obtain⟨_,c,hf,hV,fb⟩:=jf.law;simp only at hf;subst hf;have rZ:i<J.N:=Nat.lt_of_lt_of_le hi h.kq;have dZ:=h.pos i hi;rw [hw]at dZ;have Cr:(S.ws i).fz=.stored c:=by rw [hw];rfl
 have aya:=h.de.opn i c hi (.inr Cr);obtain⟨V',VC,g',w',y7,hVC,dS,hnw,VB,anU,gv,hwk,hx,sO⟩:=fb w nf aya;obtain⟨T,hT⟩:=sO;have hgr:g'.status=.running:=ua ⟨T,hT⟩;have rN:=(bF w).trans hx;obtain⟨s,r,tm,mj⟩:=aya;obtain rfl:=gv s r tm mj;have oh:Deaf t (base+i)=0:=by rw [←hd,hV]
 obtain⟨k,hk,hct,Hm⟩:=h.NK bQ hi (.inr (.inr Cr));have lr:c.k=k:=h.bO.k k hk c hct;obtain⟨n1,n2⟩:=ak9 h ⟨s,r,tm,false,mj⟩;have aU:c.ch<w.heap.size:=(Array.getElem?_eq_some_iff.1 mj).1;have VX:Hg VC:=⟨dS,hnw⟩;have hR:∀A,(∀j,A≠.keep j)->aP (S.vw A) w (w.setChan c.ch 0 #[] true s r tm):=fun A hA=>FO mj ((h.dL _ Hm).2 A hA);have hblk:∀b,b≠c.ch->(w.setChan c.ch 0 #[] true s r tm).heap[b]? =w.heap[b]? :=fun b hb=>by simp [World.setChan,Array.getElem?_setIfInBounds_ne (fun e=>hb e.symm)]
 have aBa:(w.setChan c.ch 0 #[] true s r tm).heap[c.ch]? =some (.chan 0 #[] true s r tm):=by simp [World.setChan,aU]
 have fO:(w.setChan c.ch 0 #[] true s r tm).heap.size=w.heap.size:=by simp [World.setChan]
 have hWC:Ag.work i≠Ag.chan c.ch:=by simp
 obtain⟨S',eE⟩:∃S':ln,S'={S with ws:=upd S.ws i (.walk (.oa e (.found c)) T 0),vw:=bx (bx (bx S.vw (.work i) V') (.chan c.ch) VC) (.work i) (V'.join VC)}:=⟨_,rfl⟩
 have em:S'.m=S.m:=by rw [eE]
 have yP:S'.ms=S.ms:=by rw [eE]
 have eq:S'.q=S.q:=by rw [eE]
 have iE:S'.gh=S.gh:=by rw [eE]
 have Hs:S'.wd=S.wd:=by rw [eE]
 have y8:S'.sm=S.sm:=by rw [eE]
 have nT:∀j,j≠i->S'.ws j=S.ws j:=fun j hj=>by rw [eE];exact upd_ne _ _ hj
 have rO:S'.ws i=.walk (.oa e (.found c)) T 0:=by rw [eE];exact upd_same _ _ _
 have y9:S'.vw (.work i)=V'.join VC:=by rw [eE];exact bm _ _ _
 have Ct:S'.vw (.chan c.ch)=VC:=by rw [eE];exact(bq (bx (bx S.vw (.work i) V') (.chan c.ch) VC) (V'.join VC) (fun x=>hWC x.symm)).trans (bm _ _ _)
 have ij:∀A,A≠.work i->A≠.chan c.ch->S'.vw A=S.vw A:=fun A h1 h2=>by rw [eE];exact(bq (bx (bx S.vw (.work i) V') (.chan c.ch) VC) (V'.join VC) h1).trans (mh _ _ _ h1 h2)
 have ub:gu S'.vw:=by
  have d1:=h.gV.split hWC y7 hVC VB;have e1:bx (bx S.vw (.work i) V') (.chan c.ch) VC (.chan c.ch)=VC:=bm _ _ _;have e2:bx (bx S.vw (.work i) V') (.chan c.ch) VC (.work i)=V':=(bq (bx S.vw (.work i) V') VC hWC).trans (bm _ _ _);have d2:=d1.share hWC (by rw [e1];exact VX)
  rw [e1,e2]at d2;rw [eE];exact d2
 have gx:∀j,(S'.ws j).cnt=(S.ws j).cnt/\(S'.ws j).fJ=(S.ws j).fJ/\(S'.ws j).rel=(S.ws j).rel/\(∀k',(S'.ws j).role k'=(S.ws j).role k')/\∀k',(S.ws j).inside k'↔(S'.ws j).inside k':=fun j=>by
  by_cases x:j=i
  ·subst x;rw [rO,hw];exact⟨rfl,rfl,rfl,fun _=>rfl,fun _=>.rfl⟩
  ·rw [nT j x];exact⟨rfl,rfl,rfl,fun _=>rfl,fun _=>.rfl⟩
 have efz:(S'.ws i).fz=.found c:=by rw [rO];rfl
 clear eE;have ala:∀j d,aT (S'.ws j) d->j≠i/\aT (S.ws j) d:=fun j d x=>by
  by_cases e1:j=i
  ·subst e1;unfold aT at x;rw [efz]at x;rcases x with x|x<;>cases x
  ·rw [nT j e1]at x;exact⟨e1,x⟩
 have Cu:VJ Γ J base Shun S S' i g g' w (w.setChan c.ch 0 #[] true s r tm) t (MemOp.ofEvents (base+i) g.frame.fn g.frame.place (closeEvents c.ch)):=by
  refine⟨em,.inl yP,eq,fun j hj=>.inl (nT j hj),ij .main (by simp) (by simp),fun j hj=>ij (.work j) (by simp [hj]) (by simp),fun j _=>ij (.mc j) (by simp) (by simp),?_,?_,fun j hj=>?_,fun y T' ρ e'=>?_,ub,fun A=>?_,(ij .sync (by simp) (by simp)).trans h.sync,fun b hb=>?_,fun k' cm=>?_,?_,?_,?_⟩
  ·refine⟨fun j _ _=>hR _ (by simp),fun j _ _=>hR _ (by simp),fun _=>hR _ (by simp),fun⟨st,sm,x⟩=>⟨st,sm,(hblk _ n2).trans x⟩,.inl (by rw [hmw,hwk,hgr];rfl),fun b hb x=>?_,fun _=>.inl (by rw [hmw,hwk,hgr];rfl)⟩
   by_cases e1:b=c.ch
   ·subst e1;exact .inr ⟨s,r,tm,aBa⟩
   ·obtain⟨s1,r1,t1,x⟩:=x;exact .inl ⟨s1,r1,t1,(hblk b e1).trans x⟩
  ·rw [y9,rO,Deaf_own];refine⟨?_,hT⟩;show V'.deaf=deafBehind _ (closeEvents c.ch)
   rw [deafBehind_still (fun x hx=>by simp [closeEvents]at hx;rcases hx with rfl|rfl<;>simp),←hd];exact y7.deaf
  ·rw [iE,Hs];by_cases x:j=i
   ·subst x;rw [rO];exact dZ
   ·rw [nT j x];exact h.pos j hj
  ·rw [sumTo_congr (g:=fun j=>(S.ws j).cnt) fun j _=>(gx j).1];exact h.EY y T' ρ (yP▸e')
  ·rw [fO];by_cases e1:A=.work i
   ·subst e1;rw [y9];exact((h.low _).le y7).join ((h.low _).le hVC)
   ·by_cases e2:A=.chan c.ch
    ·subst e2;rw [Ct];exact(h.low _).le hVC
    ·rw [ij A e1 e2];exact h.low A
  ·rw [iE]at hb;refine⟨by rw [fO];exact(h.dL b hb).1,fun A hAk=>?_⟩
   by_cases e1:A=.work i
   ·subst e1;rw [y9];exact fun x=>x.elim (fun x=>(h.dL b hb).2 _ (by simp) (y7.own _ x)) (dS b)
   ·by_cases e2:A=.chan c.ch
    ·subst e2;rw [Ct];exact dS b
    ·rw [ij A e1 e2];exact(h.dL b hb).2 A hAk
  ·rw [Hs,y8,show(fun j=>(S'.ws j).role k')=fun j=>(S.ws j).role k' from funext fun j=>(gx j).2.2.2.1 k'];exact h.mx k' cm
  ·exact⟨by rw [iE];exact h.bO.k,by rw [iE];exact h.bO.no,by rw [iE];exact h.bO.ch,by rw [iE];exact h.bO.off,by rw [iE];exact h.bO.done,by rw [iE];exact h.bO.item,
    fun j j' d a b x y=>h.bO.one j j' d (em▸a) (em▸b) (ala j d x).2 (ala j' d y).2,fun j d a x=>by
     obtain⟨e1,_⟩:=ala j d (.inl x);rw [nT j e1]at x;rw [iE];exact h.bO.bH j d (em▸a) x,fun j d a x=>by
     obtain⟨e1,_⟩:=ala j d (.inr x);rw [nT j e1]at x;rw [iE];exact h.bO.stored j d (em▸a) x,fun j d a x=>by
     obtain⟨_,hx⟩:=ala j d x;rw [ij (.keep j) (by simp) (by simp)];exact h.bO.keep j d (em▸a) hx⟩
  ·obtain⟨z,st,sm,x1,x2⟩:=nj h.de (ws':=S'.ws) (Cn:=S'.ms) (by rw [yP]) (fun j _=>(gx j).1) fun j _=>(gx j).2.1
   have aE:∀b,b≠c.ch->bC w b->bC (w.setChan c.ch 0 #[] true s r tm) b:=fun b hb ⟨s1,r1,t1,x⟩=>⟨s1,r1,t1,(hblk b hb).trans x⟩;refine⟨fun k' cm=>?_,fun k' cm=>?_,aE _ (fun x=>h.bO.off k hk c hct x.symm) h.de.off,fun k' cm d aV=>?_,fun j d hj hf=>?_,fun j hj hr=>?_,by rw [em];exact⟨z,st,sm,(hblk _ n2).trans x1,x2⟩⟩
   ·rw [Hs,y8];obtain⟨c1,ty,y1,y2⟩:=h.de.lock k' cm;exact⟨c1,ty,(hblk _ (n1 k' cm)).trans y1,y2⟩
   ·rw [iE,em,ij (.lock k') (by simp) (by simp)]
    exact(h.de.cont k' cm).imp (fun⟨j,a,b⟩=>⟨j,a,((gx j).2.2.2.2 k').1 b⟩) fun x=>⟨bQ.cont k' _ _ _ _ x.1 (hR _ (by simp)),x.2⟩
   ·rw [iE]at aV;by_cases e1:d=c
    ·subst e1;have hk2:k'=k:=(h.bO.k k' cm d aV).symm.trans lr;subst hk2;refine .inr ⟨by rw [iE];have:=h.bO.stored i d hi Cr;rwa [lr]at this,⟨s,r,tm,aBa⟩,?_,by rw [Ct];exact VX,by rw [Ct];exact hVC.deaf.trans hV⟩
     rw [Ct];refine bQ.full _ _ _ _ anU (FO mj (dS _))
    ·have cM:d.ch≠c.ch:=fun x=>e1 (h.bO.ch k' cm k hk d aV c hct x);unfold tU;rw [iE,em,ij (.chan d.ch) (by simp) (by simp [cM])]
     rcases h.de.yr k' cm d aV with ⟨y,z⟩|⟨y1,⟨s1,r1,t1,y2⟩,y3,y4⟩
     ·refine .inl ⟨aE _ cM y,z.imp (fun⟨a,j,b,q⟩=>⟨a,j,b,?_⟩) fun⟨a,j,b,q⟩=>⟨a,j,b,?_⟩⟩
      ·rw [nT j (fun x=>by subst x;rw [Cr]at q;cases q)];exact q
      ·rw [nT j (fun x=>by subst x;rw [Cr]at q;cases q;exact e1 rfl)];exact q
     ·exact .inr ⟨y1,⟨s1,r1,t1,(hblk _ cM).trans y2⟩,bQ.full _ _ _ _ y3 (hR _ (by simp)),y4⟩
   ·obtain⟨e1,hf'⟩:=ala j d hf;refine aE _ (fun x=>e1 ?_) (h.de.opn j d (em▸hj) hf');obtain⟨k2,hk2,hd2,_⟩:=h.NK bQ (em▸hj) (.inr hf');have:=h.bO.ch k2 hk2 k hk d hd2 c hct x;subst this;exact h.bO.one j i d (em▸hj) hi hf' (.inr Cr)
   ·rw [ij (.mc j) (by simp) (by simp)]
    exact bQ.res _ _ _ _ (h.de.res j (em▸hj) ((gx j).2.2.1▸hr)) (hR _ (by simp))
  ·rw [closeOps,show(fun j=>(S'.ws j).rel)=fun j=>(S.ws j).rel from funext fun j=>(gx j).2.2.1,fO]
   have l1:=h.ys.kept (u:=#[{g:=base+i,fn:=g.frame.fn,pos:=g.frame.place,act:=.access ⟨.obj c.ch,false,true⟩}]) h.gV h.sync (j:=i) (r:=c.ch) hi (by rw [hw];rfl) (h.bO.keep i c hi (.inr Cr)) aU (fun op aE=>by simp at aE;subst aE;rfl)
    (fun op aE b hb=>by simp at aE;subst aE;simp only [MemAct.touch?,Option.some.injEq]at hb;subst hb;exact⟨rfl,rfl⟩) (fun op aE=>by simp at aE;subst aE;exact aU) (fun op aE a=>by simp at aE;subst aE;simp)
   have aYw:Deaf (t++#[({g:=base+i,fn:=g.frame.fn,pos:=g.frame.place,act:=.access ⟨.obj c.ch,false,true⟩}:MemOp)]) (base+i)=0:=by
    have h1:=Deaf_own t (base+i) g.frame.fn g.frame.place #[⟨.obj c.ch,false,true⟩];rw [deafBehind_still (fun x hx=>by simp at hx;subst hx;simp),oh,ofEvents_eq]at h1
    simp only [List.map_toArray,List.map_cons,List.map_nil,MemAct.ofEvent]at h1;exact h1
   rw [show t++#[({g:=base+i,fn:=g.frame.fn,pos:=g.frame.place,act:=.access ⟨.obj c.ch,false,true⟩}:MemOp),{g:=base+i,fn:=g.frame.fn,pos:=g.frame.place,act:=.close c.ch}]=(t++#[({g:=base+i,fn:=g.frame.fn,pos:=g.frame.place,act:=.access ⟨.obj c.ch,false,true⟩}:MemOp)])++#[{g:=base+i,fn:=g.frame.fn,pos:=g.frame.place,act:=.close c.ch}] by rw [Array.append_assoc];rfl]
   refine l1.Oo (Nat.le_refl _) (Nat.le_refl _) (fun op aE=>?_) (fun op aE=>?_) (fun op aE a=>?_) (fun B a hc=>?_) (fun j hk=>hk.app _) fun j i' _ hk=>hk.app _
   ·simp at aE;subst aE;rfl
   ·simp at aE;subst aE;exact aU
   ·simp at aE;subst aE;simp
   ·by_cases e1:B=.work i
    ·subst e1;rw [y9]at hc;exact⟨.work i,(oJ hc).elim (iS y7) (iS hVC),fun j hk=>hk.app _⟩
    ·by_cases e2:B=.chan c.ch
     ·subst e2;rw [Ct]at hc;exact⟨.work i,iS hVC hc,fun j cm=>iP.new (y:={g:=base+i,fn:=g.frame.fn,pos:=g.frame.place,act:=.close c.ch}) rfl aYw cm⟩
     ·rw [ij B e1 e2]at hc;exact⟨B,hc,fun j hk=>hk.app _⟩
 refine h.goal (S':=S') bQ hi hg rN Cu fun fx _=>Fb ?_;have e0:sumTo J.N (fun j=>(S'.ws j).E)=sumTo J.N fun j=>(upd S.ws i (.walk (.oa e (.found c)) T 0) j).E:=sumTo_congr fun j _=>by
  by_cases x:j=i
  ·subst x;rw [upd_same,rO]
  ·rw [upd_ne _ _ x,nT j x]
 have:=fa S i (.walk (.oa e (.found c)) T 0) Ws.E rZ;rw [hw]at this;have e1:(Ws.walk (.oa e (.found c)) T 0).E=EC*e.n:=rfl;have e2:(Ws.stop ⟨e,.stored c,.close⟩).E=EC*e.n+100:=rfl;show L1 Γ J S'<L1 Γ J S
 simp only [L1,e0,y8,yP];omega
theorem alb(bQ:dK Γ J)(h:Inv Γ J Fin base Shun S gs w t)(hi:i<S.m)(hg:gs[base+i]? =some g)(hw:S.ws i=.stop ⟨e,f,.E8⟩):Goal Γ J Fin base Shun S gs w sl t (runT prog (crowd gs w sl) (base+i)):=by
 obtain⟨hd,g0,w0,jf,nf,bF,hmw,_⟩:=qX h hi hg hw;obtain⟨_,hf,hV,hs0,pl,C,ic,n,v,jV,fb⟩:=jf.law;simp only at hf;subst hf;have rZ:i<J.N:=Nat.lt_of_lt_of_le hi h.kq;have dZ:=h.pos i hi;rw [hw]at dZ;obtain⟨sG,hR0⟩:=fb w nf (show WgLive Γ.wgT Γ.wg w from qV h)
 obtain⟨_,_,g',hx,m,hG⟩:=hR0;have rN:=(bF w).trans hx;have oh:Deaf t (base+i)=0:=by rw [←hd,hV]
 have hWD:Ag.work i≠Ag.mc i:=by simp
 have Cr:(S.ws i).fz=.none:=by rw [hw];rfl
 obtain⟨S',eE⟩:∃S':ln,S'={S with ws:=upd S.ws i (.done 5 m),vw:=bx (bx S.vw (.work i) View.bare) (.mc i) (S.vw (.work i))}:=⟨_,rfl⟩
 have em:S'.m=S.m:=by rw [eE]
 have yP:S'.ms=S.ms:=by rw [eE]
 have eq:S'.q=S.q:=by rw [eE]
 have iE:S'.gh=S.gh:=by rw [eE]
 have Hs:S'.wd=S.wd:=by rw [eE]
 have y8:S'.sm=S.sm:=by rw [eE]
 have nT:∀j,j≠i->S'.ws j=S.ws j:=fun j hj=>by rw [eE];exact upd_ne _ _ hj
 have rO:S'.ws i=.done 5 m:=by rw [eE];exact upd_same _ _ _
 have y9:S'.vw (.work i)=View.bare:=by rw [eE];exact(bq (bx S.vw (.work i) View.bare) (S.vw (.work i)) hWD).trans (bm _ _ _)
 have Ct:S'.vw (.mc i)=S.vw (.work i):=by rw [eE];exact bm _ _ _
 have ij:∀A,A≠.work i->A≠.mc i->S'.vw A=S.vw A:=fun A h1 h2=>by rw [eE];exact mh _ _ _ h1 h2
 have ub:gu S'.vw:=by
  rw [eE];exact h.gV.split hWD ⟨fun _ x=>x.elim,fun _ x=>x.elim,fun _ x=>x.elim,hV.symm⟩ (.refl _) (Apart.bare _)
 have gx:∀j,(S'.ws j).cnt=(S.ws j).cnt/\(S'.ws j).fJ=(S.ws j).fJ/\(S'.ws j).fz=(S.ws j).fz/\(∀k',(S'.ws j).role k'=(S.ws j).role k')/\∀k',(S.ws j).inside k'↔(S'.ws j).inside k':=fun j=>by
  by_cases x:j=i
  ·subst x;rw [rO,hw];exact⟨rfl,rfl,rfl,fun _=>rfl,fun _=>.rfl⟩
  ·rw [nT j x];exact⟨rfl,rfl,rfl,fun _=>rfl,fun _=>.rfl⟩
 clear eE;have hff:∀j d,aT (S'.ws j) d↔aT (S.ws j) d:=fun j d=>by unfold aT;rw [(gx j).2.2.1]
 have Cu:VJ Γ J base Shun S S' i g g' w w t (MemOp.ofEvents (base+i) g.frame.fn g.frame.place #[⟨.mark (.releaseMerge (stA Γ.wg)),false,true⟩]):=by
  refine⟨em,.inl yP,eq,fun j hj=>.inl (nT j hj),ij .main (by simp) (by simp),fun j hj=>ij (.work j) (by simp [hj]) (by simp),fun j hj=>ij (.mc j) (by simp) (by simp [hj]),by rw [y8];exact Rest.eQ S w _ g g',?_,fun j hj=>?_,fun y T' ρ e'=>?_,ub,fun A=>?_,(ij .sync (by simp) (by simp)).trans h.sync,fun b hb=>?_,fun k' cm=>?_,h.bO.fz em iE (fun j _=>(gx j).2.2.1) (fun j=>ij (.keep j) (by simp) (by simp)),?_,?_⟩
  ·rw [Ct,rO,Deaf_own];refine⟨by omega,Nat.le_refl _,?_,pl,C,n,ic,jV,hG⟩
   rw [if_pos rfl];exact oh
  ·rw [iE,Hs];by_cases x:j=i
   ·subst x;rw [rO];exact dZ.2.1
   ·rw [nT j x];exact h.pos j hj
  ·rw [sumTo_congr (g:=fun j=>(S.ws j).cnt) fun j _=>(gx j).1];exact h.EY y T' ρ (yP▸e')
  ·by_cases e1:A=.work i
   ·subst e1;rw [y9];exact .bare _
   ·by_cases e2:A=.mc i
    ·subst e2;rw [Ct];exact h.low _
    ·rw [ij A e1 e2];exact h.low A
  ·rw [iE]at hb;refine⟨(h.dL b hb).1,fun A hAk=>?_⟩;by_cases e1:A=.work i
   ·subst e1;rw [y9];exact id
   ·by_cases e2:A=.mc i
    ·subst e2;rw [Ct];exact(h.dL b hb).2 _ (by simp)
    ·rw [ij A e1 e2];exact(h.dL b hb).2 A hAk
  ·rw [Hs,y8,show(fun j=>(S'.ws j).role k')=fun j=>(S.ws j).role k' from funext fun j=>(gx j).2.2.2.1 k'];exact h.mx k' cm
  ·obtain⟨z,st,sm,x1,x2⟩:=nj h.de (ws':=S'.ws) (Cn:=S'.ms) (by rw [yP]) (fun j _=>(gx j).1) fun j _=>(gx j).2.1
   refine⟨by rw [Hs,y8];exact h.de.lock,fun k' cm=>?_,h.de.off,fun k' cm d aV=>?_,fun j d hj hf=>h.de.opn j d (em▸hj) ((hff j d).1 hf),fun j hj hr=>?_,by rw [em];exact⟨z,st,sm,x1,x2⟩⟩
   ·rw [iE,em,ij (.lock k') (by simp) (by simp)]
    exact(h.de.cont k' cm).imp (fun⟨j,a,b⟩=>⟨j,a,((gx j).2.2.2.2 k').1 b⟩) id
   ·rw [iE]at aV;unfold tU;rw [iE,em,ij (.chan d.ch) (by simp) (by simp)]
    refine(h.de.yr k' cm d aV).imp (fun⟨y,z⟩=>⟨y,z.imp (fun⟨a,j,b,q⟩=>⟨a,j,b,?_⟩) fun⟨a,j,b,q⟩=>⟨a,j,b,?_⟩⟩) id
    ·rw [(gx j).2.2.1];exact q
    ·rw [(gx j).2.2.1];exact q
   ·by_cases e1:j=i
    ·subst e1;rw [Ct];exact sG
    ·rw [ij (.mc j) (by simp) (by simp [e1])]
     rw [nT j e1]at hr;exact h.de.res j (em▸hj) hr
  ·rw [mi];refine h.ys.Oo (Nat.le_refl _) (Nat.le_refl _) (fun op aE=>?_) (fun op aE=>?_) (fun op aE a=>?_) (fun B a hc=>?_) (fun j hk=>hk.app _) fun j i' lO hk=>?_
   ·simp at aE;subst aE;rfl
   ·simp at aE;subst aE;exact h.jv (stA Γ.wg) (.inr rfl)
   ·simp at aE;subst aE;simp
   ·by_cases e1:B=.work i
    ·subst e1;rw [y9]at hc;exact(oK hc).elim
    ·by_cases e2:B=.mc i
     ·subst e2;rw [Ct]at hc;exact⟨.work i,hc,fun j cm=>iP.new (y:={g:=base+i,fn:=g.frame.fn,pos:=g.frame.place,act:=.mark (.releaseMerge (stA Γ.wg))}) rfl oh cm⟩
     ·rw [ij B e1 e2]at hc;exact⟨B,hc,fun j hk=>hk.app _⟩
   ·by_cases e1:j=i
    ·subst e1;unfold WK at hk⊢;rw [if_pos (show(S'.ws j).rel=true by rw [rO];rfl)]
     rw [if_neg (show ¬(S.ws j).rel=true by rw [hw];simp [Ws.rel])]at hk
     exact iP.new (y:={g:=base+j,fn:=g.frame.fn,pos:=g.frame.place,act:=.mark (.releaseMerge (stA Γ.wg))}) rfl oh hk
    ·have:=hk.app #[{g:=base+i,fn:=g.frame.fn,pos:=g.frame.place,act:=.mark (.releaseMerge (stA Γ.wg))}];unfold WK at this⊢;simp only [nT j e1];exact this
 refine h.goal (S':=S') bQ hi hg rN Cu fun fx _=>Fb ?_;have e0:sumTo J.N (fun j=>(S'.ws j).E)=sumTo J.N fun j=>(upd S.ws i (.done 5 m) j).E:=sumTo_congr fun j _=>by
  by_cases x:j=i
  ·subst x;rw [upd_same,rO]
  ·rw [upd_ne _ _ x,nT j x]
 have:=fa S i (.done 5 m) Ws.E rZ;rw [hw]at this;have e1:(Ws.done 5 m).E=5:=rfl;have e2:(Ws.stop ⟨e,.none,.E8⟩).E=EC*e.n+100:=rfl;show L1 Γ J S'<L1 Γ J S
 simp only [L1,e0,y8,yP];omega
end
end Go.Proofs.YtmcddajniiaieaaGreatDoor
