/- TopRace: a part of the proof that it holds for every input and every schedule. -/
import Derived.Test.YtmcddajniiaieaaGreatDoorProg
import Derived.KernelRfl
import Derived.Conc.AtomicLaws2
import Derived.Conc.ClockLaws
import Derived.Conc.MarkLaws
import Derived.Conc.CrowdBase
import Derived.Calls
import Derived.Conc.Events
import Derived.Conc.Own
import Derived.Conc.Listed
set_option linter.unusedVariables false
set_option linter.unusedSimpArgs false
namespace Go.Proofs.YtmcddajniiaieaaGreatDoor
open Go Go.Conc Go.Proofs.Tryz
variable {N i sm:Nat}
theorem aAy:(Tryz.f36.name== "runtime.NumGoroutine")=false:=by kernel_rfl
theorem aAz:Tryz.f36.body.isNone=true:=by kernel_rfl
theorem aAA:Extern.findNext Tryz.f36=none:=by kernel_rfl
theorem aAB:Extern.find Tryz.f36=some (Extern.Race.marked .releaseMerge):=by kernel_rfl
theorem NQ:(Tryz.f37.name== "runtime.NumGoroutine")=false:=by kernel_rfl
theorem NR:Tryz.f37.body.isNone=true:=by kernel_rfl
theorem NS:Extern.findNext Tryz.f37=none:=by kernel_rfl
theorem NU:Extern.find Tryz.f37=some (fun _=>do mark .disable;pure Extern.Race.none_):=by kernel_rfl
theorem Fx:(Tryz.f38.name== "runtime.NumGoroutine")=false:=by kernel_rfl
theorem Fy:Tryz.f38.body.isNone=true:=by kernel_rfl
theorem FA:Extern.findNext Tryz.f38=none:=by kernel_rfl
theorem FB:Extern.find Tryz.f38=some (fun _=>do mark .enable;pure Extern.Race.none_):=by kernel_rfl
theorem amD:(Tryz.f52.name== "runtime.NumGoroutine")=false:=by kernel_rfl
theorem amE:Tryz.f52.body.isNone=true:=by kernel_rfl
theorem amF:Extern.findNext Tryz.f52=none:=by kernel_rfl
theorem amG:Extern.find Tryz.f52=some (Extern.Race.marked .acquire):=by kernel_rfl
theorem aO2:(Tryz.f44.name== "runtime.NumGoroutine")=false:=by kernel_rfl
theorem aO3:Tryz.f44.body.isNone=true:=by kernel_rfl
theorem aO4:Extern.findNext Tryz.f44=none:=by kernel_rfl
theorem aO5:Extern.find Tryz.f44=some (Extern.Race.marked .read):=by kernel_rfl
theorem aO6:(Tryz.f55.name== "runtime.NumGoroutine")=false:=by kernel_rfl
theorem aO7:Tryz.f55.body.isNone=true:=by kernel_rfl
theorem aO8:Extern.findNext Tryz.f55=none:=by kernel_rfl
theorem aO9:Extern.find Tryz.f55=some (Extern.Race.marked .write):=by kernel_rfl
theorem aAC:(Tryz.f97.name== "runtime.NumGoroutine")=false:=by kernel_rfl
theorem amH:Tryz.f97.body.isNone=true:=by kernel_rfl
theorem aAD:Extern.findNext Tryz.f97=none:=by kernel_rfl
theorem aAE:Extern.find Tryz.f97=some (Extern.Atomic.casT (.int .i32)):=by kernel_rfl
theorem aPa:(Tryz.f99.name== "runtime.NumGoroutine")=false:=by kernel_rfl
theorem aAF:Tryz.f99.body.isNone=true:=by kernel_rfl
theorem aPb:Extern.findNext Tryz.f99=none:=by kernel_rfl
theorem aPc:Extern.find Tryz.f99=some (Extern.Atomic.update (Op.intArith .add) .i32 true):=by kernel_rfl
theorem amI:(Tryz.f104.name== "runtime.NumGoroutine")=false:=by kernel_rfl
theorem amJ:Tryz.f104.body.isNone=true:=by kernel_rfl
theorem amK:Extern.findNext Tryz.f104=none:=by kernel_rfl
theorem amL:Extern.find Tryz.f104=some (Extern.Sync.canSpin):=by kernel_rfl
theorem aDM:(Tryz.f105.name== "runtime.NumGoroutine")=false:=by kernel_rfl
theorem aDN:Tryz.f105.body.isNone=true:=by kernel_rfl
theorem aDO:Extern.findNext Tryz.f105=none:=by kernel_rfl
theorem aDP:Extern.find Tryz.f105=some (Extern.Sync.nothing):=by kernel_rfl
theorem aDQ:(Tryz.f107.name== "runtime.NumGoroutine")=false:=by kernel_rfl
theorem aDR:Tryz.f107.body.isNone=true:=by kernel_rfl
theorem aDS:Extern.findNext Tryz.f107=none:=by kernel_rfl
theorem aDT:Extern.find Tryz.f107=some (Extern.OsHooks.nano):=by kernel_rfl
theorem amM:(Tryz.f108.name== "runtime.NumGoroutine")=false:=by kernel_rfl
theorem amN:Tryz.f108.body.isNone=true:=by kernel_rfl
theorem amO:Extern.findNext Tryz.f108=none:=by kernel_rfl
theorem amP:Extern.find Tryz.f108=some (Extern.Sync.semacquire):=by kernel_rfl
theorem aDU:(Tryz.f110.name== "runtime.NumGoroutine")=false:=by kernel_rfl
theorem amQ:Tryz.f110.body.isNone=true:=by kernel_rfl
theorem aDV:Extern.findNext Tryz.f110=none:=by kernel_rfl
theorem aDW:Extern.find Tryz.f110=some (Extern.Sync.semrelease):=by kernel_rfl
theorem aAG:(Tryz.f56.name== "runtime.NumGoroutine")=false:=by kernel_rfl
theorem aAH:Tryz.f56.body.isNone=true:=by kernel_rfl
theorem aAI:Extern.findNext Tryz.f56=none:=by kernel_rfl
theorem aAJ:Extern.find Tryz.f56=some (Extern.Sync.semacquire):=by kernel_rfl
theorem aDX:Tryz.f107.norace=true:=by kernel_rfl
theorem aPd:(Tryz.f70.name== "runtime.NumGoroutine")=false:=by kernel_rfl
theorem aPe:Tryz.f70.body.isNone=true:=by kernel_rfl
theorem aPf:Extern.findNext Tryz.f70=none:=by kernel_rfl
theorem aPg:Extern.find Tryz.f70=some (Extern.Atomic.update (Op.intArith .add) .u64 true):=by kernel_rfl
theorem aAK:(Tryz.f71.name== "runtime.NumGoroutine")=false:=by kernel_rfl
theorem aAL:Tryz.f71.body.isNone=true:=by kernel_rfl
theorem aAM:Extern.findNext Tryz.f71=none:=by kernel_rfl
theorem aAN:Extern.find Tryz.f71=some (Extern.Atomic.loadT (.int .u64)):=by kernel_rfl
theorem aAO:(Tryz.f77.name== "runtime.NumGoroutine")=false:=by kernel_rfl
theorem aAP:Tryz.f77.body.isNone=true:=by kernel_rfl
theorem aAQ:Extern.findNext Tryz.f77=none:=by kernel_rfl
theorem aAR:Extern.find Tryz.f77=some (Extern.Atomic.casT (.int .u64)):=by kernel_rfl
theorem aPh:(Tryz.f39.name== "runtime.NumGoroutine")=false:=by kernel_rfl
theorem aPi:Tryz.f39.body.isNone=true:=by kernel_rfl
theorem aPj:Extern.findNext Tryz.f39=none:=by kernel_rfl
theorem aPk:Extern.find Tryz.f39=some (fun _=>pure (.bool false)):=by kernel_rfl
open Go.ConcN (sumTo upd sumTo_upd sumTo_congr le_sumTo upd_same upd_ne)
inductive MR where
 |out|tries (aw:Bool)|queue|woken|hand (keep:Bool)|hold|GY|tB (hand:Bool)
 deriving DecidableEq
variable {mr:Nat->MR}
structure Wd where
 L:Bool
 W:Bool
 S:Bool
 n:Nat
 deriving DecidableEq
def cy(r:MR):Nat:=if r=.hold then 1 else 0
def bz(r:MR):Nat:=if r=.queue then 1 else 0
def bA(r:MR):Nat:=if r=.woken then 1 else 0
def cE(r:MR):Nat:=if r=.tries true then 1 else 0
def bU(r:MR):Nat:=match r with|.hand _=>1|_=>0
def cw(r:MR):Nat:=if r=.hand true then 1 else 0
def bM(r:MR):Nat:=if r=.tB false then 1 else 0
def bN(r:MR):Nat:=if r=.tB true then 1 else 0
def cF(r:MR):Nat:=if r=.GY then 1 else 0
structure MC where
 H:Nat
 Q:Nat
 K:Nat
 T:Nat
 D:Nat
 E:Nat
 G0:Nat
 G1:Nat
 R:Nat
def cJ(N:Nat)(mr:Nat->MR):MC:=
 ⟨sumTo N fun i=>cy (mr i),sumTo N fun i=>bz (mr i),sumTo N fun i=>bA (mr i),sumTo N fun i=>cE (mr i),sumTo N fun i=>bU (mr i),sumTo N fun i=>cw (mr i),
  sumTo N fun i=>bM (mr i),sumTo N fun i=>bN (mr i),sumTo N fun i=>cF (mr i)⟩
structure axk(wd:Wd)(sm:Nat)(c:MC):Prop where
 hold:c.H=wd.L.toNat
 sub:c.E<=c.D
 keep:0<c.E->wd.S=true/\2<=wd.n
 calm:wd.S=false->wd.n+c.G0+sm=c.Q/\wd.W.toNat=c.G0+sm+c.K+c.T/\c.D=0/\c.G1=0/\(wd.L=false->wd.W=false->0<wd.n->0<c.R)
 a1U:wd.S=true->wd.W=false/\c.T=0/\c.G0=0/\wd.L.toNat+c.G1+sm+c.K+c.D=1/\wd.n=c.Q+c.K+c.D/\0<wd.n
def br(N:Nat)(mr:Nat->MR)(wd:Wd)(sm:Nat):Prop:=axk wd sm (cJ N mr)
theorem axl{N:Nat}(mr:Nat->MR):(cJ N mr).E<=(cJ N mr).D:=by
 have e:∀M,sumTo M (fun i=>cw (mr i))<=sumTo M (fun i=>bU (mr i)):=by
  intro M;induction M with
  |zero=>exact Nat.le_refl _
  |succ M ih=>
   have:cw (mr M)<=bU (mr M):=by {cases hm:mr M<;>simp [cw,bU];split<;>omega}
   simp only [sumTo];omega
 exact e N
theorem amR{N i:Nat}(mr:Nat->MR)(r:MR)(hi:i<N):
  (cJ N (upd mr i r)).H+cy (mr i)=(cJ N mr).H+cy r/\(cJ N (upd mr i r)).Q+bz (mr i)=(cJ N mr).Q+bz r/\
  (cJ N (upd mr i r)).K+bA (mr i)=(cJ N mr).K+bA r/\(cJ N (upd mr i r)).T+cE (mr i)=(cJ N mr).T+cE r/\
  (cJ N (upd mr i r)).D+bU (mr i)=(cJ N mr).D+bU r/\(cJ N (upd mr i r)).E+cw (mr i)=(cJ N mr).E+cw r/\
  (cJ N (upd mr i r)).G0+bM (mr i)=(cJ N mr).G0+bM r/\(cJ N (upd mr i r)).G1+bN (mr i)=(cJ N mr).G1+bN r/\
  (cJ N (upd mr i r)).R+cF (mr i)=(cJ N mr).R+cF r/\(cJ N (upd mr i r)).E<=(cJ N (upd mr i r)).D:=
 ⟨sumTo_upd mr r cy hi,sumTo_upd mr r bz hi,sumTo_upd mr r bA hi,sumTo_upd mr r cE hi,sumTo_upd mr r bU hi,sumTo_upd mr r cw hi,sumTo_upd mr r bM hi,sumTo_upd mr r bN hi,sumTo_upd mr r cF hi,axl _⟩
theorem ym{N i:Nat}(mr:Nat->MR)(hi:i<N):
  cy (mr i)<=(cJ N mr).H/\bz (mr i)<=(cJ N mr).Q/\bA (mr i)<=(cJ N mr).K/\cE (mr i)<=(cJ N mr).T/\bU (mr i)<=(cJ N mr).D/\cw (mr i)<=(cJ N mr).E/\bM (mr i)<=(cJ N mr).G0/\
  bN (mr i)<=(cJ N mr).G1/\cF (mr i)<=(cJ N mr).R:=
 ⟨le_sumTo (f:=fun i=>cy (mr i)) hi,le_sumTo (f:=fun i=>bz (mr i)) hi,le_sumTo (f:=fun i=>bA (mr i)) hi,le_sumTo (f:=fun i=>cE (mr i)) hi,le_sumTo (f:=fun i=>bU (mr i)) hi,le_sumTo (f:=fun i=>cw (mr i)) hi,
  le_sumTo (f:=fun i=>bM (mr i)) hi,le_sumTo (f:=fun i=>bN (mr i)) hi,le_sumTo (f:=fun i=>cF (mr i)) hi⟩
section
variable {N i:Nat} {mr:Nat->MR} {wd:Wd} {sm:Nat} (hi:i<N) (h:br N mr wd sm)
include hi h
theorem eh{r':MR}{iZ:Wd}{iN:Nat}(hk:axk wd sm (cJ N mr)->(cy (mr i)<=(cJ N mr).H/\bz (mr i)<=(cJ N mr).Q/\bA (mr i)<=(cJ N mr).K/\cE (mr i)<=(cJ N mr).T/\bU (mr i)<=(cJ N mr).D/\cw (mr i)<=(cJ N mr).E/\bM (mr i)<=(cJ N mr).G0/\
  bN (mr i)<=(cJ N mr).G1/\cF (mr i)<=(cJ N mr).R)->∀c':MC,
  (c'.H+cy (mr i)=(cJ N mr).H+cy r'/\c'.Q+bz (mr i)=(cJ N mr).Q+bz r'/\
  c'.K+bA (mr i)=(cJ N mr).K+bA r'/\c'.T+cE (mr i)=(cJ N mr).T+cE r'/\
  c'.D+bU (mr i)=(cJ N mr).D+bU r'/\c'.E+cw (mr i)=(cJ N mr).E+cw r'/\
  c'.G0+bM (mr i)=(cJ N mr).G0+bM r'/\c'.G1+bN (mr i)=(cJ N mr).G1+bN r'/\
  c'.R+cF (mr i)=(cJ N mr).R+cF r'/\c'.E<=c'.D)->axk iZ iN c'):br N (upd mr i r') iZ iN:=
 hk h (ym mr hi) _ (amR mr r' hi)
end
theorem xv{f:Nat->Nat}:∀{N:Nat},0<sumTo N f->∃i,i<N/\0<f i
 |0,h=>by simp [sumTo]at h
 |N+1,h=>by
  by_cases h0:0<f N
  ·exact⟨N,Nat.lt_succ_self _,h0⟩
  ·obtain⟨i,h1,h2⟩:=xv (N:=N) (f:=f) (by simp only [sumTo]at h;omega)
   exact⟨i,Nat.lt_succ_of_lt h1,h2⟩
def jM(l w s n sm:Nat)(c:MC):Prop:=
 c.H=l/\c.E<=c.D/\(0<c.E->s=1/\2<=n)/\
 (s=0->n+c.G0+sm=c.Q/\w=c.G0+sm+c.K+c.T/\c.D=0/\c.G1=0/\(l=0->w=0->0<n->0<c.R))/\
 (s=1->w=0/\c.T=0/\c.G0=0/\l+c.G1+sm+c.K+c.D=1/\n=c.Q+c.K+c.D/\0<n)
theorem cV{L W S:Bool}{n sm:Nat}{c:MC}:axk ⟨L,W,S,n⟩ sm c↔jM L.toNat W.toNat S.toNat n sm c:=by
 have b0:∀b:Bool,b.toNat=0↔b=false:=fun b=>by cases b<;>simp
 have b1:∀b:Bool,b.toNat=1↔b=true:=fun b=>by cases b<;>simp
 constructor
 ·rintro⟨a0,a1,a2,a3,a4⟩;simp only [jM,b0,b1];exact⟨a0,a1,a2,a3,fun h=>⟨(a4 h).1,(a4 h).2⟩⟩
 ·intro h;simp only [jM,b0,b1]at h;exact⟨h.1,h.2.1,h.2.2.1,h.2.2.2.1,h.2.2.2.2⟩
section
variable {L W S:Bool} {n:Nat}
theorem aDY(hi:i<N)(h:br N mr ⟨L,W,S,n⟩ sm)(hr:mr i=.out):br N (upd mr i (.tries false)) ⟨L,W,S,n⟩ sm:=by
 refine eh hi h fun a b c d=>?_;rw [cV]at a⊢;simp only [hr,cy,bz,bA,cE,bU,cw,bM,bN,cF]at b d;cases L<;>cases W<;>cases S<;>simp [jM]at a b d⊢<;>omega
theorem axm(hi:i<N)(h:br N mr ⟨false,false,false,0⟩ sm)(hr:mr i=.out):br N (upd mr i .hold) ⟨true,false,false,0⟩ sm:=by
 refine eh hi h fun a b c d=>?_;rw [cV]at a⊢;simp only [hr,cy,bz,bA,cE,bU,cw,bM,bN,cF]at b d;simp [jM]at a b d⊢<;>omega
theorem axn(hi:i<N)(h:br N mr ⟨true,false,false,n⟩ sm)(hr:mr i=.tries false):br N (upd mr i (.tries true)) ⟨true,true,false,n⟩ sm:=by
 refine eh hi h fun a b c d=>?_;rw [cV]at a⊢;simp only [hr,cy,bz,bA,cE,bU,cw,bM,bN,cF]at b d;simp [jM]at a b d⊢<;>omega
theorem aDZ(hi:i<N)(h:br N mr ⟨false,W,false,n⟩ sm){aw:Bool}(hr:mr i=.tries aw):br N (upd mr i .hold) ⟨true,W&&!aw,false,n⟩ sm:=by
 refine eh hi h fun a b c d=>?_;rw [cV]at a⊢;simp only [hr,cy,bz,bA,cE,bU,cw,bM,bN,cF]at b d;cases W<;>cases aw<;>simp [jM]at a b d⊢<;>omega
theorem aD0(hi:i<N)(h:br N mr ⟨L,W,S,n⟩ sm){aw sv:Bool}(hr:mr i=.tries aw)(hf:L=true\/S=true)(hs:sv=true->aw=true):br N (upd mr i .queue) ⟨if S then L else true,W&&!aw,S||(sv&&L),n+1⟩ sm:=by
 refine eh hi h fun a b c d=>?_;rw [cV]at a⊢;simp only [hr,cy,bz,bA,cE,bU,cw,bM,bN,cF]at b d;cases L<;>cases W<;>cases S<;>cases aw<;>cases sv<;>simp [jM]at a b d hf hs⊢<;>omega
theorem axo(hi:i<N)(h:br N mr ⟨L,W,S,n⟩ (sm+1))(hr:mr i=.queue):br N (upd mr i .woken) ⟨L,W,S,n⟩ sm:=by
 refine eh hi h fun a b c d=>?_;rw [cV]at a⊢;simp only [hr,cy,bz,bA,cE,bU,cw,bM,bN,cF]at b d;cases L<;>cases W<;>cases S<;>simp [jM]at a b d⊢<;>omega
theorem axp(hi:i<N)(h:br N mr ⟨L,W,false,n⟩ sm)(hr:mr i=.woken):br N (upd mr i (.tries true)) ⟨L,W,false,n⟩ sm:=by
 refine eh hi h fun a b c d=>?_;rw [cV]at a⊢;simp only [hr,cy,bz,bA,cE,bU,cw,bM,bN,cF]at b d;cases L<;>cases W<;>simp [jM]at a b d⊢<;>omega
theorem axq(hi:i<N)(h:br N mr ⟨L,W,true,n⟩ sm){keep:Bool}(hr:mr i=.woken)(hk:keep=true->n≠1):br N (upd mr i (.hand keep)) ⟨L,W,true,n⟩ sm:=by
 refine eh hi h fun a b c d=>?_;rw [cV]at a⊢;simp only [hr,cy,bz,bA,cE,bU,cw,bM,bN,cF]at b d;cases L<;>cases W<;>cases keep<;>simp [jM]at a b d hk⊢<;>omega
theorem axr(hi:i<N)(h:br N mr ⟨L,W,S,n⟩ sm){keep:Bool}(hr:mr i=.hand keep):br N (upd mr i .hold) ⟨true,W,keep,n-1⟩ sm:=by
 refine eh hi h fun a b c d=>?_;rw [cV]at a⊢;simp only [hr,cy,bz,bA,cE,bU,cw,bM,bN,cF]at b d;cases L<;>cases W<;>cases S<;>cases keep<;>simp [jM]at a b d⊢<;>omega
theorem Vd(hi:i<N)(h:br N mr ⟨true,W,false,n⟩ sm)(hr:mr i=.hold)(hz:n=0\/W=true):br N (upd mr i .out) ⟨false,W,false,n⟩ sm:=by
 refine eh hi h fun a b c d=>?_;rw [cV]at a⊢;simp only [hr,cy,bz,bA,cE,bU,cw,bM,bN,cF]at b d;cases W<;>simp [jM]at a b d hz⊢<;>omega
theorem NV(hi:i<N)(h:br N mr ⟨true,false,false,n⟩ sm)(hr:mr i=.hold):br N (upd mr i .GY) ⟨false,false,false,n⟩ sm:=by
 refine eh hi h fun a b c d=>?_;rw [cV]at a⊢;simp only [hr,cy,bz,bA,cE,bU,cw,bM,bN,cF]at b d;simp [jM]at a b d⊢<;>omega
theorem NW(hi:i<N)(h:br N mr ⟨true,W,true,n⟩ sm)(hr:mr i=.hold):br N (upd mr i (.tB true)) ⟨false,W,true,n⟩ sm:=by
 refine eh hi h fun a b c d=>?_;rw [cV]at a⊢;simp only [hr,cy,bz,bA,cE,bU,cw,bM,bN,cF]at b d;cases W<;>simp [jM]at a b d⊢<;>omega
theorem NX(hi:i<N)(h:br N mr ⟨L,W,S,n⟩ sm)(hr:mr i=.GY)(hz:n=0\/L=true\/W=true\/S=true):br N (upd mr i .out) ⟨L,W,S,n⟩ sm:=by
 refine eh hi h fun a b c d=>?_;rw [cV]at a⊢;simp only [hr,cy,bz,bA,cE,bU,cw,bM,bN,cF]at b d;cases L<;>cases W<;>cases S<;>simp [jM]at a b d hz⊢<;>omega
theorem axs(hi:i<N)(h:br N mr ⟨false,false,false,n+1⟩ sm)(hr:mr i=.GY):br N (upd mr i (.tB false)) ⟨false,true,false,n⟩ sm:=by
 refine eh hi h fun a b c d=>?_;rw [cV]at a⊢;simp only [hr,cy,bz,bA,cE,bU,cw,bM,bN,cF]at b d;simp [jM]at a b d⊢<;>omega
theorem amS(hi:i<N)(h:br N mr ⟨L,W,S,n⟩ sm){hd:Bool}(hr:mr i=.tB hd):br N (upd mr i .out) ⟨L,W,S,n⟩ (sm+1):=by
 refine eh hi h fun a b c d=>?_;rw [cV]at a⊢;simp only [hr,cy,bz,bA,cE,bU,cw,bM,bN,cF]at b d;cases L<;>cases W<;>cases S<;>cases hd<;>simp [jM]at a b d⊢<;>omega
theorem E2(hi:i<N)(h:br N mr ⟨L,W,true,n⟩ sm)(hr:mr i=.woken):L=false/\W=false/\0<n:=by
 have b:=ym mr hi;have a:=h;unfold br at a;rw [cV]at a;simp only [hr,cy,bz,bA,cE,bU,cw,bM,bN,cF]at b;cases L<;>cases W<;>simp [jM]at a b⊢<;>omega
theorem NY(hi:i<N)(h:br N mr ⟨L,W,S,n⟩ sm)(hr:mr i=.tries true):W=true/\S=false:=by
 have b:=ym mr hi;have a:=h;unfold br at a;rw [cV]at a;simp only [hr,cy,bz,bA,cE,bU,cw,bM,bN,cF]at b;cases L<;>cases W<;>cases S<;>simp [jM]at a b⊢<;>omega
theorem BF(hi:i<N)(h:br N mr ⟨L,W,false,n⟩ sm)(hr:mr i=.woken):W=true:=by
 have b:=ym mr hi;have a:=h;unfold br at a;rw [cV]at a;simp only [hr,cy,bz,bA,cE,bU,cw,bM,bN,cF]at b;cases L<;>cases W<;>simp [jM]at a b⊢<;>omega
theorem ja(hi:i<N)(h:br N mr ⟨L,W,S,n⟩ sm)(hr:mr i=.hold):L=true:=by
 have b:=ym mr hi;have a:=h;unfold br at a;rw [cV]at a;simp only [hr,cy,bz,bA,cE,bU,cw,bM,bN,cF]at b;cases L<;>cases W<;>cases S<;>simp [jM]at a b⊢<;>omega
theorem rU{keep:Bool}(hi:i<N)(h:br N mr ⟨L,W,S,n⟩ sm)(hr:mr i=.hand keep):L=false/\W=false/\S=true/\0<n/\(keep=true->2<=n):=by
 have b:=ym mr hi;have a:=h;unfold br at a;rw [cV]at a;simp only [hr,cy,bz,bA,cE,bU,cw,bM,bN,cF]at b;cases L<;>cases W<;>cases S<;>cases keep<;>simp [jM]at a b⊢<;>omega
theorem amT{j:Nat}(hi:i<N)(hj:j<N)(h:br N mr ⟨L,W,S,n⟩ sm)(hr:mr i=.hold)(hq:mr j=.hold):i=j:=by
 by_cases e:i=j
 ·exact e
 have d:=(amR mr .out hi).1;have b:=(ym (upd mr i .out) hj).1;rw [upd_ne mr .out (fun x=>e x.symm)]at b;have a:=h.hold;simp [hr,hq,cy]at a b d;cases L<;>simp at a<;>omega
theorem BG(h:br N mr ⟨L,W,S,n⟩ sm):n<=N/\sm<=N:=by
 have a:=h;unfold br at a;rw [cV]at a;have hq:∀i,bz (mr i)+bA (mr i)+bU (mr i)<=1:=fun i=>by cases mr i<;>simp [bz,bA,bU]
 have hs:(cJ N mr).Q+(cJ N mr).K+(cJ N mr).D<=N:=by
  have e:∀M,sumTo M (fun i=>bz (mr i))+sumTo M (fun i=>bA (mr i))+sumTo M (fun i=>bU (mr i))<=M:=by
   intro M;induction M with
   |zero=>simp [sumTo]
   |succ M ih=>have:=hq M;simp only [sumTo];omega
  exact e N
 cases L<;>cases W<;>cases S<;>simp [jM]at a<;>omega
theorem axt(hi:i<N)(h:br N mr ⟨L,W,S,n⟩ 0)(hr:mr i=.queue):∃j,j<N/\mr j≠.out/\mr j≠.queue:=by
 by_cases hn:∃j,j<N/\mr j≠.out/\mr j≠.queue
 ·exact hn
 exfalso;have z:∀(f:MR->Nat),f .out=0->f .queue=0->sumTo N (fun i=>f (mr i))=0:=fun f h1 h2=>by
  rcases Nat.eq_zero_or_pos (sumTo N fun i=>f (mr i))with e|e
  ·exact e
  ·obtain⟨j,j1,j2⟩:=xv e;exfalso;by_cases e1:mr j=.out
   ·rw [e1,h1]at j2;omega
   by_cases e2:mr j=.queue
   ·rw [e2,h2]at j2;omega
   exact hn ⟨j,j1,e1,e2⟩
 have z1:(cJ N mr).H=0:=z cy rfl rfl;have z2:(cJ N mr).K=0:=z bA rfl rfl;have z3:(cJ N mr).T=0:=z cE rfl rfl;have z4:(cJ N mr).D=0:=z bU rfl rfl;have z5:(cJ N mr).G0=0:=z bM rfl rfl;have z6:(cJ N mr).G1=0:=z bN rfl rfl;have z7:(cJ N mr).R=0:=z cF rfl rfl;have b:=(ym mr hi).2.1;have a:=h;unfold br at a;rw [cV]at a;simp only [hr,bz]at b;cases L<;>cases W<;>cases S<;>simp [jM]at a b<;>omega
end
open Go.ConcN (sumTo upd upd_same upd_ne)
inductive LP where
 |yJ|ld (aw sv:Bool) (it:Nat)|oq (old:Wd) (it:Nat)|main (aw sv:Bool) (old:Wd) (it:Nat)|yK|ldw|hand (keep:Bool)
 |add|uld|sA (n:Nat)|sB (h:Bool)
def LP.role:LP->MR
 |.yJ=>.out
 |.ld aw _ _=>.tries aw
 |.oq _ _=>.tries false
 |.main aw _ _ _=>.tries aw
 |.yK=>.queue
 |.ldw=>.woken
 |.hand k=>.hand k
 |.add=>.hold
 |.uld|.sA _=>.GY
 |.sB h=>.tB h
def LP.ok:LP->Prop
 |.ld aw sv it=>(sv=true->aw=true)/\it<=4
 |.oq old it=>old.L=true/\old.W=false/\old.S=false/\old.n≠0/\it<4
 |.main aw sv old it=>(sv=true->aw=true)/\(aw=true->old.W=true/\old.S=false)/\it<=4
 |.sA n=>n≠0
 |_=>True
structure Told(r:MR)(wd:Wd):Prop where
 n:wd.n<32
 n31:wd.n<31
 aw:r=.tries true->wd.W=true/\wd.S=false
 woken:r=.woken->(wd.S=true->wd.L=false/\wd.W=false/\0<wd.n)/\(wd.S=false->wd.W=true)
 hold:r=.hold->wd.L=true
 hand:∀k,r=.hand k->wd.L=false/\wd.W=false/\wd.S=true/\0<wd.n/\(k=true->2<=wd.n)
def LP.unl:LP->Prop
 |.add|.uld|.sA _|.sB _=>True
 |_=>False
inductive To where
 |on (p:LP->Prop)|held|off
inductive Out:LP->Wd->Nat->Wd->Nat->MR->To->Prop
 |BH {sm:Nat}:Out .yJ ⟨false,false,false,0⟩ sm ⟨true,false,false,0⟩ sm .hold .held
 |qQ {sm:Nat} {wd:Wd} (h:wd≠⟨false,false,false,0⟩):Out .yJ wd sm wd sm (.tries false) (.on fun p=>p=.ld false false 0)
 |ld {sm:Nat} {wd:Wd} {it:Nat} {aw:Bool} {sv:Bool}:Out (.ld aw sv it) wd sm wd sm (.tries aw) (.on fun p=>p=.main aw sv wd it\/(it<4/\wd.L=true/\wd.S=false/\(p=.ld aw sv (it+1)\/(aw=false/\wd.W=false/\wd.n≠0/\p=.oq wd it))))
 |tC {sm:Nat} {wd:Wd} {it:Nat}:Out (.oq wd it) wd sm ⟨wd.L,true,wd.S,wd.n⟩ sm (.tries true) (.on fun p=>p=.ld true false (it+1))
 |qR {sm:Nat} {wd:Wd} {old:Wd} {it:Nat} (h:wd≠old):Out (.oq old it) wd sm wd sm (.tries false) (.on fun p=>p=.ld false false (it+1))
 |xw {sm:Nat} {wd:Wd} {it:Nat} {aw:Bool} {sv:Bool} (h:wd.L=false/\wd.S=false):Out (.main aw sv wd it) wd sm ⟨true,wd.W&&!aw,false,wd.n⟩ sm .hold .held
 |tD {sm:Nat} {wd:Wd} {it:Nat} {aw:Bool} {sv:Bool} (h:wd.L=true\/wd.S=true):Out (.main aw sv wd it) wd sm ⟨if wd.S then wd.L else true,wd.W&&!aw,wd.S||(sv&&wd.L),wd.n+1⟩ sm .queue (.on fun p=>p=.yK)
 |qS {sm:Nat} {wd:Wd} {old:Wd} {it:Nat} {aw:Bool} {sv:Bool} (h:wd≠old):Out (.main aw sv old it) wd sm wd sm (.tries aw) (.on fun p=>p=.ld aw sv it)
 |yK {sm:Nat} {wd:Wd}:Out .yK wd (sm+1) wd sm .woken (.on fun p=>p=.ldw)
 |l5 {sm:Nat} {wd:Wd} (h:wd.S=false):Out .ldw wd sm wd sm (.tries true) (.on fun p=>∃sv,p=.main true sv wd 0\/(wd.L=true/\p=.ld true sv 1))
 |tE {sm:Nat} {wd:Wd} {keep:Bool} (h:wd.S=true) (hk:keep=true->wd.n≠1):Out .ldw wd sm wd sm (.hand keep) (.on fun p=>p=.hand keep)
 |hand {sm:Nat} {wd:Wd} {keep:Bool}:Out (.hand keep) wd sm ⟨true,false,keep,wd.n-1⟩ sm .hold .held
 |GZ {sm:Nat} {wd:Wd} (h:wd.S=false) (hz:wd.n=0\/wd.W=true):Out .add wd sm ⟨false,wd.W,false,wd.n⟩ sm .out .off
 |tF {sm:Nat} {wd:Wd} (h:wd.S=false) (hz:wd.n≠0/\wd.W=false):Out .add wd sm ⟨false,false,false,wd.n⟩ sm .GY (.on fun p=>p=.sA wd.n)
 |tG {sm:Nat} {wd:Wd} (h:wd.S=true):Out .add wd sm ⟨false,wd.W,true,wd.n⟩ sm (.tB true) (.on fun p=>p=.sB true)
 |G2 {sm:Nat} {wd:Wd} (h:wd.n=0\/wd.L=true\/wd.W=true\/wd.S=true):Out .uld wd sm wd sm .out .off
 |G3 {sm:Nat} {wd:Wd} (h:wd.n≠0) (h':wd.L=false/\wd.W=false/\wd.S=false):Out .uld wd sm wd sm .GY (.on fun p=>p=.sA wd.n)
 |tH {sm:Nat} {n:Nat}:Out (.sA (n+1)) ⟨false,false,false,n+1⟩ sm ⟨false,true,false,n⟩ sm (.tB false) (.on fun p=>p=.sB false)
 |qT {sm:Nat} {wd:Wd} {n:Nat} (h:wd≠⟨false,false,false,n⟩):Out (.sA n) wd sm wd sm .GY (.on fun p=>p=.uld)
 |sB {h:Bool} {sm:Nat} {wd:Wd}:Out (.sB h) wd sm wd (sm+1) .out .off
theorem gn{α:Type}{f:Nat->α}{i:Nat}{x:α}(h:f i=x):upd f i x=f:=by
 funext a;by_cases e:a=i
 ·subst e;rw [upd_same,h]
 ·rw [upd_ne _ _ e]
section
variable {wd iZ:Wd} {iN:Nat} {p:LP} {r':MR} {to:To}
theorem axv(hN:N<31)(hi:i<N)(h:br N mr wd sm):Told (mr i) wd:=by
 obtain⟨L,W,S,n⟩:=wd;refine⟨Nat.lt_of_le_of_lt (BG h).1 (by omega),Nat.lt_of_le_of_lt (BG h).1 hN,fun hr=>NY hi h hr,fun hr=>⟨fun hs=>?_,fun hs=>?_⟩,fun hr=>ja hi h hr,fun k hr=>rU hi h hr⟩
 ·simp only at hs;subst hs;exact E2 hi h hr
 ·simp only at hs;subst hs;exact BF hi h hr
theorem Out.keeps(o:Out p wd sm iZ iN r' to)(hp:p.ok)(hi:i<N)(h:br N mr wd sm)(hr:mr i=p.role):br N (upd mr i r') iZ iN:=by
 cases o with
 |BH=>exact axm hi h hr
 |qQ _=>obtain⟨L,W,S,n⟩:=wd;exact aDY hi h hr
 |ld=>have e:=gn hr;simp only [LP.role]at e;rw [e];exact h
 |tC=>
  obtain⟨L,W,S,n⟩:=wd;obtain⟨h1,h2,h3,_⟩:=hp;simp only at h1 h2 h3;subst h1 h2 h3;exact axn hi h hr
 |qR _=>have e:=gn hr;simp only [LP.role]at e;rw [e];exact h
 |xw hz=>obtain⟨L,W,S,n⟩:=wd;obtain⟨h1,h2⟩:=hz;simp only at h1 h2;subst h1 h2;exact aDZ hi h hr
 |tD hz=>obtain⟨L,W,S,n⟩:=wd;exact aD0 hi h hr hz hp.1
 |qS _=>have e:=gn hr;simp only [LP.role]at e;rw [e];exact h
 |yK=>obtain⟨L,W,S,n⟩:=wd;exact axo hi h hr
 |l5 hz=>obtain⟨L,W,S,n⟩:=wd;simp only at hz;subst hz;exact axp hi h hr
 |tE hz hk=>obtain⟨L,W,S,n⟩:=wd;simp only at hz;subst hz;exact axq hi h hr hk
 |hand=>obtain⟨L,W,S,n⟩:=wd;have:=(rU hi h hr).2.1;subst this;exact axr hi h hr
 |GZ hz hq=>obtain⟨L,W,S,n⟩:=wd;have:=ja hi h hr;simp only at hz;subst hz this;exact Vd hi h hr hq
 |tF hz hq=>obtain⟨L,W,S,n⟩:=wd;have:=ja hi h hr;obtain⟨_,h2⟩:=hq;simp only at hz h2;subst hz h2 this;exact NV hi h hr
 |tG hz=>obtain⟨L,W,S,n⟩:=wd;have:=ja hi h hr;simp only at hz;subst hz this;exact NW hi h hr
 |G2 hz=>obtain⟨L,W,S,n⟩:=wd;exact NX hi h hr hz
 |G3 _ _=>have e:=gn hr;simp only [LP.role]at e;rw [e];exact h
 |tH=>exact axs hi h hr
 |qT _=>have e:=gn hr;simp only [LP.role]at e;rw [e];exact h
 |sB=>obtain⟨L,W,S,n⟩:=wd;exact amS hi h hr
end
theorem Out.aPl{p:LP}{wd iZ:Wd}{sm iN:Nat}{r':MR}{to:To}(o:Out p wd sm iZ iN r' to):(∃h,p=.sB h)\/iN<=sm:=by
 cases o<;>first|exact .inl ⟨_,rfl⟩|(right;omega)
theorem Out.Ve{p p':LP}{wd iZ:Wd}{sm iN:Nat}{r':MR}{q:LP->Prop}(o:Out p wd sm iZ iN r' (.on q))(hq:q p'):r'≠.out/\(p'.unl->p.unl):=by
 cases o with
 |ld=>rcases hq with rfl|⟨_,_,_,rfl|⟨_,_,_,rfl⟩⟩<;>exact⟨by simp,id⟩
 |l5 _=>obtain⟨sv,rfl|⟨_,rfl⟩⟩:=hq<;>exact⟨by simp,id⟩
 |_=>subst hq;exact⟨by simp,id⟩
theorem Out.held{p:LP}{wd iZ:Wd}{sm iN:Nat}{r':MR}(o:Out p wd sm iZ iN r' .held):r'=.hold:=by cases o<;>rfl
theorem Out.off{p:LP}{wd iZ:Wd}{sm iN:Nat}{r':MR}(o:Out p wd sm iZ iN r' .off):r'=.out/\p.unl:=by cases o<;>exact⟨rfl,trivial⟩
def MR.worth:MR->Nat
 |.out=>0|.tries false=>26|.tries true=>25|.queue=>24|.woken=>33|.hand _=>30|.hold=>20|.GY=>19|.tB _=>18
def LP.ot(wd:Wd):LP->Nat
 |.ld _ _ it=>10*(5-it)+5
 |.oq old it=>if wd=old then 0 else 10*(5-it)+4
 |.main _ _ old it=>if wd=old then 0 else 10*(5-it)+7
 |.sA n=>if wd=⟨false,false,false,n⟩then 0 else 2
 |.uld=>1
 |_=>0
def LP.worth:LP->Nat
 |.yJ=>40
 |p=>p.role.worth
theorem LP.G5(wd:Wd)(p:LP):p.ot wd<=57:=by cases p<;>simp only [LP.ot]<;>(try split)<;>omega
theorem Out.lowers{p:LP}{wd iZ:Wd}{sm iN:Nat}{r':MR}{to:To}(o:Out p wd sm iZ iN r' to)(hp:p.ok):
  (r'.worth+10*iN<p.worth+10*sm)\/(iZ=wd/\iN=sm/\r'=p.role/\∃q,to=.on q/\∀p',q p'->p'.ot wd<p.ot wd):=by
 cases o with
 |BH=>left;simp [LP.worth,MR.worth,LP.role]
 |qQ _=>left;simp [LP.worth,MR.worth,LP.role]
 |ld=>
  right;refine⟨rfl,rfl,rfl,_,rfl,fun p' hq=>?_⟩;rcases hq with rfl|⟨h4,_,_,rfl|⟨_,_,_,rfl⟩⟩
  ·simp [LP.ot]
  ·simp only [LP.ot];omega
  ·simp [LP.ot]
 |tC=>left;simp [LP.worth,MR.worth,LP.role]
 |qR hn=>
  right;refine⟨rfl,rfl,rfl,_,rfl,fun p' hq=>?_⟩;subst hq;have:=hp.2.2.2.2;simp only [LP.ot,hn,if_false];omega
 |@xw _ _ _ aw _ _=>left;cases aw<;>simp [LP.worth,MR.worth,LP.role]
 |@tD _ _ _ aw _ _=>left;cases aw<;>simp [LP.worth,MR.worth,LP.role]
 |qS hn=>
  right;refine⟨rfl,rfl,rfl,_,rfl,fun p' hq=>?_⟩;subst hq;simp only [LP.ot,hn,if_false];omega
 |yK=>left;simp [LP.worth,MR.worth,LP.role];omega
 |l5 _=>left;simp [LP.worth,MR.worth,LP.role]
 |tE _ _=>left;simp [LP.worth,MR.worth,LP.role]
 |hand=>left;simp [LP.worth,MR.worth,LP.role]
 |GZ _ _=>left;simp [LP.worth,MR.worth,LP.role]
 |tF _ _=>left;simp [LP.worth,MR.worth,LP.role]
 |tG _=>left;simp [LP.worth,MR.worth,LP.role]
 |G2 _=>left;simp [LP.worth,MR.worth,LP.role]
 |G3 _ h'=>
  right;refine⟨rfl,rfl,rfl,_,rfl,fun p' hq=>?_⟩;subst hq;obtain⟨L,W,S,n⟩:=wd;obtain⟨h1,h2,h3⟩:=h';simp only at h1 h2 h3;subst h1 h2 h3;simp [LP.ot]
 |tH=>left;simp [LP.worth,MR.worth,LP.role]
 |qT hn=>
  right;refine⟨rfl,rfl,rfl,_,rfl,fun p' hq=>?_⟩;subst hq;simp [LP.ot,hn]
 |sB=>left;simp [LP.worth,MR.worth,LP.role];omega
theorem Out.oks{p p':LP}{wd iZ:Wd}{sm iN:Nat}{r':MR}{q:LP->Prop}(o:Out p wd sm iZ iN r' (.on q))(hp:p.ok)(ht:Told p.role wd)(hq:q p'):p'.ok/\p'.role=r':=by
 cases o with
 |qQ _=>subst hq;exact⟨⟨by simp,by omega⟩,rfl⟩
 |ld=>
  rcases hq with rfl|⟨h4,hL,hS,rfl|⟨rfl,h1,h2,rfl⟩⟩
  ·exact⟨⟨hp.1,fun ha=>ht.aw (by simp [LP.role,ha]),hp.2⟩,rfl⟩
  ·exact⟨⟨hp.1,by omega⟩,rfl⟩
  ·exact⟨⟨hL,h1,hS,h2,h4⟩,rfl⟩
 |tC=>subst hq;exact⟨⟨by simp,by have:=hp.2.2.2.2;omega⟩,rfl⟩
 |qR _=>subst hq;exact⟨⟨by simp,by have:=hp.2.2.2.2;omega⟩,rfl⟩
 |tD _=>subst hq;exact⟨trivial,rfl⟩
 |qS _=>subst hq;exact⟨⟨hp.1,hp.2.2⟩,rfl⟩
 |yK=>subst hq;exact⟨trivial,rfl⟩
 |l5 hS=>
  obtain⟨sv,rfl|⟨_,rfl⟩⟩:=hq
  ·exact⟨⟨fun _=>rfl,fun _=>⟨(ht.woken rfl).2 hS,hS⟩,by omega⟩,rfl⟩
  ·exact⟨⟨fun _=>rfl,by omega⟩,rfl⟩
 |tE _ _=>subst hq;exact⟨trivial,rfl⟩
 |tF _ hz=>subst hq;exact⟨hz.1,rfl⟩
 |tG _=>subst hq;exact⟨trivial,rfl⟩
 |G3 h _=>subst hq;exact⟨h,rfl⟩
 |tH=>subst hq;exact⟨trivial,rfl⟩
 |qT _=>subst hq;exact⟨trivial,rfl⟩
end Go.Proofs.YtmcddajniiaieaaGreatDoor
namespace Go.Proofs.YtmcddajniiaieaaGreatDoor.Sim
open Go Go.Conc
variable {F:FuncId->Bool} {U:Nat->Prop} {n n':Nat} {P:Program} {w':World} {fr:Frame} {cs:List Frame}
section
abbrev dF:=Nat->Nat
def ra(ρ:dF)(a:Addr):Addr:={a with block:=ρ a.block}
@[simp] theorem amV(ρ:dF)(a:Addr):(ra ρ a).off=a.off:=rfl
@[simp] theorem axw(ρ:dF)(a:Addr):(ra ρ a).spot=a.spot:=rfl
@[simp] theorem amW(ρ:dF)(a:Addr):(ra ρ a).block=ρ a.block:=rfl
theorem xy(ρ:dF)(a:Addr)(k:Nat):ra ρ (a.add k)=(ra ρ a).add k:=by
 unfold Addr.add;split<;>rfl
theorem axx(a:Addr)(k:Nat):(a.add k).block=a.block:=by
 unfold Addr.add;split<;>rfl
def HA(U:Nat->Prop)(n:Nat)(a:Addr):Prop:=a.block<n/\U a.block
inductive VR(F:FuncId->Bool)(U:Nat->Prop)(ρ:dF)(n:Nat):Value->Value->Prop
 |bool (b:Bool):VR F U ρ n (.bool b) (.bool b)
 |int (k:IntKind) (x:Int):VR F U ρ n (.int k x) (.int k x)
 |string (s:ByteArray):VR F U ρ n (.string s) (.string s)
 |gZ:VR F U ρ n (.pointer none) (.pointer none)
 |ptr (a:Addr) (h:HA U n a):VR F U ρ n (.pointer (some a)) (.pointer (some (ra ρ a)))
 |dU (l c:Nat):VR F U ρ n (.slice none l c) (.slice none l c)
 |slice (a:Addr) (l c:Nat) (h:HA U n a):VR F U ρ n (.slice (some a) l c) (.slice (some (ra ρ a)) l c)
 |func (f:FuncId) (h:F f=true):VR F U ρ n (.func (.func f) #[] #[]) (.func (.func f) #[] #[])
 |nilFunc:VR F U ρ n .nilFunc .nilFunc
 |agg (cs cL:Array Value) (hs:cs.size=cL.size) (h:∀i,i<cs.size->VR F U ρ n (cs.getD i undef) (cL.getD i undef)):VR F U ρ n (.agg cs) (.agg cL)
 |tuple (cs cL:Array Value) (hs:cs.size=cL.size) (h:∀i,i<cs.size->VR F U ρ n (cs.getD i undef) (cL.getD i undef)):VR F U ρ n (.tuple cs) (.tuple cL)
structure AR(F:FuncId->Bool)(U:Nat->Prop)(ρ:dF)(n:Nat)(cs cL:Array Value):Prop where
 size:cs.size=cL.size
 at_:∀i,i<cs.size->VR F U ρ n (cs.getD i undef) (cL.getD i undef)
structure Ext(ρ:dF)(n:Nat)(db:dF)(n':Nat):Prop where
 le:n<=n'
 old:∀r,r<n->db r=ρ r
theorem Ext.refl(ρ:dF)(n:Nat):Ext ρ n ρ n:=⟨Nat.le_refl _,fun _ _=>rfl⟩
theorem Ext.trans{ρ db akG:dF}{n n' n'':Nat}(h:Ext ρ n db n')(k:Ext db n' akG n''):Ext ρ n akG n'':=
 ⟨Nat.le_trans h.le k.le,fun r hr=>(k.old r (Nat.lt_of_lt_of_le hr h.le)).trans (h.old r hr)⟩
variable {ρ db:dF}
theorem VR.undef:VR F U ρ n Go.undef Go.undef:=.tuple _ _ rfl (fun i hi=>absurd hi (Nat.not_lt_zero _))
theorem dp(e:Ext ρ n db n'){a:Addr}(h:HA U n a):ra db a=ra ρ a:=by unfold ra;rw [e.old _ h.1]
theorem HA.ext(e:Ext ρ n db n'){a:Addr}(h:HA U n a):HA U n' a:=⟨Nat.lt_of_lt_of_le h.1 e.le,h.2⟩
theorem HA.add{a:Addr}(h:HA U n a)(k:Nat):HA U n (a.add k):=by unfold HA;rw [axx];exact h
theorem VR.ext{v v':Value}(h:VR F U ρ n v v')(e:Ext ρ n db n'):VR F U db n' v v':=by
 induction h with
 |bool b=>exact .bool b
 |int k x=>exact .int k x
 |string s=>exact .string s
 |gZ=>exact .gZ
 |ptr a h=>rw [←dp e h];exact .ptr a (h.ext e)
 |dU l c=>exact .dU l c
 |slice a l c h=>rw [←dp e h];exact .slice a l c (h.ext e)
 |func f h=>exact .func f h
 |nilFunc=>exact .nilFunc
 |agg cs cL hs _ ih=>exact .agg cs cL hs ih
 |tuple cs cL hs _ ih=>exact .tuple cs cL hs ih
theorem AR.ext{cs cL:Array Value}(h:AR F U ρ n cs cL)(e:Ext ρ n db n'):AR F U db n' cs cL:=⟨h.size,fun i hi=>(h.at_ i hi).ext e⟩
theorem AR.getD{cs cL:Array Value}(h:AR F U ρ n cs cL)(i:Nat):VR F U ρ n (cs.getD i Go.undef) (cL.getD i Go.undef):=by
 by_cases hi:i<cs.size
 ·exact h.at_ i hi
 ·have h':¬i<cL.size:=by rw [←h.size];exact hi
  simp only [Array.getD,hi,h',dite_false];exact VR.undef
theorem AR.nil:AR F U ρ n #[] #[]:=⟨rfl,fun i hi=>absurd hi (Nat.not_lt_zero _)⟩
theorem iO{cs:Array Value}{i:Nat}{v:Value}(h:cs[i]? =some v):cs.getD i Go.undef=v:=by
 rw [Array.getD_eq_getD_getElem?,h];rfl
theorem AR.get?{cs cL:Array Value}(h:AR F U ρ n cs cL){i:Nat}{v:Value}(hv:cs[i]? =some v):∃v',cL[i]? =some v'/\VR F U ρ n v v':=by
 have hi:i<cs.size:=(Array.getElem?_eq_some_iff.1 hv).1;have ou:i<cL.size:=by rw [←h.size];exact hi
 refine⟨cL[i],Array.getElem?_eq_getElem ou,?_⟩;have:=h.at_ i hi;rw [iO hv,iO (Array.getElem?_eq_getElem ou)]at this;exact this
theorem AR.none{cs cL:Array Value}(h:AR F U ρ n cs cL){i:Nat}(hv:cs[i]? =none):cL[i]? =none:=by
 rw [Array.getElem?_eq_none_iff]at*;rw [←h.size];exact hv
theorem AR.lK{cs cL:Array Value}(hs:cs.size=cL.size)(h:∀(i:Nat) (v v':Value),cs[i]? =some v->cL[i]? =some v'->VR F U ρ n v v'):AR F U ρ n cs cL:=
 ⟨hs,fun i hi=>by
  have ou:i<cL.size:=by rw [←hs];exact hi
  rw [iO (Array.getElem?_eq_getElem hi),iO (Array.getElem?_eq_getElem ou)];exact h i _ _ (Array.getElem?_eq_getElem hi) (Array.getElem?_eq_getElem ou)⟩
theorem AR.set{cs cL:Array Value}(h:AR F U ρ n cs cL){v v':Value}(hv:VR F U ρ n v v')(i:Nat):AR F U ρ n (cs.setIfInBounds i v) (cL.setIfInBounds i v'):=by
 refine .lK (by simp [h.size]) fun j x x' hx jc=>?_
 rw [Array.getElem?_setIfInBounds]at hx jc;by_cases hij:i=j
 ·subst hij;rw [if_pos rfl]at hx jc;split at hx
  ·split at jc
   ·cases hx;cases jc;exact hv
   ·cases jc
  ·cases hx
 ·rw [if_neg hij]at hx jc;obtain⟨y,hy,hyv⟩:=h.get? hx;rw [jc]at hy;cases hy;exact hyv
theorem AR.push{cs cL:Array Value}(h:AR F U ρ n cs cL){v v':Value}(hv:VR F U ρ n v v'):AR F U ρ n (cs.push v) (cL.push v'):=by
 refine .lK (by simp [h.size]) fun j x x' hx jc=>?_
 rw [Array.getElem?_push]at hx jc;by_cases hj:j=cs.size
 ·rw [if_pos hj]at hx;rw [if_pos (hj.trans h.size)]at jc;cases hx;cases jc;exact hv
 ·rw [if_neg hj]at hx;rw [if_neg (by rw [←h.size];exact hj)]at jc
  obtain⟨y,hy,hyv⟩:=h.get? hx;rw [jc]at hy;cases hy;exact hyv
theorem AR.append{cs cL ds ds':Array Value}(h:AR F U ρ n cs cL)(k:AR F U ρ n ds ds'):AR F U ρ n (cs++ds) (cL++ds'):=by
 refine .lK (by simp [h.size,k.size]) fun j x x' hx jc=>?_
 rw [Array.getElem?_append]at hx jc;by_cases hj:j<cs.size
 ·rw [if_pos hj]at hx;rw [if_pos (by rw [←h.size];exact hj)]at jc
  obtain⟨y,hy,hyv⟩:=h.get? hx;rw [jc]at hy;cases hy;exact hyv
 ·rw [if_neg hj]at hx;rw [if_neg (by rw [←h.size];exact hj),←h.size]at jc
  obtain⟨y,hy,hyv⟩:=k.get? hx;rw [jc]at hy;cases hy;exact hyv
theorem AR.extract{cs cL:Array Value}(h:AR F U ρ n cs cL)(i j:Nat):AR F U ρ n (cs.extract i j) (cL.extract i j):=by
 refine .lK (by simp [h.size]) fun k x x' hx jc=>?_
 rw [Array.getElem?_extract]at hx jc;split at hx
 ·split at jc
  ·obtain⟨y,hy,hyv⟩:=h.get? hx;rw [jc]at hy;cases hy;exact hyv
  ·cases jc
 ·cases hx
theorem AR.one{v v':Value}(hv:VR F U ρ n v v'):AR F U ρ n #[v] #[v']:=AR.nil.push hv
theorem VR.cells{v v':Value}(h:VR F U ρ n v v'):AR F U ρ n v.cells v'.cells:=by
 cases h with
 |agg cs cL hs h=>exact⟨hs,h⟩
 |_=>exact AR.one (by constructor<;>assumption)
def upd(ρ:dF)(n:Nat)(r:Nat):dF:=fun i=>if i=n then r else ρ i
theorem Ext.upd(r:Nat):Ext ρ n (upd ρ n r) (n+1):=⟨Nat.le_succ _,fun i hi=>by simp [Sim.upd,Nat.ne_of_lt hi]⟩
@[simp] theorem upd_same(r:Nat):upd ρ n r n=r:=by simp [upd]
def kh:Halt->Bool
 |.panic _|.stuck _=>true
 |.unsupported (.initOrder _)=>false
 |.unsupported _=>true
 |_=>false
def ov(P:Program){α:Type}(s:Sem α)(w:World):Prop:=∃e w',s.run P w=.halt e w'/\kh e=true
def cq(P:Program){α:Type}(s:Sem α):Prop:=∀w e w',s.run P w=.halt e w'->kh e=true
def Plain(U:Nat->Prop)(n:Nat)(w:World):Prop:=∀(r:Nat) (o:Obj),w.heap[r]? =some o->(∃c e fr,o=.cells c e fr)\/∃a l,o=.number a l/\HA U n a
inductive aQ{α β:Type}(P:Program)(F:FuncId->Bool)(U:Nat->Prop)(A:dF->Nat->α->β->Prop):dF->Nat->Sem α->Sem β->Prop
 |pure {ρ:dF} {n:Nat} {a:α} {b:β} (h:A ρ n a b):aQ P F U A ρ n (.pure a) (.pure b)
 |dead {ρ:dF} {n:Nat} {s:Sem α} {s':Sem β} (h:∀w,Plain U n w->ov P s w):aQ P F U A ρ n s s'
 |load {ρ:dF} {n:Nat} {a:Addr} {k:Value->Sem α} {k':Value->Sem β} (ha:HA U n a) (h:∀v v',VR F U ρ n v v'->aQ P F U A ρ n (k v) (k' v')):aQ P F U A ρ n (.load .plain a k) (.load .plain (ra ρ a) k')
 |store {ρ:dF} {n:Nat} {a:Addr} {v v':Value} {k:Sem α} {k':Sem β} (ha:HA U n a) (hv:VR F U ρ n v v') (h:aQ P F U A ρ n k k'):aQ P F U A ρ n (.store .plain a v k) (.store .plain (ra ρ a) v' k')
 |new {ρ:dF} {n:Nat} {c c':Array Value} {e:TypeId} {k:Nat->Sem α} {k':Nat->Sem β} (ho:AR F U ρ n c c') (h:∀r',U n->aQ P F U A (upd ρ n r') (n+1) (k n) (k' r')):aQ P F U A ρ n (.new (.cells c e) k) (.new (.cells c' e) k')
 |ow {ρ:dF} {n:Nat} {a:Addr} {l:Bool} {k:Nat->Sem α} {k':Nat->Sem β} (ha:HA U n a) (h:∀r',U n->aQ P F U A (upd ρ n r') (n+1) (k n) (k' r')):aQ P F U A ρ n (.new (.number a l) k) (.new (.number (ra ρ a) l) k')
 |shape {ρ:dF} {n:Nat} {r:Nat} {k:Option (TypeId×Nat)->Sem α} {k':Option (TypeId×Nat)->Sem β} (hr:r<n) (hU:U r) (h:∀x,aQ P F U A ρ n (k x) (k' x)):aQ P F U A ρ n (.shape r k) (.shape (ρ r) k')
 |getObj {ρ:dF} {n:Nat} {r:Nat} {k:Obj->Sem α} {k':Obj->Sem β} (hr:r<n) (hU:U r) (h:∀a l,HA U n a->aQ P F U A ρ n (k (.number a l)) (k' (.number (ra ρ a) l))):aQ P F U A ρ n (.getObj r k) (.getObj (ρ r) k')
 |choose {ρ:dF} {n:Nat} {q:Question} {k:Nat->Sem α} {k':Nat->Sem β} (h:∀t,aQ P F U A ρ n (k t) (k' t)):aQ P F U A ρ n (.choose q k) (.choose q k')
 |program {ρ:dF} {n:Nat} {k:Program->Sem α} {k':Program->Sem β} (h:aQ P F U A ρ n (k P) (k' P)):aQ P F U A ρ n (.program k) (.program k')
 |noRoom {ρ:dF} {n:Nat} {k:Sem α} {k':Sem β} (h:aQ P F U A ρ n k k'):aQ P F U A ρ n (.mark .noRoom k) (.mark .noRoom k')
section
variable {α β γ δ:Type} {A:dF->Nat->α->β->Prop} {B:dF->Nat->γ->δ->Prop}
theorem aQ.bind'{s:Sem α}{s':Sem β}(h:aQ P F U A ρ n s s'){f:α->Sem γ}{f':β->Sem δ}
  (hf:∀db n' a b,Ext ρ n db n'->A db n' a b->aQ P F U B db n' (f a) (f' b)):aQ P F U B ρ n (s.bind f) (s'.bind f'):=by
 induction h with
 |pure h=>exact hf _ _ _ _ (.refl _ _) h
 |dead h=>
  refine .dead fun w hp=>?_;obtain⟨e,w',hw,hf⟩:=h w hp;exact⟨e,w',by rw [Sem.run_bind',hw];rfl,hf⟩
 |load ha _ ih=>exact .load ha fun v v' hv=>ih v v' hv hf
 |store ha hv _ ih=>exact .store ha hv (ih hf)
 |new ho _ ih=>exact .new ho fun r' hU=>ih r' hU fun db n' a b e=>hf db n' a b ((Ext.upd r').trans e)
 |ow ha _ ih=>exact .ow ha fun r' hU=>ih r' hU fun db n' a b e=>hf db n' a b ((Ext.upd r').trans e)
 |shape hr hU _ ih=>exact .shape hr hU fun x=>ih x hf
 |getObj hr hU _ ih=>exact .getObj hr hU fun a l ha=>ih a l ha hf
 |choose _ ih=>exact .choose fun t=>ih t hf
 |program _ ih=>exact .program (ih hf)
 |noRoom _ ih=>exact .noRoom (ih hf)
theorem aQ.bind{s:Sem α}{s':Sem β}(h:aQ P F U A ρ n s s'){f:α->Sem γ}{f':β->Sem δ}
  (hf:∀db n' a b,Ext ρ n db n'->A db n' a b->aQ P F U B db n' (f a) (f' b)):aQ P F U B ρ n (s>>=f) (s'>>=f'):=h.bind' hf
theorem aQ.stuck(why:String)(s':Sem β):aQ P F U A ρ n (Go.stuck why) s':=.dead fun w _=>⟨_,w,rfl,rfl⟩
theorem aQ.halt(e:Halt)(s':Sem β)(h:kh e=true:=by rfl):aQ P F U A ρ n (.halt e) s':=.dead fun w _=>⟨_,w,rfl,h⟩
theorem aQ.unsupported(u:Unsupported)(s':Sem β)(h:kh (.unsupported u)=true:=by rfl):aQ P F U A ρ n (Go.unsupported u) s':=.dead fun w _=>⟨_,w,rfl,h⟩
end
end
variable {ρ db:dF}
def yV:Obj:=.cells #[] 0 (0,0)
def frz(fr:Nat×Nat)(i:Nat):Prop:=fr.1<=i/\i<fr.2
inductive OR(F:FuncId->Bool)(U:Nat->Prop)(ρ:dF)(n:Nat):Obj->Obj->Prop
 |cells (c c':Array Value) (e:TypeId) (fr eF:Nat×Nat) (h:AR F U ρ n c c') (hf:∀i,frz eF i->frz fr i):OR F U ρ n (.cells c e fr) (.cells c' e eF)
 |number (a:Addr) (l:Bool) (h:HA U n a):OR F U ρ n (.number a l) (.number (ra ρ a) l)
structure WR(F:FuncId->Bool)(U:Nat->Prop)(ρ:dF)(n:Nat)(w w':World):Prop where
 size:w.heap.size=n
 inj:∀r s,r<n->s<n->ρ r=ρ s->r=s
 lt:∀r,r<n->ρ r<w'.heap.size
 mask:∀r:Nat,r<n->¬U r->w.heap[r]? =some yV
 ok:∀r:Nat,n<=r->U r
 blk:∀r:Nat,r<n->U r->∃o o',w.heap[r]? =some o/\w'.heap[ρ r]? =some o'/\OR F U ρ n o o'
 tape:∀j,w.tape (w.drawn+j)=w'.tape (w'.drawn+j)
def EvD(U:Nat->Prop)(db:dF)(n':Nat)(e:Event):Prop:=
 (∃r off wr,r<n'/\U r/\e=⟨.cell ⟨db r,off,none⟩,wr,false⟩)\/(∃r,r<n'/\U r/\e=⟨.obj (db r),false,false⟩)\/e=⟨.mark .noRoom,false,true⟩
structure BA(U:Nat->Prop)(ρ:dF)(n:Nat)(db:dF)(n':Nat)(w w':World)(es:Array Event):Prop where
 tape:w'.tape=w.tape
 os:w'.os=w.os
 output:w'.output=w.output
 size:w.heap.size<=w'.heap.size
 frame:∀b:Nat,b<w.heap.size->(∀r,r<n->U r->ρ r≠b)->w'.heap[b]? =w.heap[b]?
 kind:∀(b:Nat) (c:Array Value) (e:TypeId) (fr:Nat×Nat),w.heap[b]? =some (.cells c e fr)->∃c':Array Value,w'.heap[b]? =some (.cells c' e fr)/\c'.size=c.size
 fresh:∀r,n<=r->r<n'->w.heap.size<=db r
 new:∀b:Nat,w.heap.size<=b->b<w'.heap.size->∃r,n<=r/\r<n'/\db r=b
 ev:∀e∈es,EvD U db n' e
section
variable {akG:dF} {n'':Nat} {w cO:World}
theorem BA.refl(w:World):BA U ρ n ρ n w w #[]:=
 ⟨rfl,rfl,rfl,Nat.le_refl _,fun _ _ _=>rfl,fun _ c _ _ h=>⟨c,h,rfl⟩,fun _ a b=>absurd b (Nat.not_lt.2 a),fun _ a b=>absurd b (Nat.not_lt.2 a),fun _ h=>absurd h (Array.not_mem_empty _)⟩
theorem BA.trans{es es':Array Event}(e1:Ext ρ n db n')(e2:Ext db n' akG n'')(h:BA U ρ n db n' w w' es)(k:BA U db n' akG n'' w' cO es'):BA U ρ n akG n'' w cO (es++es'):=by
 refine⟨k.tape.trans h.tape,k.os.trans h.os,k.output.trans h.output,Nat.le_trans h.size k.size,fun b hb hr=>?_,fun b c e fr hc=>?_,fun r h1 h2=>?_,fun b h1 h2=>?_,fun e he=>?_⟩
 ·rw [k.frame b (Nat.lt_of_lt_of_le hb h.size) fun r yL hm e=>?_,h.frame b hb hr];by_cases G6:r<n
  ·exact hr r G6 hm (by rw [←e1.old r G6];exact e)
  ·have:=h.fresh r (by omega) yL;omega
 ·obtain⟨c1,h1,s1⟩:=h.kind b c e fr hc;obtain⟨c2,h2,s2⟩:=k.kind b c1 e fr h1;exact⟨c2,h2,s2.trans s1⟩
 ·by_cases G6:r<n'
  ·rw [e2.old r G6];exact h.fresh r h1 G6
  ·exact Nat.le_trans h.size (k.fresh r (by omega) h2)
 ·by_cases hb:b<w'.heap.size
  ·obtain⟨r,r1,r2,r3⟩:=h.new b h1 hb;exact⟨r,r1,Nat.lt_of_lt_of_le r2 e2.le,by rw [e2.old r r2];exact r3⟩
  ·obtain⟨r,r1,r2,r3⟩:=k.new b (by omega) h2
   exact⟨r,Nat.le_trans e1.le r1,r2,r3⟩
 ·rcases Array.mem_append.1 he with he|he
  ·rcases h.ev e he with ⟨r,off,wr,h1,h2,h3⟩|⟨r,h1,h2,h3⟩|h3
   ·exact .inl ⟨r,off,wr,Nat.lt_of_lt_of_le h1 e2.le,h2,by rw [e2.old r h1];exact h3⟩
   ·exact .inr (.inl ⟨r,Nat.lt_of_lt_of_le h1 e2.le,h2,by rw [e2.old r h1];exact h3⟩)
   ·exact .inr (.inr h3)
  ·exact k.ev e he
theorem OR.ext{o o':Obj}(h:OR F U ρ n o o')(e:Ext ρ n db n'):OR F U db n' o o':=by
 cases h with
 |cells c c' e' fr eF h hf=>exact .cells c c' e' fr eF (h.ext e) hf
 |number a l h=>rw [←dp e h];exact .number a l (h.ext e)
theorem NZ{w:World}{a:Addr}{c:Array Value}{e:TypeId}{fr:Nat×Nat}(h:w.heap[a.block]? =some (.cells c e fr)):w.cell? a=if a.spot.isSome then none else c[a.off]? :=by
 simp [World.cell?,h]
theorem WR.cell(h:WR F U ρ n w w'){a:Addr}(ha:HA U n a){v:Value}(hv:w.cell? a=some v):a.spot=none/\∃v',w'.cell? (ra ρ a)=some v'/\VR F U ρ n v v':=by
 obtain⟨o,o',h1,h2,h3⟩:=h.blk _ ha.1 ha.2;cases h3 with
 |cells c c' e fr eF hc hf=>
  rw [NZ h1]at hv;split at hv
  ·cases hv
  ·rename_i hs;refine⟨by simpa using hs,?_⟩
   obtain⟨v',yM,hr⟩:=hc.get? hv;refine⟨v',?_,hr⟩;rw [NZ (a:=ra ρ a) h2];simpa [hs]using yM
 |number b l hb=>simp [World.cell?,h1]at hv
theorem WR.noCell(h:WR F U ρ n w w'){a:Addr}(ha:HA U n a){P:Program}{b:Bool}:∃e,w.farLoad P a b=.error e/\kh e=true:=by
 obtain⟨o,o',h1,_,h3⟩:=h.blk _ ha.1 ha.2;cases h3<;>(unfold World.farLoad World.noCell;rw [h1];exact⟨_,rfl,rfl⟩)
theorem WR.G7(h:WR F U ρ n w w'){a:Addr}(ha:HA U n a){P:Program}{b:Bool}{v:Value}:∃e,w.farStore P a v b=.error e/\kh e=true:=by
 obtain⟨o,o',h1,_,h3⟩:=h.blk _ ha.1 ha.2;cases h3<;>(unfold World.farStore World.noCell;rw [h1];exact⟨_,rfl,rfl⟩)
theorem WR.plain(h:WR F U ρ n w w'):Plain U n w:=by
 intro r o ho;have hr:r<n:=by rw [←h.size];exact(Array.getElem?_eq_some_iff.1 ho).1
 by_cases hu:U r
 ·obtain⟨o1,o',h1,_,h3⟩:=h.blk _ hr hu;rw [h1]at ho;cases ho;cases h3 with
  |cells c c' e fr eF _ _=>exact .inl ⟨_,_,_,rfl⟩
  |number a l ha=>exact .inr ⟨_,_,rfl,ha⟩
 ·rw [h.mask r hr hu]at ho;cases ho;exact .inl ⟨_,_,_,rfl⟩
theorem WR.shape(h:WR F U ρ n w w'){r:Nat}(hr:r<n)(hu:U r):w'.shape? (ρ r)=w.shape? r:=by
 obtain⟨o1,o',h1,h2,h3⟩:=h.blk _ hr hu;cases h3 with
 |cells c c' e fr eF hc _=>simp [World.shape?,h1,h2,hc.size]
 |number a l ha=>simp [World.shape?,h1,h2]
end
section
variable {w:World}
theorem BA.cons{es:Array Event}{e:Event}(h:BA U ρ n db n' w w' es)(he:EvD U db n' e):BA U ρ n db n' w w' (#[e]++es):=
 ⟨h.tape,h.os,h.output,h.size,h.frame,h.kind,h.fresh,h.new,fun x hx=>by
   rcases Array.mem_append.1 hx with hx|hx
   ·rw [Array.mem_singleton.1 hx];exact he
   ·exact h.ev x hx⟩
theorem BI{w:World}{a:Addr}{c:Array Value}{e:TypeId}{fr:Nat×Nat}(h:w.heap[a.block]? =some (.cells c e fr)):w.frozen? a=true↔frz fr a.off:=by
 obtain⟨lo,hi⟩:=fr;simp [World.frozen?,h,frz]
theorem tI{w:World}{a:Addr}{v:Value}{c:Array Value}{e:TypeId}{fr:Nat×Nat}(h:w.heap[a.block]? =some (.cells c e fr))(hs:a.spot=none)(b:Nat):
  (w.setCell a v).heap[b]? =if b=a.block then some (.cells (c.setIfInBounds a.off v) e fr)else w.heap[b]? :=by
 simp only [World.setCell,Array.getElem?_modify,hs];by_cases hb:b=a.block
 ·subst hb;simp [h]
 ·rw [if_neg hb,if_neg (Ne.symm hb)]
theorem WR.set(h:WR F U ρ n w w'){a:Addr}(ha:HA U n a){x v v':Value}(hx:w.cell? a=some x)(hv:VR F U ρ n v v'):
  WR F U ρ n (w.setCell a v) (w'.setCell (ra ρ a) v')/\BA U ρ n ρ n w' (w'.setCell (ra ρ a) v') #[⟨.cell (ra ρ a),true,false⟩]:=by
 obtain⟨hs,x',jc,_⟩:=h.cell ha hx;obtain⟨o,o',h1,h2,h3⟩:=h.blk _ ha.1 ha.2;cases h3 with
 |number b l hb=>simp [World.cell?,h1]at hx
 |cells c c' e fr eF hc hf=>
  have s1:=tI (v:=v) h1 hs;have s2:∀b,(w'.setCell (ra ρ a) v').heap[b]? =if b=ρ a.block then some (.cells (c'.setIfInBounds a.off v') e eF)else w'.heap[b]? :=tI (a:=ra ρ a) (v:=v') h2 hs
  have z1:(w.setCell a v).heap.size=w.heap.size:=by simp [World.setCell]
  have z2:(w'.setCell (ra ρ a) v').heap.size=w'.heap.size:=by simp [World.setCell]
  refine⟨⟨z1.trans h.size,h.inj,fun r hr=>by rw [z2];exact h.lt r hr,fun r hr hmr=>?_,h.ok,fun r hr hmr=>?_,h.tape⟩,
   ⟨rfl,rfl,rfl,Nat.le_of_eq z2.symm,fun b hb cM=>?_,fun b c0 e0 fr0 hb=>?_,fun r a b=>absurd b (Nat.not_lt.2 a),fun b p q=>?_,fun ev he=>?_⟩⟩
  ·rw [s1,if_neg (fun(e:r=a.block)=>hmr (e▸ha.2))];exact h.mask r hr hmr
  ·by_cases hra:r=a.block
   ·subst hra;exact⟨_,_,by rw [s1,if_pos rfl],by rw [s2,if_pos rfl],.cells _ _ _ _ _ (hc.set hv _) hf⟩
   ·obtain⟨o,o',p1,p2,p3⟩:=h.blk r hr hmr;exact⟨o,o',by rw [s1,if_neg hra];exact p1,by rw [s2,if_neg (fun e=>hra (h.inj _ _ hr ha.1 e))];exact p2,p3⟩
  ·rw [s2,if_neg (fun e=>cM a.block ha.1 ha.2 e.symm)]
  ·by_cases hba:b=ρ a.block
   ·subst hba;rw [h2]at hb;cases hb;exact⟨_,by rw [s2,if_pos rfl],by simp⟩
   ·exact⟨c0,by rw [s2,if_neg hba];exact hb,rfl⟩
  ·rw [z2]at q;exact absurd q (Nat.not_lt.2 p)
  ·rw [Array.mem_singleton.1 he];exact .inl ⟨a.block,a.off,true,ha.1,ha.2,by simp [ra,hs]⟩
theorem WR.new(h:WR F U ρ n w w'){o o':Obj}(ho:OR F U (upd ρ n w'.heap.size) (n+1) o o'):
  WR F U (upd ρ n w'.heap.size) (n+1) {w with heap:=w.heap.push o} {w' with heap:=w'.heap.push o'}/\
  BA U ρ n (upd ρ n w'.heap.size) (n+1) w' {w' with heap:=w'.heap.push o'} #[]:=by
 have hx:Ext ρ n (upd ρ n w'.heap.size) (n+1):=.upd _;refine⟨⟨by simp [h.size],fun r s hr hs e=>?_,fun r hr=>?_,fun r hr hmr=>?_,fun r hr=>h.ok r (by omega),fun r hr hmr=>?_,h.tape⟩,
  ⟨rfl,rfl,rfl,by simp,fun b hb _=>?_,fun b c0 e0 fr0 hb=>?_,fun r p q=>?_,fun b p q=>?_,fun _ he=>absurd he (Array.not_mem_empty _)⟩⟩
 ·by_cases G6:r=n<;>by_cases hsn:s=n
  ·rw [G6,hsn]
  ·simp only [upd,G6,hsn,if_true,if_false]at e;have:=h.lt s (by omega);omega
  ·simp only [upd,G6,hsn,if_true,if_false]at e;have:=h.lt r (by omega);omega
  ·simp only [upd,G6,hsn,if_false]at e;exact h.inj r s (by omega) (by omega) e
 ·simp only [Array.size_push];by_cases G6:r=n
  ·simp [upd,G6]
  ·simp only [upd,G6,if_false];have:=h.lt r (by omega);omega
 ·have G6:r<n:=Nat.lt_of_not_le fun hle=>hmr (h.ok r hle);simp only;rw [Array.getElem?_push,if_neg (by rw [h.size];omega)]
  exact h.mask r G6 hmr
 ·by_cases G6:r=n
  ·subst G6;exact⟨_,_,by simp only;rw [Array.getElem?_push,if_pos h.size.symm],by simp only [upd_same];rw [Array.getElem?_push,if_pos rfl],ho⟩
  ·obtain⟨o,o',p1,p2,p3⟩:=h.blk r (by omega) hmr
   have hl:=h.lt r (by omega)
   refine⟨o,o',by simp only;rw [Array.getElem?_push,if_neg (by rw [h.size];exact G6)];exact p1,?_,p3.ext hx⟩
   simp only [upd,G6,if_false];rw [Array.getElem?_push,if_neg (by omega)];exact p2
 ·simp only;rw [Array.getElem?_push,if_neg (by omega)]
 ·refine⟨c0,?_,rfl⟩;have:b<w'.heap.size:=(Array.getElem?_eq_some_iff.1 hb).1;simp only;rw [Array.getElem?_push,if_neg (by omega)];exact hb
 ·obtain rfl:r=n:=by omega
  simp
 ·simp only [Array.size_push]at q;exact⟨n,Nat.le_refl _,Nat.lt_succ_self _,by simp;omega⟩
end
theorem VR.one{F:FuncId->Bool}{U:Nat->Prop}{ρ:dF}{n:Nat}{v v':Value}(h:VR F U ρ n v v'):(∀c,v≠.agg c)->(∀c,v≠.tuple c)->(∀c,v'≠.agg c)/\(∀c,v'≠.tuple c):=by
 intro h1 h2;cases h<;>first|exact absurd rfl (h1 _)|exact absurd rfl (h2 _)|exact⟨fun _=>by simp,fun _=>by simp⟩
theorem gp{α:Type}(P:Program)(a:Addr)(v:Value)(k:Sem α)(w:World)(h1:∀c,v≠.agg c)(h2:∀c,v≠.tuple c):
  (Sem.store .plain a v k).run P w=match w.cell? a with
   |some _=>if w.frozen? a then .halt (.unsupported (.unsafePointer "a write to bytes that a string shares")) w else k.run P (w.setCell a v)
   |none=>match w.farStore P a v false with
    |.ok (w,_)=>k.run P w
    |.error h=>.halt h w:=by
 cases v<;>first|exact absurd rfl (h1 _)|exact absurd rfl (h2 _)|rfl
theorem xz{α:Type}(P:Program)(a:Addr)(v:Value)(k:Sem α)(w:World)(h1:∀c,v≠.agg c)(h2:∀c,v≠.tuple c){x:Value}(hc:w.cell? a=some x)(hf:w.frozen? a=false):
  (Sem.store .plain a v k).events P w #[]=#[⟨.cell a,true,false⟩]++k.events P (w.setCell a v) #[]:=by
 rw [←Sem.events_acc];cases v<;>first|exact absurd rfl (h1 _)|exact absurd rfl (h2 _)|(simp only [Sem.events,Sem.runT,hc,hf];rfl)
theorem sound{α β:Type}{P:Program}{F:FuncId->Bool}{U:Nat->Prop}{A:dF->Nat->α->β->Prop}{ρ:dF}{n:Nat}{s:Sem α}{s':Sem β}(h:aQ P F U A ρ n s s'):
  ∀(w w':World),WR F U ρ n w w'->∀a w₁,s.run P w=.ok a w₁->
   ∃db n' b fD,s'.run P w'=.ok b fD/\Ext ρ n db n'/\A db n' a b/\WR F U db n' w₁ fD/\BA U ρ n db n' w' fD (s'.events P w' #[]):=by
 induction h with
 |pure h=>
  intro w w' hw a w₁ hr;simp only [Sem.run]at hr;cases hr;exact⟨_,_,_,w',rfl,.refl _ _,h,hw,.refl _⟩
 |dead h=>
  intro w w' hw a w₁ hr;obtain⟨e,w2,he,_⟩:=h w hw.plain;rw [he]at hr;cases hr
 |@load ρ n a k k' ha hk ih=>
  intro w w' hw x w₁ hr;cases hc:w.cell? a with
  |none=>
   obtain⟨e,he,_⟩:=hw.noCell ha (P:=P) (b:=false);have hf:(Mode.plain==Mode.atomic)=false:=rfl;simp [Sem.run,hc,hf,he]at hr
  |some v=>
   obtain⟨hs,v',yM,hvr⟩:=hw.cell ha hc;simp only [Sem.run,hc]at hr;obtain⟨db,n',b,fD,e1,e2,e3,e4,e5⟩:=ih v v' hvr w w' hw x w₁ hr;refine⟨db,n',b,fD,by simp only [Sem.run,yM];exact e1,e2,e3,e4,?_⟩
   have:(Sem.load Mode.plain (ra ρ a) k').events P w' #[]=#[⟨.cell (ra ρ a),false,false⟩]++(k' v').events P w' #[]:=by
    rw [←Sem.events_acc];simp only [Sem.events,Sem.runT,yM];rfl
   rw [this];exact e5.cons (.inl ⟨a.block,a.off,false,Nat.lt_of_lt_of_le ha.1 e2.le,ha.2,by rw [e2.old _ ha.1];simp [ra,hs]⟩)
 |@store ρ n a v v' k k' ha hv hk ih=>
  intro w w' hw x w₁ hr;by_cases h1:∃c,v=.agg c
  ·obtain⟨c,rfl⟩:=h1;simp [Sem.run]at hr
  by_cases h2:∃c,v=.tuple c
  ·obtain⟨c,rfl⟩:=h2;simp [Sem.run]at hr
  have N0:∀c,v≠.agg c:=fun c e=>h1 ⟨c,e⟩;have h2':∀c,v≠.tuple c:=fun c e=>h2 ⟨c,e⟩;obtain⟨h3,h4⟩:=hv.one N0 h2';rw [gp P a v k w N0 h2']at hr;cases hc:w.cell? a with
  |none=>
   obtain⟨e,he,_⟩:=hw.G7 ha (P:=P) (b:=false) (v:=v);simp [hc,he]at hr
  |some y=>
   obtain⟨hs,y',hy',hyr⟩:=hw.cell ha hc;simp only [hc]at hr;obtain⟨o,o',b1,b2,b3⟩:=hw.blk _ ha.1 ha.2;cases b3 with
   |number b l hb=>simp [World.cell?,b1]at hc
   |cells c c' e fr eF xl hff=>
    by_cases FC:w.frozen? a=true
    ·simp [FC]at hr
    ·have amY:w'.frozen? (ra ρ a)=false:=by
      rw [Bool.eq_false_iff];intro hx;exact FC ((BI b1).2 (hff _ ((BI (a:=ra ρ a) b2).1 hx)))
     simp only [FC,Bool.false_eq_true,if_false]at hr;obtain⟨g1,g2⟩:=hw.set ha hc hv;obtain⟨db,n',b,fD,e1,e2,e3,e4,e5⟩:=ih _ _ g1 x w₁ hr;refine⟨db,n',b,fD,?_,e2,e3,e4,?_⟩
     ·rw [gp P _ v' k' w' h3 h4];simp only [hy',amY,Bool.false_eq_true,if_false];exact e1
     ·rw [xz P _ v' k' w' h3 h4 hy' amY];exact g2.trans (.refl _ _) e2 e5
 |@new ρ n c c' e k k' ho hk ih=>
  intro w w' hw x w₁ hr;simp only [Sem.run,hw.size]at hr;obtain⟨g1,g2⟩:=hw.new (o:=.cells c e) (o':=.cells c' e) (.cells _ _ _ _ _ (ho.ext (.upd _)) (fun i hi=>hi));obtain⟨db,n',b,fD,e1,e2,e3,e4,e5⟩:=ih w'.heap.size (hw.ok n (Nat.le_refl _)) _ _ g1 x w₁ hr;refine⟨db,n',b,fD,by simp only [Sem.run];exact e1,(Ext.upd _).trans e2,e3,e4,?_⟩
  have:(Sem.new (Obj.cells c' e) k').events P w' #[]=#[]++(k' w'.heap.size).events P {w' with heap:=w'.heap.push (.cells c' e)} #[]:=by
   rw [←Sem.events_acc];simp only [Sem.events,Sem.runT]
  rw [this];exact g2.trans (Ext.upd _) e2 e5
 |@ow ρ n a l k k' ha hk ih=>
  intro w w' hw x w₁ hr;simp only [Sem.run,hw.size]at hr;obtain⟨g1,g2⟩:=hw.new (o:=.number a l) (o':=.number (ra ρ a) l) (by
   rw [←dp (Ext.upd (ρ:=ρ) (n:=n) w'.heap.size) ha];exact .number a l (ha.ext (.upd (ρ:=ρ) w'.heap.size)))
  obtain⟨db,n',b,fD,e1,e2,e3,e4,e5⟩:=ih w'.heap.size (hw.ok n (Nat.le_refl _)) _ _ g1 x w₁ hr;refine⟨db,n',b,fD,by simp only [Sem.run];exact e1,(Ext.upd _).trans e2,e3,e4,?_⟩
  have:(Sem.new (Obj.number (ra ρ a) l) k').events P w' #[]=#[]++(k' w'.heap.size).events P {w' with heap:=w'.heap.push (.number (ra ρ a) l)} #[]:=by
   rw [←Sem.events_acc];simp only [Sem.events,Sem.runT]
  rw [this];exact g2.trans (Ext.upd _) e2 e5
 |@shape ρ n r k k' hr hU hk ih=>
  intro w w' hw x w₁ cr;simp only [Sem.run]at cr;obtain⟨db,n',b,fD,e1,e2,e3,e4,e5⟩:=ih _ w w' hw x w₁ cr;refine⟨db,n',b,fD,by simp only [Sem.run,hw.shape hr hU];exact e1,e2,e3,e4,?_⟩
  have:(Sem.shape (ρ r) k').events P w' #[]=(k' (w.shape? r)).events P w' #[]:=by simp only [Sem.events,Sem.runT,hw.shape hr hU]
  rw [this];exact e5
 |@getObj ρ n r k k' hr hU hk ih=>
  intro w w' hw x w₁ cr;obtain⟨o,o',b1,b2,b3⟩:=hw.blk _ hr hU;cases b3 with
  |cells c c' e fr eF _ _=>simp [Sem.run,b1]at cr
  |number a l ha=>
   simp only [Sem.run,b1]at cr;obtain⟨db,n',b,fD,e1,e2,e3,e4,e5⟩:=ih a l ha w w' hw x w₁ cr;refine⟨db,n',b,fD,by simp only [Sem.run,b2];exact e1,e2,e3,e4,?_⟩
   have:(Sem.getObj (ρ r) k').events P w' #[]=#[⟨.obj (ρ r),false,false⟩]++(k' (.number (ra ρ a) l)).events P w' #[]:=by
    rw [←Sem.events_acc];simp only [Sem.events,Sem.runT,b2];rfl
   rw [this];exact e5.cons (.inr (.inl ⟨r,Nat.lt_of_lt_of_le hr e2.le,hU,by rw [e2.old _ hr]⟩))
 |@choose ρ n q k k' hk ih=>
  intro w w' hw x w₁ hr;by_cases hq:q.forced=true
  ·simp only [Sem.run,hq,if_true]at hr;obtain⟨db,n',b,fD,e1,e2,e3,e4,e5⟩:=ih 0 w w' hw x w₁ hr;exact⟨db,n',b,fD,by simp only [Sem.run,hq,if_true];exact e1,e2,e3,e4,by
    have:(Sem.choose q k').events P w' #[]=(k' 0).events P w' #[]:=by simp only [Sem.events,Sem.runT,hq,if_true]
    rw [this];exact e5⟩
  ·simp only [Sem.run,hq,Bool.false_eq_true,if_false]at hr;have ht:=hw.tape 0;simp only [Nat.add_zero]at ht;have mO:WR F U ρ n {w with drawn:=w.drawn+1} {w' with drawn:=w'.drawn+1}:=
    ⟨hw.size,hw.inj,hw.lt,hw.mask,hw.ok,hw.blk,fun j=>by have:=hw.tape (j+1);simpa [Nat.add_assoc,Nat.add_comm 1 j]using this⟩
   rw [ht]at hr;obtain⟨db,n',b,fD,e1,e2,e3,e4,e5⟩:=ih _ _ _ mO x w₁ hr;refine⟨db,n',b,fD,by simp only [Sem.run,hq,Bool.false_eq_true,if_false];exact e1,e2,e3,e4,?_⟩
   have:(Sem.choose q k').events P w' #[]=(k' (q.cut (w'.tape w'.drawn q))).events P {w' with drawn:=w'.drawn+1} #[]:=by
    simp only [Sem.events,Sem.runT,hq,Bool.false_eq_true,if_false]
   rw [this];exact⟨e5.tape,e5.os,e5.output,e5.size,e5.frame,e5.kind,e5.fresh,e5.new,e5.ev⟩
 |@program ρ n k k' hk ih=>
  intro w w' hw x w₁ hr;simp only [Sem.run]at hr;obtain⟨db,n',b,fD,e1,e2,e3,e4,e5⟩:=ih w w' hw x w₁ hr;exact⟨db,n',b,fD,by simp only [Sem.run];exact e1,e2,e3,e4,e5⟩
 |@noRoom ρ n k k' hk ih=>
  intro w w' hw x w₁ hr;simp only [Sem.run]at hr;obtain⟨db,n',b,fD,e1,e2,e3,e4,e5⟩:=ih w w' hw x w₁ hr;refine⟨db,n',b,fD,by simp only [Sem.run];exact e1,e2,e3,e4,?_⟩
  have:(Sem.mark .noRoom k').events P w' #[]=#[⟨.mark .noRoom,false,true⟩]++k'.events P w' #[]:=by
   rw [←Sem.events_acc];simp only [Sem.events,Sem.runT];rfl
  rw [this];exact e5.cons (.inr (.inr rfl))
theorem Vf{α β:Type}{P:Program}{F:FuncId->Bool}{U:Nat->Prop}{A:dF->Nat->α->β->Prop}{ρ:dF}{n:Nat}{s:Sem α}{s':Sem β}(h:aQ P F U A ρ n s s'):
  ∀(w w':World),WR F U ρ n w w'->∀e w₁,s.run P w=.halt e w₁->kh e=true:=by
 induction h with
 |pure h=>intro w w' hw e w₁ hr;simp [Sem.run]at hr
 |dead h=>
  intro w w' hw e w₁ hr;obtain⟨e',w2,he,hf⟩:=h w hw.plain;rw [he]at hr;cases hr;exact hf
 |@load ρ n a k k' ha hk ih=>
  intro w w' hw e w₁ hr;cases hc:w.cell? a with
  |none=>
   obtain⟨e',he,hf⟩:=hw.noCell ha (P:=P) (b:=false);have hm:(Mode.plain==Mode.atomic)=false:=rfl;simp only [Sem.run,hc,hm,he]at hr;cases hr;exact hf
  |some v=>
   obtain⟨hs,v',yM,hvr⟩:=hw.cell ha hc;simp only [Sem.run,hc]at hr;exact ih v v' hvr w w' hw e w₁ hr
 |@store ρ n a v v' k k' ha hv hk ih=>
  intro w w' hw e w₁ hr;by_cases h1:∃c,v=.agg c
  ·obtain⟨c,rfl⟩:=h1;simp only [Sem.run]at hr;cases hr;rfl
  by_cases h2:∃c,v=.tuple c
  ·obtain⟨c,rfl⟩:=h2;simp only [Sem.run]at hr;cases hr;rfl
  have N0:∀c,v≠.agg c:=fun c e=>h1 ⟨c,e⟩;have h2':∀c,v≠.tuple c:=fun c e=>h2 ⟨c,e⟩;rw [gp P a v k w N0 h2']at hr;cases hc:w.cell? a with
  |none=>
   obtain⟨e',he,hf⟩:=hw.G7 ha (P:=P) (b:=false) (v:=v);simp only [hc,he]at hr;cases hr;exact hf
  |some y=>
   simp only [hc]at hr;by_cases FC:w.frozen? a=true
   ·simp only [FC,if_true]at hr;cases hr;rfl
   ·simp only [FC,Bool.false_eq_true,if_false]at hr;exact ih _ _ (hw.set ha hc hv).1 e w₁ hr
 |@new ρ n c c' t k k' ho hk ih=>
  intro w w' hw e w₁ hr;simp only [Sem.run,hw.size]at hr;obtain⟨g1,_⟩:=hw.new (o:=.cells c t) (o':=.cells c' t) (.cells _ _ _ _ _ (ho.ext (.upd _)) (fun i hi=>hi));exact ih w'.heap.size (hw.ok n (Nat.le_refl _)) _ _ g1 e w₁ hr
 |@ow ρ n a l k k' ha hk ih=>
  intro w w' hw e w₁ hr;simp only [Sem.run,hw.size]at hr;obtain⟨g1,_⟩:=hw.new (o:=.number a l) (o':=.number (ra ρ a) l) (by
   rw [←dp (Ext.upd (ρ:=ρ) (n:=n) w'.heap.size) ha];exact .number a l (ha.ext (.upd (ρ:=ρ) w'.heap.size)))
  exact ih w'.heap.size (hw.ok n (Nat.le_refl _)) _ _ g1 e w₁ hr
 |@shape ρ n r k k' hr hU hk ih=>
  intro w w' hw e w₁ cr;simp only [Sem.run]at cr;exact ih _ w w' hw e w₁ cr
 |@getObj ρ n r k k' hr hU hk ih=>
  intro w w' hw e w₁ cr;obtain⟨o,o',b1,b2,b3⟩:=hw.blk _ hr hU;cases b3 with
  |cells c c' t fr eF _ _=>simp only [Sem.run,b1]at cr;cases cr;rfl
  |number a l ha=>
   simp only [Sem.run,b1]at cr;exact ih a l ha w w' hw e w₁ cr
 |@choose ρ n q k k' hk ih=>
  intro w w' hw e w₁ hr;by_cases hq:q.forced=true
  ·simp only [Sem.run,hq,if_true]at hr;exact ih 0 w w' hw e w₁ hr
  ·simp only [Sem.run,hq,Bool.false_eq_true,if_false]at hr;have mO:WR F U ρ n {w with drawn:=w.drawn+1} {w' with drawn:=w'.drawn+1}:=
    ⟨hw.size,hw.inj,hw.lt,hw.mask,hw.ok,hw.blk,fun j=>by have:=hw.tape (j+1);simpa [Nat.add_assoc,Nat.add_comm 1 j]using this⟩
   exact ih _ _ _ mO e w₁ hr
 |@program ρ n k k' hk ih=>
  intro w w' hw e w₁ hr;simp only [Sem.run]at hr;exact ih w w' hw e w₁ hr
 |@noRoom ρ n k k' hk ih=>
  intro w w' hw e w₁ hr;simp only [Sem.run]at hr;exact ih w w' hw e w₁ hr
abbrev Same{α:Type}(_ρ:dF)(_n:Nat)(a b:α):Prop:=a=b
abbrev AV(F:FuncId->Bool)(U:Nat->Prop)(ρ:dF)(n:Nat)(a b:Value):Prop:=VR F U ρ n a b
abbrev AA(U:Nat->Prop)(ρ:dF)(n:Nat)(a b:Addr):Prop:=HA U n a/\b=ra ρ a
abbrev axB(F:FuncId->Bool)(U:Nat->Prop)(ρ:dF)(n:Nat)(a b:Array Value):Prop:=AR F U ρ n a b
abbrev aD2(U:Nat->Prop)(ρ:dF)(n:Nat)(a b:Option (Addr×Bool)):Prop:=(a=none/\b=none)\/∃x l,a=some (x,l)/\b=some (ra ρ x,l)/\HA U n x
abbrev AAB(U:Nat->Prop)(ρ:dF)(n:Nat)(a b:Addr×Bool):Prop:=HA U n a.1/\b=(ra ρ a.1,a.2)
theorem lh{α:Type}(a:α):aQ P F U Same ρ n (pure a:Sem α) (pure a):=.pure rfl
theorem ei:aQ P F U (fun _ _ a b=>a=P/\b=P) ρ n program program:=.program (.pure ⟨rfl,rfl⟩)
theorem aQ.mono{α β:Type}{A A':dF->Nat->α->β->Prop}{s:Sem α}{s':Sem β}(h:aQ P F U A ρ n s s')(hA:∀db n' a b,A db n' a b->A' db n' a b):aQ P F U A' ρ n s s':=by
 induction h with
 |pure h=>exact .pure (hA _ _ _ _ h)
 |dead h=>exact .dead h
 |load ha _ ih=>exact .load ha ih
 |store ha hv _ ih=>exact .store ha hv ih
 |new ho _ ih=>exact .new ho ih
 |ow ha _ ih=>exact .ow ha ih
 |shape hr hU _ ih=>exact .shape hr hU ih
 |getObj hr hU _ ih=>exact .getObj hr hU ih
 |choose _ ih=>exact .choose ih
 |program _ ih=>exact .program ih
 |noRoom _ ih=>exact .noRoom ih
theorem gL(t:TypeId):aQ P F U Same ρ n (typeInfo t) (typeInfo t):=by
 refine ei.bind fun db n' a b _ h=>?_;obtain⟨rfl,rfl⟩:=h;split
 ·exact lh _
 ·exact .stuck _ _
theorem dx(t:TypeId):aQ P F U Same ρ n (underlying t) (underlying t):=by
 refine ei.bind fun db n' a b _ h=>?_;obtain⟨rfl,rfl⟩:=h;split
 ·exact lh _
 ·exact .stuck _ _
theorem bZ(t:TypeId):aQ P F U (fun _ _ a b=>a=b/\P.underlying t=some a) ρ n (underlying t) (underlying t):=by
 refine ei.bind fun db n' a b _ h=>?_;obtain⟨rfl,rfl⟩:=h;split
 ·rename_i d hd;exact .pure ⟨rfl,hd⟩
 ·exact .stuck _ _
theorem eP(t:TypeId):aQ P F U Same ρ n (sizeOf t) (sizeOf t):=by
 refine(gL t).bind fun db n' a b _ h=>?_;subst h;exact lh _
theorem amZ(t:TypeId):aQ P F U Same ρ n (isAgg t) (isAgg t):=by
 refine(dx t).bind fun db n' a b _ h=>?_;subst h;split<;>exact lh _
theorem aap{a:Addr}(ha:HA U n a):aQ P F U (AV F U) ρ n (load a) (load (ra ρ a)):=.load ha fun _ _ h=>.pure h
theorem xA(k:Nat):∀{ρ:dF} {n:Nat} {a:Addr} (_:HA U n a) (i:Nat) {acc axC:Array Value} (_:AR F U ρ n acc axC),
  aQ P F U (axB F U) ρ n (loadCellsFrom a i k acc) (loadCellsFrom (ra ρ a) i k axC):=by
 induction k with
 |zero=>intro ρ n a ha i acc axC h;exact .pure h
 |succ k ih=>
  intro ρ n a ha i acc axC h;have e:(ra ρ a).add i=ra ρ (a.add i):=(xy ρ a i).symm;simp only [loadCellsFrom,e];refine(aap (ha.add i)).bind fun db n' v v' hx hv=>?_;have:=ih (ha.ext hx) (i+1) ((h.ext hx).push hv);rw [dp hx ha]at this;exact this
theorem tJ{a:Addr}(ha:HA U n a)(k:Nat):aQ P F U (axB F U) ρ n (loadCells a k) (loadCells (ra ρ a) k):=xA k ha 0 AR.nil
inductive LR(F:FuncId->Bool)(U:Nat->Prop)(ρ:dF)(n:Nat):List Value->List Value->Prop
 |nil:LR F U ρ n [] []
 |cons {v v':Value} {l l':List Value} (h:VR F U ρ n v v') (t:LR F U ρ n l l'):LR F U ρ n (v::l) (v'::l')
theorem LR.lK{l l':List Value}(hs:l.length=l'.length)(h:∀(i:Nat) (v v':Value),l[i]? =some v->l'[i]? =some v'->VR F U ρ n v v'):LR F U ρ n l l':=by
 induction l generalizing l' with
 |nil=>cases l' with
  |nil=>exact .nil
  |cons _ _=>cases hs
 |cons v l ih=>cases l' with
  |nil=>cases hs
  |cons v' l'=>exact .cons (h 0 v v' rfl rfl) (ih (by simpa using hs) fun i x x' hx jc=>h (i+1) x x' (by simpa using hx) (by simpa using jc))
theorem AR.toList{cs cL:Array Value}(h:AR F U ρ n cs cL):LR F U ρ n cs.toList cL.toList:=
 .lK (by simp [h.size]) fun i v v' hv yM=>by
  rw [Array.getElem?_toList]at hv yM;obtain⟨y,hy,hyv⟩:=h.get? hv;rw [yM]at hy;cases hy;exact hyv
theorem LR.ext{db:dF}{n':Nat}{l l':List Value}(h:LR F U ρ n l l')(e:Ext ρ n db n'):LR F U db n' l l':=by
 induction h with
 |nil=>exact .nil
 |cons h _ ih=>exact .cons (h.ext e) ih
theorem rV{l l':List Value}(h:LR F U ρ n l l'):∀{a:Addr} (_:HA U n a) (i:Nat),aQ P F U Same ρ n (storeCells a l i) (storeCells (ra ρ a) l' i):=by
 induction h with
 |nil=>intro a ha i;exact .pure rfl
 |cons hv ht ih=>
  intro a ha i;simp only [storeCells];rw [show(ra ρ a).add i=ra ρ (a.add i)from(xy ρ a i).symm]
  exact .store (ha.add i) hv (ih ha (i+1))
theorem BJ(t:TypeId){a:Addr}(ha:HA U n a):aQ P F U (AV F U) ρ n (loadVar t a) (loadVar t (ra ρ a)):=by
 refine(amZ t).bind fun fE n1 b b' e1 h=>?_;subst h;rw [←dp e1 ha];cases b with
 |true=>
  refine(eP t).bind fun xm n2 k k' e2 h=>?_;subst h;rw [←dp e2 (ha.ext e1)];refine(tJ ((ha.ext e1).ext e2) k).bind fun N1 n3 c c' e3 h=>?_;exact .pure (.agg _ _ h.size h.at_)
 |false=>exact aap (ha.ext e1)
theorem N2(t:TypeId){a:Addr}(ha:HA U n a){v v':Value}(hv:VR F U ρ n v v'):aQ P F U Same ρ n (storeVar t a v) (storeVar t (ra ρ a) v'):=by
 have hc:=hv.cells;refine(eP t).bind fun fE n1 k k' e1 h=>?_;subst h;rw [←dp e1 ha,←hc.size];by_cases hk:v.cells.size≠k
 ·simp only [hk,ne_eq,not_false_eq_true,if_true];exact .dead fun w _=>⟨_,w,rfl,rfl⟩
 ·simp only [hk,if_false];exact rV (hc.ext e1).toList (ha.ext e1) 0
theorem l6(e:TypeId){c c':Array Value}(h:AR F U ρ n c c'):aQ P F U (AA U) ρ n (newRow e c) (newRow e c'):=by
 refine .new h fun r' hU=>.pure ⟨⟨Nat.lt_succ_self _,hU⟩,?_⟩;simp [ra]
theorem FD(t:TypeId){v v':Value}(h:VR F U ρ n v v'):aQ P F U (AA U) ρ n (newVar t v) (newVar t v'):=l6 t h.cells
def G8:Value->Bool
 |.bool _|.int _ _|.string _|.pointer none|.slice none _ _|.nilFunc=>true
 |_=>false
def FE:Value->Bool
 |.agg cs=>cs.all G8
 |v=>G8 v
theorem VR.am0{v:Value}(h:G8 v=true):VR F U ρ n v v:=by
 unfold G8 at h;split at h<;>first|(constructor;done)|(cases h;done)
theorem VR.const{v:Value}(h:FE v=true):VR F U ρ n v v:=by
 unfold FE at h;split at h
 ·rename_i cs;refine .agg _ _ rfl fun i hi=>?_;rw [iO (Array.getElem?_eq_getElem hi)];exact VR.am0 (Array.all_eq_true.1 h i hi)
 ·exact VR.am0 h
def kj(P:Program)(t:TypeId):Bool:=match P.info? t with
 |some i=>match i.zero with|some v=>FE v|none=>true
 |none=>true
theorem hZ{t:TypeId}(h:kj P t=true):aQ P F U (AV F U) ρ n (zeroValue t) (zeroValue t):=by
 refine(show aQ P F U (fun _ _ a b=>a=b/\P.info? t=some a) ρ n (typeInfo t) (typeInfo t)from ?_).bind fun db n' a b _ hh=>?_
 ·refine ei.bind fun db n' a b _ h=>?_;obtain⟨rfl,rfl⟩:=h;split
  ·rename_i d hd;exact .pure ⟨rfl,hd⟩
  ·exact .stuck _ _
 ·obtain⟨rfl,hi⟩:=hh;cases hz:a.zero with
  |none=>simp only;exact .unsupported _ _
  |some v=>
   simp only;refine .pure (VR.const ?_);simpa [kj,hi,hz]using h
theorem cq.bind{α β:Type}{x:Sem α}{f:α->Sem β}(hx:cq P x)(hf:∀a,cq P (f a)):cq P (x>>=f):=by
 intro w e w' h;rw [Sem.run_bind]at h;cases hr:x.run P w with
 |ok a w1=>rw [hr]at h;exact hf a _ _ _ h
 |halt e1 w1=>rw [hr]at h;cases h;exact hx _ _ _ hr
theorem cq.pure{α:Type}(a:α):cq P (pure a:Sem α):=fun w e w' h=>by cases h
theorem cq.program:cq P program:=fun w e w' h=>by cases h
theorem cq.choose(q:Question):cq P (choose q):=fun w e w' h=>by
 simp only [Go.choose,Sem.run]at h;split at h<;>cases h
theorem cq.shape(r:Nat):cq P (shape r):=fun w e w' h=>by cases h
theorem cq.frozen(a:Addr):cq P (frozen a):=fun w e w' h=>by cases h
theorem cq.mark(m:Mark):cq P (mark m):=fun w e w' h=>by cases h
theorem cq.stuck{α:Type}(s:String):cq P (Go.stuck s:Sem α):=fun w e w' h=>by cases h;rfl
theorem cq.newRow(t:TypeId)(c:Array Value):cq P (newRow t c):=fun w e w' h=>by cases h
theorem cq.underlying(t:TypeId):cq P (underlying t):=by
 refine cq.program.bind fun p=>?_;split
 ·exact cq.pure _
 ·exact cq.stuck _
theorem cq.typeInfo(t:TypeId):cq P (typeInfo t):=by
 refine cq.program.bind fun p=>?_;split
 ·exact cq.pure _
 ·exact cq.stuck _
theorem cq.elemOf(t:TypeId):cq P (elemOf t):=by
 refine(cq.underlying t).bind fun d=>?_;split
 ·exact cq.pure _
 ·exact cq.stuck _
theorem cq.asInt(v:Value):cq P (asInt v):=by
 unfold Go.asInt asIntOf;split
 ·exact cq.pure _
 ·exact fun w e w' h=>by cases h;rfl
 ·exact fun w e w' h=>by cases h;rfl
theorem cS{α β:Type}{x:Sem α}{f:α->Sem β}{w:World}(hx:cq P x)(h:∀a w',ov P (f a) w'):ov P (x>>=f) w:=by
 unfold ov;rw [Sem.run_bind];cases hr:x.run P w with
 |ok a w'=>exact h a w'
 |halt e w'=>exact⟨e,w',rfl,hx _ _ _ hr⟩
theorem cH{α β:Type}{x:Sem α}{f:α->Sem β}{w:World}(h:ov P x w):ov P (x>>=f) w:=by
 obtain⟨e,w',h,hf⟩:=h;exact⟨e,w',by rw [Sem.run_bind,h];rfl,hf⟩
theorem ca{α:Type}(e:RuntimeError)(w:World):ov P (runtimePanic e:Sem α) w:=by
 unfold runtimePanic;refine cS cq.program fun a w'=>?_;cases e<;>first
  |exact⟨_,_,rfl,rfl⟩
  |exact cS (cq.elemOf _) fun _ _=>cS (cq.newRow _ _) fun _ _=>⟨_,_,rfl,rfl⟩
  |exact cS ((cq.elemOf _).bind fun _=>cq.newRow _ _) fun _ _=>⟨_,_,rfl,rfl⟩
theorem fj{α β:Type}{A:dF->Nat->α->β->Prop}(e:RuntimeError)(s':Sem β):aQ P F U A ρ n (runtimePanic e) s':=.dead fun w _=>ca e w
theorem fS{α β:Type}{A:dF->Nat->α->β->Prop}(k:IntKind)(x y:Int)(c:BoundsCode)(s':Sem β):aQ P F U A ρ n (boundsPanic k x y c) s':=
 .dead fun w _=>by
  unfold boundsPanic;split
  ·exact cS ((cq.choose _).bind fun _=>cq.pure _) fun _ w'=>ca _ w'
  ·exact cS (cq.pure _) fun _ w'=>ca _ w'
theorem ox{r:Nat}(hr:r<n)(hU:U r):aQ P F U Same ρ n (shape r) (shape (ρ r)):=.shape hr hU fun x=>.pure rfl
theorem N3{r:Nat}(hr:r<n)(hU:U r):aQ P F U (aD2 U) ρ n (numberAt r) (numberAt (ρ r)):=by
 refine(ox hr hU).bind fun fE n1 x x' e1 h=>?_;subst h;rw [←e1.old r hr];cases hx:x.isSome with
 |true=>simp only [if_true];exact .pure (.inl ⟨rfl,rfl⟩)
 |false=>
  simp only [Bool.false_eq_true,if_false];exact .getObj (Nat.lt_of_lt_of_le hr e1.le) hU fun a l ha=>.pure (.inr ⟨a,l,rfl,rfl,ha⟩)
theorem FF{r:Nat}(hr:r<n)(hU:U r):aQ P F U (fun _ _ (a b:Option (Addr×TypeId))=>a=none/\b=none) ρ n (viewAt r) (viewAt (ρ r)):=by
 refine(ox hr hU).bind fun fE n1 x x' e1 h=>?_;subst h;rw [←e1.old r hr];cases hx:x.isSome with
 |true=>simp only [if_true];exact .pure ⟨rfl,rfl⟩
 |false=>
  simp only [Bool.false_eq_true,if_false];exact .getObj (Nat.lt_of_lt_of_le hr e1.le) hU fun a l ha=>.pure ⟨rfl,rfl⟩
theorem nQ{a:Addr}(ha:HA U n a):aQ P F U (AAB U) ρ n (behindNumber a) (behindNumber (ra ρ a)):=by
 refine(N3 ha.1 ha.2).bind fun fE n1 x x' e1 h=>?_;rcases h with ⟨rfl,rfl⟩|⟨y,l,rfl,rfl,hy⟩
 ·exact .pure ⟨ha.ext e1,by simp only [Option.getD_none];rw [dp e1 ha]⟩
 ·exact .pure ⟨hy,rfl⟩
theorem N4{a:Addr}(ha:HA U n a)(l:Bool):aQ P F U (AV F U) ρ n (asNumber a l) (asNumber (ra ρ a) l):=by
 refine .ow ha fun r' hU=>.pure ?_;have:=VR.ptr (F:=F) (U:=U) (ρ:=upd ρ n r') (n:=n+1) ⟨n,0,none⟩ ⟨Nat.lt_succ_self _,hU⟩;simpa [ra]using this
theorem xB{a:Addr}(ha:HA U n a):aQ P F U Same ρ n (byteOf a) (byteOf (ra ρ a)):=by
 unfold byteOf noView;simp only [axw,amW,amV];cases a.spot with
 |some s=>exact .pure rfl
 |none=>
  simp only;refine ei.bind fun ρ0 n0 p p' e0 h=>?_;obtain⟨rfl,rfl⟩:=h;rw [←e0.old _ ha.1];have hb:=ha.ext e0;refine aQ.bind (A:=fun _ _ (_ _:Unit)=>True) ((FF hb.1 hb.2).bind fun fE n1 x x' e1 h=>?_) fun fE n1 x x' e1 _=>?_
  ·obtain⟨rfl,rfl⟩:=h;exact .pure trivial
  ·rw [←e1.old _ hb.1];refine(ox (Nat.lt_of_lt_of_le hb.1 e1.le) hb.2).bind fun xm n2 y y' e2 h=>?_;subst h;cases y with
   |none=>exact .stuck _ _
   |some z=>
    obtain⟨e,c⟩:=z;simp only;split
    ·exact .pure rfl
    ·split
     ·exact .pure rfl
     ·exact .stuck _ _
theorem BK{v v':Value}(h:VR F U ρ n v v'):aQ P F U Same ρ n (asInt v) (asInt v'):=by
 unfold asInt asIntOf;cases h with
 |int k x=>exact .pure rfl
 |_=>first|exact .dead fun w _=>⟨_,w,rfl,rfl⟩
theorem BL{v v':Value}(h:VR F U ρ n v v'):aQ P F U Same ρ n (asIntOf v) (asIntOf v'):=by
 unfold asIntOf;cases h with
 |int k x=>exact .pure rfl
 |_=>first|exact .dead fun w _=>⟨_,w,rfl,rfl⟩
theorem xC{v v':Value}(h:VR F U ρ n v v'):aQ P F U Same ρ n (asBool v) (asBool v'):=by
 unfold asBool;cases h with
 |bool k=>exact .pure rfl
 |_=>first|exact .dead fun w _=>⟨_,w,rfl,rfl⟩
theorem lj{v v':Value}(h:VR F U ρ n v v'):aQ P F U (AA U) ρ n (Instr.sureAddr v) (Instr.sureAddr v'):=by
 unfold Instr.sureAddr;cases h with
 |ptr a h=>exact .pure ⟨h,rfl⟩
 |_=>exact .stuck _ _
theorem akH(t:TypeId){v v':Value}(h:VR F U ρ n v v'):aQ P F U (AV F U) ρ n (Instr.loadAt t v) (Instr.loadAt t v'):=by
 refine(lj h).bind fun fE n1 a a' e1 h=>?_;obtain⟨ha,rfl⟩:=h;exact BJ t ha
theorem Vg(t:TypeId){v v' x x':Value}(h:VR F U ρ n v v')(hx:VR F U ρ n x x'):aQ P F U Same ρ n (Instr.storeAt t v x) (Instr.storeAt t v' x'):=by
 refine(lj h).bind fun fE n1 a a' e1 h=>?_;obtain⟨ha,rfl⟩:=h;exact N2 t ha (hx.ext e1)
theorem E3{a:Addr}(ha:HA U n a)(f:Field):aQ P F U (AA U) ρ n (fieldPlace a f) (fieldPlace (ra ρ a) f):=by
 unfold fieldPlace;refine(eP _).bind fun fE n1 k k' e1 h=>?_;subst h;rw [←dp e1 ha];have hb:=ha.ext e1;split
 ·unfold partAt;refine(xB hb).bind fun xm n2 b b' e2 h=>?_;subst h;have yn:=hb.ext e2;have hp:HA U n2 {block:=a.block,off:=a.off+f.offset,spot:=none}:=yn;refine aQ.bind (A:=Same) ?_ fun N1 n3 c c' e3 h=>?_
  ·have:({block:=(ra fE a).block,off:=(ra fE a).off+f.offset}:Addr)=ra xm {block:=a.block,off:=a.off+f.offset,spot:=none}:=by
    simp [ra,e2.old _ hb.1]
   rw [this];exact xB hp
  ·subst h;have e:N1 a.block=fE a.block:=(e3.old _ yn.1).trans (e2.old _ hb.1);split
   ·exact .pure ⟨hp.ext e3,by simp [ra,e]⟩
   ·exact .pure ⟨hp.ext e3,by simp [ra,e]⟩
 ·exact .pure ⟨hb.add _,by rw [xy]⟩
theorem Vh(t:TypeId)(i:Nat){v v':Value}(h:VR F U ρ n v v'):aQ P F U (AV F U) ρ n (Instr.fieldAt t v i) (Instr.fieldAt t v' i):=by
 unfold Instr.fieldAt;refine(dx t).bind fun fE n1 d d' e1 hd=>?_;subst hd;split
 ·split
  ·refine(lj (h.ext e1)).bind fun xm n2 a a' e2 ha=>?_;obtain⟨ha,rfl⟩:=ha;refine(E3 ha _).bind fun N1 n3 b b' e3 hb=>?_;obtain⟨hb,rfl⟩:=hb;exact .pure (.ptr b hb)
  ·exact .stuck _ _
 ·exact .stuck _ _
theorem Vi(t:TypeId){v v' x x':Value}(h:VR F U ρ n v v')(hx:VR F U ρ n x x'):aQ P F U (AV F U) ρ n (Instr.indexAt t v x) (Instr.indexAt t v' x'):=by
 unfold Instr.indexAt;refine(BL hx).bind fun fE n1 ki ki' e1 hk=>?_;subst hk;obtain⟨k,i⟩:=ki;simp only;refine(dx t).bind fun xm n2 d d' e2 hd=>?_;subst hd;have h2:=(h.ext e1).ext e2;cases d with
 |array l e=>
  refine(lj h2).bind fun N1 n3 a a' e3 ha=>?_;obtain⟨ha,rfl⟩:=ha;refine(dx t).bind fun ρ5 n5 d d' e5 hd=>?_;subst hd;simp only;split
  ·refine(eP _).bind fun ρ4 n4 z z' e4 hz=>?_;subst hz;have hy4:=(ha.ext e5).ext e4;have:ra N1 a=ra ρ4 a:=by rw [←dp e5 ha,←dp e4 (ha.ext e5)]
   rw [this,←xy];exact .pure (.ptr _ (hy4.add _))
  ·(repeat' split)<;>first|exact .unsupported _ _|exact fS _ _ _ _ _
 |slice e=>
  cases h2 with
  |dU l c=>
   refine(dx t).bind fun N1 n3 d d' e3 hd=>?_;subst hd;exact fS _ _ _ _ _
  |slice a l c ha=>
   refine(dx t).bind fun N1 n3 d d' e3 hd=>?_;subst hd;simp only;split
   ·refine(eP _).bind fun ρ4 n4 z z' e4 hz=>?_;subst hz;have hy4:=(ha.ext e3).ext e4;have:ra xm a=ra ρ4 a:=by rw [←dp e3 ha,←dp e4 (ha.ext e3)]
    rw [this,←xy];exact .pure (.ptr _ (hy4.add _))
   ·(repeat' split)<;>first|exact .unsupported _ _|exact fS _ _ _ _ _
  |_=>exact .stuck _ _
 |_=>cases h2<;>exact .stuck _ _
theorem am1{t:TypeId}(hz:kj P t=true):aQ P F U (AV F U) ρ n (Instr.alloc t true (.tuple #[])) (Instr.alloc t true (.tuple #[])):=by
 unfold Instr.alloc;refine(hZ hz).bind fun fE n1 v v' e1 h=>?_;refine(FD t h).bind fun xm n2 a a' e2 ha=>?_;obtain⟨ha,rfl⟩:=ha;exact .pure (.ptr a ha)
theorem aD3(t:TypeId){v v':Value}(h:VR F U ρ n v v'):aQ P F U (AV F U) ρ n (Instr.box t v) (Instr.box t v'):=by
 unfold Instr.box;refine(FD t h).bind fun xm n2 a a' e2 ha=>?_;obtain⟨ha,rfl⟩:=ha;exact .pure (.ptr a ha)
inductive PR(F:FuncId->Bool)(U:Nat->Prop)(ρ:dF)(n:Nat):List (Nat×Value)->List (Nat×Value)->Prop
 |nil:PR F U ρ n [] []
 |cons {i:Nat} {v v':Value} {l l':List (Nat×Value)} (h:VR F U ρ n v v') (t:PR F U ρ n l l'):PR F U ρ n ((i,v)::l) ((i,v')::l')
theorem PR.ext{db:dF}{n':Nat}{l l':List (Nat×Value)}(h:PR F U ρ n l l')(e:Ext ρ n db n'):PR F U db n' l l':=by
 induction h with
 |nil=>exact .nil
 |cons h _ ih=>exact .cons (h.ext e) ih
theorem PR.map{ι:Type}(xs:List (Nat×ι)){f f':ι->Value}(h:∀x∈xs,VR F U ρ n (f x.2) (f' x.2)):PR F U ρ n (xs.map fun(i,x)=>(i,f x)) (xs.map fun(i,x)=>(i,f' x)):=by
 induction xs with
 |nil=>exact .nil
 |cons x xs ih=>exact .cons (h x (by simp)) (ih fun y hy=>h y (by simp [hy]))
theorem AR.axD{l l':List Value}(h:LR F U ρ n l l'):∀(off k:Nat) {cs cL:Array Value} (_:AR F U ρ n cs cL),
  AR F U ρ n ((l.zipIdx k).foldl (fun cs (c,j)=>cs.setIfInBounds (off+j) c) cs) ((l'.zipIdx k).foldl (fun cs (c,j)=>cs.setIfInBounds (off+j) c) cL):=by
 induction h with
 |nil=>intro off k cs cL hc;exact hc
 |cons hv _ ih=>intro off k cs cL hc;exact ih off (k+1) (hc.set hv _)
theorem G9(c:Array Value)(off:Nat)(cs:Array Value):c.zipIdx.foldl (fun cs (c,j)=>cs.setIfInBounds (off+j) c) cs=(c.toList.zipIdx).foldl (fun cs (c,j)=>cs.setIfInBounds (off+j) c) cs:=by
 rw [←Array.foldl_toList,Array.toList_zipIdx]
theorem BM(place:Nat->Option (Nat×Nat)){l l':List (Nat×Value)}(h:PR F U ρ n l l'):∀{cs cL:Array Value} (_:AR F U ρ n cs cL),
  (Instr.fill place cs l=none/\Instr.fill place cL l'=none)\/∃d d',Instr.fill place cs l=some d/\Instr.fill place cL l'=some d'/\AR F U ρ n d d':=by
 induction h with
 |nil=>intro cs cL h;exact .inr ⟨cs,cL,rfl,rfl,h⟩
 |@cons i v v' l l' hv _ ih=>
  intro cs cL hc;have hvc:=hv.cells;simp only [Instr.fill];cases hp:place i with
  |none=>exact .inl ⟨rfl,rfl⟩
  |some os=>
   obtain⟨off,size⟩:=os;simp only [←hvc.size,←hc.size];by_cases hb:v.cells.size≠size\/off+v.cells.size>cs.size
   ·have:(decide (v.cells.size≠size)||decide (off+v.cells.size>cs.size))=true:=by simpa using hb
    simp only [this,if_true];exact .inl ⟨trivial,trivial⟩
   ·have:(decide (v.cells.size≠size)||decide (off+v.cells.size>cs.size))=false:=by simpa using hb
    simp only [this,Bool.false_eq_true,if_false,G9];exact ih (AR.axD hvc.toList off 0 hc)
theorem axE{α β:Type}(f:α->Sem β)(hf:∀(a:α) (ρ:dF) (n:Nat),aQ P F U Same ρ n (f a) (f a))(l:List α):∀(ρ:dF) (n:Nat),aQ P F U Same ρ n (l.mapM f) (l.mapM f):=by
 induction l with
 |nil=>intro ρ n;simp only [List.mapM_nil];exact lh _
 |cons a l ih=>
  intro ρ n;simp only [List.mapM_cons];refine(hf a ρ n).bind fun fE n1 b b' e1 h=>?_;subst h;refine(ih fE n1).bind fun xm n2 c c' e2 h=>?_;subst h;exact lh _
theorem am2{α β:Type}(f:α->Sem β)(hf:∀(a:α) (ρ:dF) (n:Nat),aQ P F U Same ρ n (f a) (f a))(l:Array α):aQ P F U Same ρ n (l.mapM f) (l.mapM f):=by
 rw [Array.mapM_eq_mapM_toList];exact(axE f hf l.toList ρ n).bind fun fE n1 b b' e1 h=>by subst h;exact lh _
theorem am3{t:TypeId}(hz:kj P t=true){l l':Array (Nat×Value)}(h:PR F U ρ n l.toList l'.toList):aQ P F U (AV F U) ρ n (Instr.build t l) (Instr.build t l'):=by
 unfold Instr.build;refine(hZ hz).bind fun fE n1 z z' e1 hz=>?_;have hzc:=hz.cells;refine(dx t).bind fun xm n2 d d' e2 hd=>?_;subst hd;split
 ·refine(am2 _ (fun f ρ n=>(eP _).bind fun fE n1 b b' e1 h=>by subst h;exact lh _) _).bind fun N1 n3 pl pl' e3 hp=>?_
  subst hp;rcases BM (pl[·]?) (((h.ext e1).ext e2).ext e3) ((hzc.ext e2).ext e3)with ⟨h1,h2⟩|⟨c,c',h1,h2,h3⟩
  ·simp only [h1];exact .stuck _ _
  ·simp only [h1,h2];exact .pure (.agg _ _ h3.size h3.at_)
 ·refine(eP _).bind fun N1 n3 k k' e3 hp=>?_;subst hp;rcases BM (fun i=>some (i*k,k)) (((h.ext e1).ext e2).ext e3) ((hzc.ext e2).ext e3)with ⟨h1,h2⟩|⟨c,c',h1,h2,h3⟩
  ·simp only [h1];exact .stuck _ _
  ·simp only [h1,h2];exact .pure (.agg _ _ h3.size h3.at_)
 ·exact .stuck _ _
theorem tK{c:Array Value}{i:Nat}{v:Value}(h:c[i]? =some v):c[i]! =v:=by simp [getElem!_def,h]
theorem tL{c:Array Value}{i:Nat}(h:c[i]? =none):c[i]! =Value.bool false:=by simp only [getElem!_def,h];rfl
theorem AR.aX4{c c':Array Value}(h:AR F U ρ n c c')(i:Nat):VR F U ρ n c[i]! c'[i]! :=by
 cases hc:c[i]? with
 |none=>rw [tL hc,tL (h.none hc)];exact .bool _
 |some v=>
  obtain⟨v',yM,hr⟩:=h.get? hc;rw [tK hc,tK yM];exact hr
theorem AR.cyc{c c':Array Value}(h:AR F U ρ n c c')(k:Nat):AR F U ρ n ((Array.range k).map (c[· % c.size]!)) ((Array.range k).map (c'[· % c'.size]!)):=by
 refine .lK (by simp) fun i x x' hx jc=>?_
 rw [Array.getElem?_map]at hx jc;obtain⟨y,hy,rfl⟩:=Option.map_eq_some_iff.1 hx;obtain⟨y',hy',rfl⟩:=Option.map_eq_some_iff.1 jc;rw [hy]at hy';cases hy';rw [←h.size];exact h.aX4 _
theorem E4{t:TypeId}(hz:∀e,P.underlying t=some (.slice e)->kj P e=true)(len:Nat){l l':Array (Nat×Value)}(h:PR F U ρ n l.toList l'.toList):
  aQ P F U (AV F U) ρ n (Instr.buildSlice t len l) (Instr.buildSlice t len l'):=by
 unfold Instr.buildSlice;refine(bZ t).bind fun fE n1 d d' e1 hd=>?_;obtain⟨rfl,hd⟩:=hd;cases d with
 |slice e=>
  simp only;refine(eP _).bind fun xm n2 k k' e2 hk=>?_;subst hk;split
  ·exact .dead fun w _=>⟨_,w,rfl,rfl⟩
  ·have fin:∀(ρ:dF) (n:Nat) (z z':Array Value),AR F U ρ n z z'->PR F U ρ n l.toList l'.toList->
     aQ P F U (AV F U) ρ n (do
      let some cells:=Instr.fill (fun i=>some (i*k,k)) ((Array.range (len*k)).map (z[· % z.size]!)) l.toList|stuck "buildSlice: a part of the wrong size"
      pure (.slice (some (←newRow e cells)) len len)) (do
      let some cells:=Instr.fill (fun i=>some (i*k,k)) ((Array.range (len*k)).map (z'[· % z'.size]!)) l'.toList|stuck "buildSlice: a part of the wrong size"
      pure (.slice (some (←newRow e cells)) len len)):=by
    intro ρ n z z' hzz hl;rcases BM (fun i=>some (i*k,k)) hl (hzz.cyc (len*k))with ⟨h1,h2⟩|⟨c,c',h1,h2,h3⟩
    ·simp only [h1];exact .stuck _ _
    ·simp only [h1,h2];refine(l6 e h3).bind fun xm n2 a a' e2 ha=>?_;obtain⟨ha,rfl⟩:=ha;exact .pure (.slice a _ _ ha)
   split
   ·exact fin xm n2 #[] #[] AR.nil ((h.ext e1).ext e2)
   ·refine(hZ (hz e hd)).bind fun N1 n3 z z' e3 hzz=>?_;exact fin N1 n3 z.cells z'.cells hzz.cells (((h.ext e1).ext e2).ext e3)
 |_=>exact .stuck _ _
theorem BN(b:Nat):aQ P F U (fun _ _ (_ _:Unit)=>True) ρ n (askRoom b) (askRoom b):=by
 unfold askRoom;split
 ·exact .noRoom (.pure trivial)
 ·exact .pure trivial
theorem Ha{t:TypeId}(hz:∀e,P.underlying t=some (.slice e)->kj P e=true){v v' x x':Value}(h:VR F U ρ n v v')(hx:VR F U ρ n x x'):
  aQ P F U (AV F U) ρ n (Instr.makeSlice t v x) (Instr.makeSlice t v' x'):=by
 unfold Instr.makeSlice;refine(bZ t).bind fun fE n1 d d' e1 hd=>?_;obtain⟨rfl,hd⟩:=hd;cases d with
 |slice e=>
  simp only;refine(BK (h.ext e1)).bind fun xm n2 l l' e2 hl=>?_;subst hl;refine(BK ((hx.ext e1).ext e2)).bind fun N1 n3 c c' e3 hc=>?_;subst hc;refine(gL e).bind fun ρ4 n4 ti ti' e4 ht=>?_;subst ht;split
  ·refine .dead fun w _=>?_
   (repeat' split)<;>first|exact ca _ w|exact cH (ca _ w)|exact cH (cS (cq.choose _) fun _ w'=>ca _ w')|exact cS (cq.choose _) fun _ w'=>cH (ca _ w')
  ·refine(BN _).bind fun ρ5 n5 _ _ e5 _=>?_;refine(eP e).bind fun ρ6 n6 k k' e6 hk=>?_;subst hk;split
   ·rename_i h0;simp only [h0];refine(l6 e (AR.nil.cyc 0)).bind fun ρ7 n7 a a' e7 ha=>?_;obtain⟨ha,rfl⟩:=ha;exact .pure (.slice a _ _ ha)
   ·refine(hZ (hz e hd)).bind fun ρ7 n7 z z' e7 hzz=>?_;refine(l6 e (hzz.cells.cyc _)).bind fun ρ8 n8 a a' e8 ha=>?_;obtain⟨ha,rfl⟩:=ha;exact .pure (.slice a _ _ ha)
 |_=>exact .stuck _ _
theorem am4{v v':Value}(h:VR F U ρ n v v'):aQ P F U Same ρ n (Builtin.lenOf v) (Builtin.lenOf v'):=by
 unfold Builtin.lenOf;cases h<;>first|exact .pure rfl|exact .stuck _ _
theorem am5{c:Array Value}(h:∀(i:Nat) (v:Value),c[i]? =some v->FE v=true):AR F U ρ n c c:=
 .lK rfl fun i v v' hv yM=>by rw [hv]at yM;cases yM;exact VR.const (h i v hv)
theorem lL(size k:Nat){v v':Value}(h:VR F U ρ n v v'):aQ P F U (axB F U) ρ n (Builtin.firstCells size k v) (Builtin.firstCells size k v'):=by
 unfold Builtin.firstCells;cases h with
 |slice a l c ha=>exact tJ ha _
 |dU l c=>exact .pure AR.nil
 |string s=>exact .pure (am5 fun i v hv=>by
   obtain⟨x,hx,rfl⟩:=Option.map_eq_some_iff.1 ((Array.getElem?_map ..).symm.trans hv);rfl)
 |_=>exact .stuck _ _
theorem AR.zeroCells{c c':Array Value}(h:AR F U ρ n c c')(k:Nat):AR F U ρ n (Builtin.zeroCells c k) (Builtin.zeroCells c' k):=by
 unfold Builtin.zeroCells;rw [←h.size];have:=h.cyc (k*c.size);rw [←h.size]at this;exact this
theorem VR.sl{v v':Value}(h:VR F U ρ n v v'):(∃b b' l c,v=.slice b l c/\v'=.slice b' l c)\/∀b l c,v≠.slice b l c:=by
 cases h<;>first|exact .inl ⟨_,_,_,_,rfl,rfl⟩|exact .inr fun _ _ _=>by simp
theorem cq.holdsCells(a:Addr)(k:Nat):cq P (Builtin.holdsCells a k):=(cq.shape _).bind fun x=>by split<;>exact cq.pure _
theorem cq.mayShare(s l k:Nat)(b:Option Addr)(x:Value):cq P (Builtin.mayShare s l k b x):=by
 unfold Builtin.mayShare;have rest:∀there:Bool,cq P (do
   if !there then return true
   match x with
   |.slice (some b') _ _=>do return (!(←Builtin.holdsCells b' (k*s))||b.any (·.block==b'.block))
   |_=>return false):=by
  intro there;split
  ·exact cq.pure _
  ·split
   ·exact(cq.holdsCells _ _).bind fun _=>cq.pure _
   ·exact cq.pure _
 cases b with
 |none=>exact(cq.pure _).bind rest
 |some a=>exact(cq.holdsCells _ _).bind fun _=>(cq.frozen _).bind fun _=>(cq.pure _).bind rest
set_option maxHeartbeats 4000000 in
theorem akI{ts:Array TypeId}{ty:TypeId}(hz:∀s e,ts[0]? =some s->P.underlying s=some (.slice e)->kj P e=true)
  (hx:∀t k,ts[1]? =some t->P.underlying t≠some (.int k)){c c':Array Value}(h:AR F U ρ n c c'):
  aQ P F U (AV F U) ρ n (Builtin.append_ ts ty c) (Builtin.append_ ts ty c'):=by
 unfold Builtin.append_;cases h0:ts[0]? with
 |none=>exact .stuck _ _
 |some st=>
 cases hs:c[0]? with
 |none=>exact .stuck _ _
 |some s=>
 cases hxx:c[1]? with
 |none=>exact .stuck _ _
 |some x=>
 obtain⟨s',aZ,hsr⟩:=h.get? hs;obtain⟨x',jc,hxr⟩:=h.get? hxx;simp only [aZ,jc];refine(bZ st).bind fun fE n1 d d' e1 hd=>?_;obtain⟨rfl,hd⟩:=hd;have aPo:=hxr.ext e1;have Vj:=hsr.ext e1;clear hsr hxr;cases d with
 |slice e=>
  have hze:=hz st e h0 hd;rcases Vj.sl with ⟨b,b',l,cp,rfl,rfl⟩|hn
  rotate_left
  ·cases Vj<;>first|exact absurd rfl (hn _ _ _)|exact .stuck _ _
  simp only;refine(eP e).bind fun xm n2 k k' e2 hk=>?_;subst hk;have hsF:=Vj.ext e2;have hxF:=aPo.ext e2;clear Vj aPo;rcases h1:ts[1]? with _|xt
  rotate_left;simp only;refine(bZ xt).bind fun N1 n3 d d' e3 yN=>?_;obtain⟨rfl,yN⟩:=yN;have hni:∀k,d≠.int k:=fun k e=>hx xt k h1 (e▸yN);replace hsF:=hsF.ext e3;replace hxF:=hxF.ext e3;cases d;any_goals exact absurd rfl (hni _)
  all_goals
   refine(am4 hxF).bind fun ρ4 n4 m m' e4 hm=>?_;subst hm;replace hsF:=hsF.ext e4;replace hxF:=hxF.ext e4;simp only [Bool.not_false,if_true,Bool.false_eq_true,false_or,if_false];split
   ·refine(lL k m hxF).bind fun fE n1 c c' e1 hc=>?_;cases hsF with
    |dU=>exact .pure (.dU _ _)
    |slice a _ _ ha=>
     simp only;rw [←xy,←dp e1 (ha.add _)];refine(rV hc.toList ((ha.add _).ext e1) 0).bind fun xm n2 _ _ e2 _=>?_;refine .pure ?_;rw [←dp (e1.trans e2) ha];exact .slice a _ _ (ha.ext (e1.trans e2))
   ·refine(gL e).bind fun fE n1 ti ti' e1 h=>?_;subst h;split
    ·exact .dead fun w _=>cH (ca _ w)
    ·refine(gL e).bind fun xm n2 ti ti' e2 h=>?_;subst h;split
     ·refine .dead fun w _=>?_;first
      |exact cH (cS (cq.mayShare _ _ _ _ _) fun m w'=>by split<;>first|exact cS (cq.mark _) fun _ cO=>⟨_,_,rfl,rfl⟩|exact⟨_,_,rfl,rfl⟩)
      |exact cS (cq.mayShare _ _ _ _ _) fun m w'=>by split<;>first|exact cS (cq.mark _) fun _ cO=>⟨_,_,rfl,rfl⟩|exact⟨_,_,rfl,rfl⟩
     ·have hs2:=(hsF.ext e1).ext e2;have gM:=(hxF.ext e1).ext e2;refine .choose fun t=>?_;simp only [Sem.bind];refine(gL e).bind fun fE n1 ti ti' e1 h=>?_;subst h;refine(BN _).bind fun xm n2 _ _ e2 _=>?_;refine(lL k l ((hs2.ext e1).ext e2)).bind fun N1 n3 c c' e3 hc=>?_;refine(lL k m (((gM.ext e1).ext e2).ext e3)).bind fun ρ4 n4 d d' e4 hd=>?_;refine(hZ hze).bind fun ρ5 n5 z z' e5 hzz=>?_;refine(l6 e ((((hc.ext e4).ext e5).append (hd.ext e5)).append (hzz.cells.zeroCells _))).bind fun ρ6 n6 a a' e6 ha=>?_;obtain⟨ha,rfl⟩:=ha;exact .pure (.slice a _ _ ha)
 |_=>exact .stuck _ _
theorem aD6{ts:Array TypeId}{ty:TypeId}(ht:∀t,ts[0]? =some t->(∃e,P.underlying t=some (.slice e))\/P.underlying t=some .string){c c':Array Value}(h:AR F U ρ n c c'):
  aQ P F U (AV F U) ρ n (Builtin.len_ ts ty c) (Builtin.len_ ts ty c'):=by
 unfold Builtin.len_;cases h0:ts[0]? with
 |none=>exact .stuck _ _
 |some st=>
 cases hs:c[0]? with
 |none=>exact .stuck _ _
 |some s=>
 obtain⟨s',aZ,hsr⟩:=h.get? hs;simp only [aZ];refine(bZ st).bind fun fE n1 d d' e1 hd=>?_;obtain⟨rfl,hd⟩:=hd;have Vj:=hsr.ext e1;rcases ht st h0 with ⟨e,he⟩|he
 ·rw [he]at hd;cases hd;cases Vj<;>first|exact .pure (.int _ _)|exact .stuck _ _
 ·rw [he]at hd;cases hd;cases Vj<;>first|exact .pure (.int _ _)|exact .stuck _ _
theorem BO{s:Sem Value}(h:(∃v,s=pure v/\FE v=true)\/∀w,ov P s w):aQ P F U (AV F U) ρ n s s:=by
 rcases h with ⟨v,rfl,hv⟩|h
 ·exact .pure (VR.const hv)
 ·exact .dead fun w _=>h w
theorem axF{v v' x x':Value}(h:VR F U ρ n v v')(hx:VR F U ρ n x x'):aQ P F U (AV F U) ρ n (Builtin.min2 v x) (Builtin.min2 v' x'):=by
 unfold Builtin.min2;cases h<;>cases hx<;>first
  |exact .pure (.int _ _)
  |exact .stuck _ _
  |exact .unsupported _ _
  |(
   refine aQ.bind (A:=AV F U) (BO (.inl ⟨_,rfl,rfl⟩)) fun fE n1 a a' e1 ha=>?_;refine(xC ha).bind fun xm n2 b b' e2 hb=>?_;subst hb;split<;>exact .pure (.string _))
theorem axG{v v' x x':Value}(h:VR F U ρ n v v')(hx:VR F U ρ n x x'):aQ P F U (AV F U) ρ n (Builtin.max2 v x) (Builtin.max2 v' x'):=by
 unfold Builtin.max2;cases h<;>cases hx<;>first
  |exact .pure (.int _ _)
  |exact .stuck _ _
  |exact .unsupported _ _
  |(
   refine aQ.bind (A:=AV F U) (BO (.inl ⟨_,rfl,rfl⟩)) fun fE n1 a a' e1 ha=>?_;refine(xC ha).bind fun xm n2 b b' e2 hb=>?_;subst hb;split<;>exact .pure (.string _))
theorem N5{f:Value->Value->Sem Value}(hf:∀(ρ:dF) (n:Nat) (v v' x x':Value),VR F U ρ n v v'->VR F U ρ n x x'->aQ P F U (AV F U) ρ n (f v x) (f v' x')){l l':List Value}:
  ∀{ρ:dF} {n:Nat} (_:LR F U ρ n l l') {v v':Value} (_:VR F U ρ n v v'),aQ P F U (AV F U) ρ n (l.foldlM f v) (l'.foldlM f v'):=by
 induction l generalizing l' with
 |nil=>intro ρ n h v v' hv;cases h;simp only [List.foldlM_nil];exact .pure hv
 |cons a l ih=>
  intro ρ n h v v' hv;cases h with
  |cons ha ht=>
   simp only [List.foldlM_cons];exact(hf _ _ _ _ _ _ hv ha).bind fun fE n1 b b' e1 hb=>ih (ht.ext e1) hb
theorem aD7{ts:Array TypeId}{ty:TypeId}{c c':Array Value}(h:AR F U ρ n c c'):aQ P F U (AV F U) ρ n (Builtin.min_ ts ty c) (Builtin.min_ ts ty c'):=by
 unfold Builtin.min_;have hl:=h.toList;revert hl;generalize c.toList=l;generalize c'.toList=l';intro hl;cases hl with
 |nil=>exact .stuck _ _
 |cons ha ht=>exact N5 (fun _ _ _ _ _ _ a b=>axF a b) ht ha
theorem aD8{ts:Array TypeId}{ty:TypeId}{c c':Array Value}(h:AR F U ρ n c c'):aQ P F U (AV F U) ρ n (Builtin.max_ ts ty c) (Builtin.max_ ts ty c'):=by
 unfold Builtin.max_;have hl:=h.toList;revert hl;generalize c.toList=l;generalize c'.toList=l';intro hl;cases hl with
 |nil=>exact .stuck _ _
 |cons ha ht=>exact N5 (fun _ _ _ _ _ _ a b=>axG a b) ht ha
theorem Vk{s d:TypeId}{k k':IntKind}(hs:P.underlying s=some (.int k))(hd:P.underlying d=some (.int k')){v v':Value}(h:VR F U ρ n v v'):
  aQ P F U (AV F U) ρ n (convert s d v) (convert s d v'):=by
 unfold convert;refine(bZ s).bind fun fE n1 x x' e1 hx=>?_;obtain⟨rfl,hx⟩:=hx;rw [hs]at hx;cases hx;refine(bZ d).bind fun xm n2 x x' e2 hx=>?_;obtain⟨rfl,hx⟩:=hx;rw [hd]at hx;cases hx;have h2:=(h.ext e1).ext e2;cases h2<;>first|exact .pure (.int _ _)|exact .unsupported _ _
theorem am6(op:UnOp){v v':Value}(h:VR F U ρ n v v'):aQ P F U (AV F U) ρ n (Op.unary op v) (Op.unary op v'):=by
 unfold Op.unary;cases op<;>cases h<;>first|exact .pure (.int _ _)|exact .pure (.bool _)|exact .stuck _ _|exact .unsupported _ _
theorem Vl(i:Nat){v v':Value}(h:VR F U ρ n v v'):aQ P F U (AV F U) ρ n (Instr.extract v i) (Instr.extract v' i):=by
 unfold Instr.extract;cases h with
 |tuple cs cL hs h=>
  cases hi:cs[i]? with
  |none=>simp only [hi];exact .stuck _ _
  |some x=>
   obtain⟨x',jc,hr⟩:=AR.get? ⟨hs,h⟩ hi;simp only [hi,jc];exact .pure hr
 |_=>exact .stuck _ _
theorem am7{t:TypeId}(ht:P.underlying t=some .string){v v' x x':Value}(h:VR F U ρ n v v')(hx:VR F U ρ n x x'):aQ P F U (AV F U) ρ n (Instr.index t v x) (Instr.index t v' x'):=by
 unfold Instr.index;refine(BL hx).bind fun fE n1 ki ki' e1 hk=>?_;subst hk;obtain⟨k,i⟩:=ki;simp only;refine(bZ t).bind fun xm n2 d d' e2 hd=>?_;obtain⟨rfl,hd⟩:=hd;rw [ht]at hd;cases hd;have h2:=(h.ext e1).ext e2;cases h2 with
 |string s=>
  simp only;split
  ·exact .pure (.int _ _)
  ·exact fS _ _ _ _ _
 |_=>exact .stuck _ _
theorem akL(op:BinOp)(t:TypeId)(k k':IntKind)(a b:Int):aQ P F U (AV F U) ρ n (binOp op t (.int k a) (.int k' b)) (binOp op t (.int k a) (.int k' b)):=by
 have hd:∀(e:RuntimeError),aQ P F U (AV F U) ρ n (runtimePanic e) (runtimePanic e):=fun e=>fj e _;cases op<;>simp only [binOp,Op.shift,Op.intArith,Op.intDiv,Op.intBits,Op.intCmp]<;>(repeat' split)<;>
  first|exact .pure (.int _ _)|exact .pure (.bool _)|exact .stuck _ _|exact hd _|(rename_i h;exact absurd rfl h)
theorem Hb(t:TypeId){a:Addr}(ha:HA U n a){x x':Value}(hx:VR F U ρ n x x'):
  aQ P F U (fun ρ n (v v':Value)=>∃b,v=.pointer (some b)/\v'=.pointer (some (ra ρ b))/\HA U n b) ρ n (Builtin.unsafeAdd_ #[] t #[.pointer (some a),x]) (Builtin.unsafeAdd_ #[] t #[.pointer (some (ra ρ a)),x']):=by
 refine(BK hx).bind fun fE n1 k k' e1 hk=>?_;subst hk;simp only;have hb:=ha.ext e1;have er:ra ρ a=ra fE a:=(dp e1 ha).symm;simp only [er];split
 ·refine(FF hb.1 hb.2).bind fun xm n2 v v' e2 hv=>?_;obtain⟨rfl,rfl⟩:=hv;exact .pure ⟨a,rfl,by rw [dp e2 hb],hb.ext e2⟩
 ·split
  ·exact .dead fun w _=>cH ⟨_,w,rfl,rfl⟩
  ·refine(ox hb.1 hb.2).bind fun xm n2 v v' e2 hv=>?_;subst hv;cases v with
   |none=>exact .unsupported _ _
   |some ec=>
    obtain⟨e,c⟩:=ec;refine ei.bind fun N1 n3 p p' e3 hp=>?_;obtain⟨rfl,rfl⟩:=hp;simp only [amV];split
    ·rename_i off axH;exact .pure ⟨{a with off},rfl,by rw [←dp e2 hb,←dp e3 (hb.ext e2)];rfl,(hb.ext e2).ext e3⟩
    ·exact .unsupported _ _
theorem BP(t:TypeId){a:Addr}(ha:HA U n a){x x':Value}(hx:VR F U ρ n x x'):aQ P F U (AV F U) ρ n (movedNumber t (.pointer (some a)) x) (movedNumber t (.pointer (some (ra ρ a))) x'):=by
 unfold movedNumber;refine(dx t).bind fun ρ0 n0 d d' e0 hd=>?_;subst hd;have ha0:=ha.ext e0;rw [←dp e0 ha];cases d<;>first
  |exact .dead fun w _=>cH ⟨_,w,rfl,rfl⟩
  |(
   simp only;refine(nQ ha0).bind fun fE n1 y y' e1 hy=>?_;obtain⟨y,l⟩:=y;obtain⟨hya,rfl⟩:=hy;simp only;refine(Hb t hya ((hx.ext e0).ext e1)).bind fun xm n2 v v' e2 hv=>?_;obtain⟨b,rfl,rfl,hb⟩:=hv;exact N4 hb l)
theorem Vm(k:IntKind){a:Addr}(ha:HA U n a)(m:Int):aQ P F U (AV F U) ρ n (Op.addrMod k a m) (Op.addrMod k (ra ρ a) m):=by
 unfold Op.addrMod;refine(ox ha.1 ha.2).bind fun fE n1 v v' e1 hv=>?_;subst hv;cases v with
 |none=>exact .unsupported _ _
 |some ec=>
  obtain⟨e,c⟩:=ec;simp only;refine(gL e).bind fun xm n2 ti ti' e2 h=>?_;subst h;split
  ·exact .dead fun w _=>cH ⟨_,w,rfl,rfl⟩
  ·have hb:=(ha.ext e1).ext e2;rw [←dp e1 ha,←dp e2 (ha.ext e1)];refine(xB hb).bind fun N1 n3 b b' e3 h=>?_;subst h;exact .pure (.int _ _)
theorem fF(op:BinOp)(a b:ByteArray):aQ P F U (AV F U) ρ n (Op.stringOp op a b) (Op.stringOp op a b):=by
 cases op<;>simp only [Op.stringOp]<;>(repeat' split)<;>first|exact .pure (.bool _)|exact .pure (.string _)|exact .stuck _ _|exact .unsupported _ _
theorem sC{w:World}(hw:Plain U n w){a:Addr}(ha:HA U n a):ov P (behindNumber a) w\/∃c l,(behindNumber a).run P w=.ok (c,l) w/\U c.block:=by
 unfold behindNumber numberAt;simp only [Sem.run_bind,run_shape,Result.andThen_ok];cases hs:(w.shape? a.block).isSome with
 |true=>simp only [if_true];exact .inr ⟨a,false,rfl,ha.2⟩
 |false=>
  simp only [Bool.false_eq_true,if_false];cases ho:w.heap[a.block]? with
  |none=>exact .inl ⟨.stuck "getObj: no such block",w,by simp [getObj,Sem.run,ho,World.shape?],rfl⟩
  |some o=>
   rcases hw _ _ ho with ⟨c,e,fr,rfl⟩|⟨y,l,rfl,hy⟩
   ·simp [World.shape?,ho]at hs
   ·exact .inr ⟨y,l,by simp [getObj,Sem.run,ho],hy.2⟩
theorem FG{w:World}(hG:∀r,U r->P.globals.size<=r)(hw:Plain U n w){a b:Addr}(ha:HA U n a)(hb:HA U n b)(f:Addr->Addr->Sem Value)(hf:∀x y w,U x.block->ov P (f x y) w):
  ov P (do f (←behindNumber a).1 (←behindNumber b).1:Sem Value) w:=by
 rcases sC (P:=P) hw ha with h1|⟨c,l,h1,hc⟩
 ·exact cH h1
 unfold ov;rw [Sem.run_bind,h1];simp only [Result.andThen_ok];rcases sC (P:=P) hw hb with h2|⟨c',l',h2,BQ⟩
 ·exact cH h2
 rw [Sem.run_bind,h2];exact hf _ _ _ hc
theorem tM{α:Type}(hG:∀r,U r->P.globals.size<=r){a b:Addr}(ha:U a.block)(f:Nat×Nat->Sem α)(w:World):ov P (Op.twoPlaces a b>>=f) w:=by
 refine cH ?_;unfold ov Op.twoPlaces;have hg:=hG _ ha;simp only [Sem.run_bind,run_program,Result.andThen_ok];have:(a.block !=b.block||decide (a.block>=P.globals.size))=true:=by simp [hg]
 simp only [this,if_true];exact⟨_,w,rfl,rfl⟩
theorem N6(hG:∀r,U r->P.globals.size<=r){t:TypeId}{k:IntKind}(ht:P.underlying t=some (.int k))(xl:∀i,P.info? t=some i->∀u,i.desc≠.named "sync.copyChecker" u){v v' x x':Value}(h:VR F U ρ n v v')(hx:VR F U ρ n x x'):
  aQ P F U Same ρ n (Op.equal t v x) (Op.equal t v' x'):=by
 unfold Op.equal Op.maxDepth Op.equalIn;refine(bZ t).bind fun fE n1 d d' e1 hd=>?_;obtain⟨rfl,hd⟩:=hd;rw [ht]at hd;cases hd;have h1:=h.ext e1;have hx1:=hx.ext e1;clear h hx;have hpp:∀a b:Addr,HA U n1 a->HA U n1 b->∀s',aQ P F U Same fE n1 (do
   let(a,b):=((←behindNumber a).1,(←behindNumber b).1)
   if a.block==b.block&&a.block<(←program).globals.size then return (←byteOf a)==(←byteOf b)
   let .named "sync.copyChecker" _:=(←typeInfo t).desc|unsupported .addressObserved
   if a==b then pure true else unsupported .addressObserved) s':=by
  intro a b ha hb s';refine .dead fun w hw=>?_;have nb:=fun a ha=>sC (P:=P) (n:=n1) hw (a:=a) ha;rcases nb a ha with h1|⟨c,l,h1,hc⟩
  ·exact cH h1
  unfold ov;rw [Sem.run_bind,h1];simp only [Result.andThen_ok];rcases nb b hb with h2|⟨c',l',h2,BQ⟩
  ·exact cH h2
  rw [Sem.run_bind,h2];simp only [Result.andThen_ok,Sem.run_bind,run_program];have hg:=hG _ hc;have:(c.block==c'.block&&decide (c.block<P.globals.size))=false:=by
   have:¬c.block<P.globals.size:=by omega
   simp [this]
  simp only [this,Bool.false_eq_true,if_false];unfold typeInfo;simp only [Sem.run_bind,run_program,Result.andThen_ok];cases hi:P.info? t with
  |none=>exact⟨_,_,rfl,rfl⟩
  |some i=>
   have hp:(pure i:Sem TypeInfo).run P w=.ok i w:=rfl;simp only [hp,Result.andThen_ok];split
   ·next u hu=>exact absurd hu (xl i hi u)
   ·exact⟨_,w,rfl,rfl⟩
 cases h1 with
 |int k1 a=>
  cases hx1 with
  |int k2 b=>simp only;split<;>first|exact .pure rfl|exact .stuck _ _
  |ptr b hb=>exact(match a with|.ofNat 0=>.pure rfl|.ofNat (_+1)=>.unsupported _ _|.negSucc _=>.unsupported _ _)
  |_=>first|exact .stuck _ _|exact .unsupported _ _
 |ptr a ha=>
  cases hx1 with
  |int k2 b=>exact(match b with|.ofNat 0=>.pure rfl|.ofNat (_+1)=>.unsupported _ _|.negSucc _=>.unsupported _ _)
  |ptr b hb=>exact hpp a b ha hb _
  |_=>first|exact .stuck _ _|exact .unsupported _ _
 |_=>cases hx1<;>first|exact .stuck _ _|exact .unsupported _ _
theorem Vn(t:TypeId)(x:Value)(w:World):ov P (Builtin.unsafeAdd_ #[] t #[.pointer none,x]) w:=by
 refine cS (cq.asInt x) fun k w'=>?_;simp only
 (repeat' split)<;>first|exact⟨_,w',rfl,rfl⟩|exact cH ⟨_,w',rfl,rfl⟩
theorem BR(t:TypeId)(x:Value)(w:World):ov P (movedNumber t (.pointer none) x) w:=by
 unfold movedNumber;refine cS (cq.underlying t) fun d w'=>?_;have:=fun t=>Vn (P:=P) t x w';simp only;split
 ·exact cH ⟨_,w',rfl,rfl⟩
 ·exact this t
theorem FH{t:TypeId}{k:IntKind}(ht:P.underlying t=some (.int k)){o:Option Addr}{v' x x':Value}(h:VR F U ρ n (.pointer o) v')(hx:VR F U ρ n x x'):
  aQ P F U (AV F U) ρ n (movedNumber t (.pointer o) x) (movedNumber t v' x'):=by
 cases h with
 |gZ=>exact .dead fun w _=>BR t x w
 |ptr a ha=>exact BP t ha hx
theorem am8(hG:∀r,U r->P.globals.size<=r){t:TypeId}{k:IntKind}(ht:P.underlying t=some (.int k))(xl:∀i,P.info? t=some i->∀u,i.desc≠.named "sync.copyChecker" u)
  (op:BinOp){v v' x x':Value}(h:VR F U ρ n v v')(hx:VR F U ρ n x x'):aQ P F U (AV F U) ρ n (binOp op t v x) (binOp op t v' x'):=by
 have heq:aQ P F U (AV F U) ρ n (do pure (.bool (←Op.equal t v x))) (do pure (.bool (←Op.equal t v' x'))):=
  (N6 hG ht xl h hx).bind fun fE n1 a a' e1 ha=>by subst ha;exact .pure (.bool _)
 have E5:aQ P F U (AV F U) ρ n (do pure (.bool (!(←Op.equal t v x)))) (do pure (.bool (!(←Op.equal t v' x')))):=
  (N6 hG ht xl h hx).bind fun fE n1 a a' e1 ha=>by subst ha;exact .pure (.bool _)
 have axI:∀(o:Option Addr) (u y y':Value),VR F U ρ n (.pointer o) u->VR F U ρ n y y'->aQ P F U (AV F U) ρ n
   (do if(←underlying t) matches .unsafePointer then movedPointer t (.pointer o) y else movedNumber t (.pointer o) y)
   (do if(←underlying t) matches .unsafePointer then movedPointer t u y' else movedNumber t u y'):=by
  intro o u y y' hu hy;refine(bZ t).bind fun fE n1 d d' e1 hd=>?_;obtain⟨rfl,hd⟩:=hd;rw [ht]at hd;cases hd;exact FH ht (hu.ext e1) (hy.ext e1)
 have axJ:∀(o:Option Addr) (u y y':Value),VR F U ρ n (.pointer o) u->VR F U ρ n y y'->aQ P F U (AV F U) ρ n (movedNumber t (.pointer o) y) (movedNumber t u y'):=fun o u y y' hu hy=>FH ht hu hy;have aX6:∀(a b:Addr),HA U n a->HA U n b->∀a' b',aQ P F U (AV F U) ρ n (do Op.addrSub .u64 (←behindNumber a).1 (←behindNumber b).1) (do Op.addrSub .u64 (←behindNumber a').1 (←behindNumber b').1):=by
  intro a b ha hb a' b';exact .dead fun w hw=>FG hG hw ha hb (Op.addrSub .u64) fun x y w hx=>tM hG hx _ w
 have aX7:∀(op:BinOp) (a b:Addr),HA U n a->HA U n b->∀a' b',aQ P F U (AV F U) ρ n (do Op.addrCmp op (←behindNumber a).1 (←behindNumber b).1) (do Op.addrCmp op (←behindNumber a').1 (←behindNumber b').1):=by
  intro op a b ha hb a' b';exact .dead fun w hw=>FG hG hw ha hb (Op.addrCmp op) fun x y w hx=>tM hG hx _ w
 have aPp:∀(a:Addr) (j:IntKind) (m:Int),HA U n a->aQ P F U (AV F U) ρ n (do Op.addrMod j (←behindNumber a).1 m) (do Op.addrMod j (←behindNumber (ra ρ a)).1 m):=by
  intro a j m ha;refine(nQ ha).bind fun fE n1 y y' e1 hy=>?_;rw [hy.2];exact Vm j hy.1 m
 cases h with
 |int k1 a=>
  cases hx with
  |int k2 b=>exact akL op t k1 k2 a b
  |gZ=>cases op<;>first|exact heq|exact E5|exact .stuck _ _|exact .unsupported _ _|exact axJ _ _ _ _ .gZ (.int _ _)
  |ptr b hb=>cases op<;>first|exact heq|exact E5|exact .stuck _ _|exact .unsupported _ _|exact axJ _ _ _ _ (.ptr b hb) (.int _ _)|exact aPp b _ _ hb
  |_=>cases op<;>first|exact heq|exact E5|exact .stuck _ _
 |gZ=>
  cases hx with
  |int k2 b=>cases op<;>first|exact heq|exact E5|exact .stuck _ _|exact .unsupported _ _|exact axI _ _ _ _ .gZ (.int _ _)|exact axJ _ _ _ _ .gZ (.int _ _)
  |_=>cases op<;>first|exact heq|exact E5|exact .stuck _ _|exact .unsupported _ _
 |ptr a ha=>
  cases hx with
  |int k2 b=>cases op<;>first|exact heq|exact E5|exact .stuck _ _|exact .unsupported _ _|exact axI _ _ _ _ (.ptr a ha) (.int _ _)|exact axJ _ _ _ _ (.ptr a ha) (.int _ _)|exact aPp a _ _ ha
  |ptr b hb=>cases op<;>first|exact heq|exact E5|exact .stuck _ _|exact .unsupported _ _|exact aX6 a b ha hb _ _|exact aX7 _ a b ha hb _ _
  |_=>cases op<;>first|exact heq|exact E5|exact .stuck _ _|exact .unsupported _ _
 |string s=>
  cases hx with
  |string u=>cases op<;>first|exact fF .add s u|exact fF .sub s u|exact fF .mul s u|exact fF .quo s u|exact fF .rem s u|exact fF .and s u|exact fF .or s u|exact fF .xor s u|exact fF .shl s u|exact fF .shr s u|exact fF .andNot s u|exact fF .eql s u|exact fF .neq s u|exact fF .lss s u|exact fF .leq s u|exact fF .gtr s u|exact fF .geq s u
  |_=>cases op<;>first|exact heq|exact E5|exact .stuck _ _|exact .unsupported _ _
 |_=>cases hx<;>cases op<;>first|exact heq|exact E5|exact .stuck _ _|exact .unsupported _ _
def fp(F:FuncId->Bool):Operand->Bool
 |.tmp _=>true
 |.const v=>FE v
 |.global _=>false
 |.func f=>F f
def sE(P:Program)(t:TypeId):Bool:=match P.underlying t with|some (.int _)=>true|_=>false
def Hc(P:Program)(t:TypeId):Bool:=match P.info? t with
 |some i=>match i.desc with|.named s _=>s != "sync.copyChecker" |_=>true
 |none=>true
def am9(P:Program)(t:TypeId):Bool:=match P.underlying t with|some .string=>true|_=>false
def l7(P:Program)(t:TypeId):Bool:=match P.underlying t with|some (.slice e)=>kj P e|_=>true
def FI(P:Program)(b:Builtin)(ts:Array TypeId):Bool:=match b with
 |.len=>match ts[0]? with|some t=>(match P.underlying t with|some (.slice _)|some .string=>true|_=>false)|none=>true
 |.append=>(match ts[0]? with|some t=>l7 P t|none=>true)&&(match ts[1]? with|some t=>!sE P t|none=>true)
 |.min|.max=>true
 |_=>false
def N7(P:Program)(F:FuncId->Bool):Op->Bool
 |.move x|.assign x|.nilCheck x|.load _ x|.box _ x|.fieldAddr _ x _|.extract x _|.unOp _ _ x=>fp F x
 |.pick c a b=>fp F c&&fp F a&&fp F b
 |.alloc e=>kj P e
 |.build t ps=>kj P t&&ps.all (fun p=>fp F p.2)
 |.buildSlice t _ ps=>l7 P t&&ps.all (fun p=>fp F p.2)
 |.store _ a x|.indexAddr _ a x=>fp F a&&fp F x
 |.makeSlice t l c=>l7 P t&&fp F l&&fp F c
 |.binOp _ t x y _=>sE P t&&Hc P t&&fp F x&&fp F y
 |.convert s d x=>sE P s&&sE P d&&fp F x
 |.index t x i=>am9 P t&&fp F x&&fp F i
 |.call c=>c.args.all (fp F)&&match c.callee with
  |.value f=>fp F f
  |.builtin b=>FI P b c.argTypes
  |.invoke ..=>false
 |_=>false
inductive rW(F:FuncId->Bool)(U:Nat->Prop)(ρ:dF)(n:Nat):Next->Next->Prop
 |value {v v':Value} (h:VR F U ρ n v v'):rW F U ρ n (.value v) (.value v')
 |skip:rW F U ρ n .skip .skip
 |enter {f:FuncId} {az az':Array Value} (hf:F f=true) (h:AR F U ρ n az az'):rW F U ρ n (.enter f az) (.enter f az')
def E6(P:Program)(F:FuncId->Bool):Prop:=∀f,F f=true->∃fn,P.funcs[f]? =some fn/\fn.body.isNone=false/\(fn.name== "runtime.NumGoroutine")=false
theorem dc{s s':Sem Value}(h:aQ P F U (AV F U) ρ n s s'):aQ P F U (rW F U) ρ n (do pure (.value (←s))) (do pure (.value (←s'))):=
 h.bind fun _ _ _ _ _ hv=>.pure (.value hv)
theorem axK{s s':Sem Unit}(h:aQ P F U Same ρ n s s'):aQ P F U (rW F U) ρ n (do s;pure .skip) (do s';pure .skip):=
 h.bind fun _ _ _ _ _ _=>.pure .skip
theorem N8(hF:E6 P F){f:FuncId}(hf:F f=true){az az':Array Value}(h:AR F U ρ n az az'):aQ P F U (rW F U) ρ n (callFunc f az) (callFunc f az'):=by
 unfold callFunc;refine ei.bind fun fE n1 a b e1 hp=>?_;obtain⟨rfl,rfl⟩:=hp;obtain⟨fn,h1,h2,h3⟩:=hF f hf;simp only [h1,h2,h3,Bool.false_eq_true,if_false];exact .pure (.enter hf (h.ext e1))
theorem Vo{ev ev':Operand->Value}(he:∀x,fp F x=true->VR F U ρ n (ev x) (ev' x)){xs:Array Operand}(h:xs.all (fp F)=true):AR F U ρ n (xs.map ev) (xs.map ev'):=by
 refine .lK (by simp) fun i v v' hv yM=>?_
 rw [Array.getElem?_map]at hv yM;obtain⟨y,hy,rfl⟩:=Option.map_eq_some_iff.1 hv;rw [hy]at yM;cases yM;obtain⟨hi,rfl⟩:=Array.getElem?_eq_some_iff.1 hy;exact he _ (Array.all_eq_true.1 h i hi)
theorem parts_eval{ev ev':Operand->Value}(he:∀x,fp F x=true->VR F U ρ n (ev x) (ev' x)){ps:Array (Nat×Operand)}(h:ps.all (fun p=>fp F p.2)=true):
  PR F U ρ n (ps.map fun(i,x)=>(i,ev x)).toList (ps.map fun(i,x)=>(i,ev' x)).toList:=by
 rw [Array.toList_map,Array.toList_map];refine PR.map _ fun x hx=>he _ ?_;obtain⟨i,hi,rfl⟩:=Array.mem_iff_getElem.1 (Array.mem_toList_iff.1 hx);exact Array.all_eq_true.1 h i hi
theorem sF{t:TypeId}(h:l7 P t=true):∀e,P.underlying t=some (.slice e)->kj P e=true:=by
 intro e he;simpa [l7,he]using h
theorem BS{t:TypeId}(h:sE P t=true):∃k,P.underlying t=some (.int k):=by
 unfold sE at h;split at h
 ·rename_i k hk;exact⟨k,hk⟩
 ·cases h
theorem Vp{t:TypeId}(h:Hc P t=true):∀i,P.info? t=some i->∀u,i.desc≠.named "sync.copyChecker" u:=by
 intro i hi u hu;simp [Hc,hi,hu]at h
theorem Hd{t:TypeId}{k:IntKind}(ht:P.underlying t=some (.int k))(a a' b b':Value):aQ P F U (fun _ _ (x y:Bool)=>x=false/\y=false) ρ n (Op.eqGuardIn Op.maxDepth t a b) (Op.eqGuardIn Op.maxDepth t a' b'):=by
 unfold Op.maxDepth Op.eqGuardIn;refine(bZ t).bind fun fE n1 d d' e1 hd=>?_;obtain⟨rfl,hd⟩:=hd;rw [ht]at hd;cases hd;exact .pure ⟨rfl,rfl⟩
theorem Vq{t:TypeId}{k:IntKind}(ht:P.underlying t=some (.int k))(op:BinOp)(x y:Operand){a a' b b':Value}(ha:VR F U ρ n a a')(hb:VR F U ρ n b b'):
  aQ P F U (fun _ _ (_ _:Unit)=>True) ρ n (eqGuard op t x y a b) (eqGuard op t x y a' b'):=by
 have hag:∀(c d c' d':Array Value) (u:Unsupported),aQ P F U (fun _ _ (_ _:Unit)=>True) ρ n
   (do
    if !(←program).eqGuardType (←program).depth t then return
    if←Op.eqGuardIn Op.maxDepth t (.agg c) (.agg d)then unsupported u)
   (do
    if !(←program).eqGuardType (←program).depth t then return
    if←Op.eqGuardIn Op.maxDepth t (.agg c') (.agg d')then unsupported u):=by
  intro c d c' d' u;refine ei.bind fun fE n1 p p' e1 hp=>?_;obtain⟨rfl,rfl⟩:=hp;refine ei.bind fun xm n2 p p' e2 hp=>?_;obtain⟨rfl,rfl⟩:=hp;split
  ·exact .pure trivial
  ·refine(Hd ht _ _ _ _).bind fun N1 n3 z z' e3 hz=>?_;obtain⟨rfl,rfl⟩:=hz;exact .pure trivial
 cases op<;>first
  |exact .pure trivial
  |(cases ha<;>cases hb<;>first|exact .pure trivial|exact hag _ _ _ _ _)
theorem N9(hG:∀r,U r->P.globals.size<=r)(hF:E6 P F){o:Oper}(ho:N7 P F o.op=true){ev ev':Operand->Value}(he:∀x,fp F x=true->VR F U ρ n (ev x) (ev' x)):
  aQ P F U (rW F U) ρ n (execOp ev o) (execOp ev' o):=by
 unfold execOp;cases aE:o.op<;>rw [aE]at ho<;>simp only [N7,Bool.and_eq_true,Bool.false_eq_true]at ho<;>simp only;case move x=>exact .pure (.value (he _ ho))
 case assign x=>exact .pure (.value (he _ ho))
 case pick c a b=>
  refine(xC (he c ho.1.1)).bind fun fE n1 t t' e1 h=>?_;subst h;cases t
  ·exact .pure (.value ((he _ ho.2).ext e1))
  ·exact .pure (.value ((he _ ho.1.2).ext e1))
 case alloc e=>exact dc (am1 ho)
 case box e x=>exact dc (aD3 e (he _ ho))
 case build t ps=>exact dc (am3 ho.1 (parts_eval he ho.2))
 case buildSlice t l ps=>exact dc (E4 (sF ho.1) l (parts_eval he ho.2))
 case load t x=>exact dc (akH t (he _ ho))
 case store t a x=>exact axK (Vg t (he _ ho.1) (he _ ho.2))
 case nilCheck x=>
  have hx:=he _ ho;revert hx;generalize ev x=v;generalize ev' x=v';intro hx;cases hx<;>first
   |exact fj _ _
   |exact .pure (.value (by constructor<;>assumption))
   |exact .pure (.value (by constructor))
 case binOp op t x y yt=>
  obtain⟨⟨⟨h1,h2⟩,h3⟩,h4⟩:=ho;obtain⟨k,hk⟩:=BS h1;exact dc ((Vq hk op x y (he _ h3) (he _ h4)).bind fun fE n1 _ _ e1 _=>am8 hG hk (Vp h2) op ((he _ h3).ext e1) ((he _ h4).ext e1))
 case unOp op t x=>exact dc (am6 op (he _ ho))
 case convert s d x=>
  obtain⟨⟨h1,h2⟩,h3⟩:=ho;obtain⟨k,hk⟩:=BS h1;obtain⟨k',cm⟩:=BS h2;exact dc (Vk hk cm (he _ h3))
 case makeSlice t l c=>exact dc (Ha (sF ho.1.1) (he _ ho.1.2) (he _ ho.2))
 case fieldAddr t x i=>exact dc (Vh t i (he _ ho))
 case indexAddr t x i=>exact dc (Vi t (he _ ho.1) (he _ ho.2))
 case index t x i=>
  obtain⟨⟨h1,h2⟩,h3⟩:=ho;have hs:P.underlying t=some .string:=by
   unfold am9 at h1;split at h1
   ·assumption
   ·cases h1
  exact dc (am7 hs (he _ h2) (he _ h3))
 case extract x i=>exact dc (Vl i (he _ ho))
 case call c=>
  obtain⟨h1,h2⟩:=ho;have ha:=Vo he h1;unfold resolve;cases hc:c.callee with
  |invoke r m=>rw [hc]at h2;cases h2
  |builtin b=>
   rw [hc]at h2;show aQ P F U (rW F U) ρ n (builtin b c.argTypes o.type _ (c.args.map ev)) (builtin b c.argTypes o.type _ (c.args.map ev'))
   cases b<;>simp only [FI,Bool.false_eq_true,Bool.and_eq_true]at h2;case len=>
    refine dc (aD6 (fun t ht=>?_) ha);simp only [ht]at h2;split at h2
    ·rename_i e hh;exact .inl ⟨e,hh⟩
    ·rename_i hh;exact .inr hh
    ·cases h2
   case append=>
    refine dc (akI (fun s e hs he=>?_) (fun t k ht hk=>?_) ha)
    ·have:=h2.1;simp only [hs]at this;exact sF this e he
    ·have:=h2.2;simp [ht,sE,hk]at this
   case min=>exact dc (aD7 ha)
   case max=>exact dc (aD8 ha)
  |value f=>
   rw [hc]at h2;simp only at h2⊢;have hf:=he _ h2;revert hf;generalize ev f=v;generalize ev' f=v';intro hf;cases hf with
   |func g hg=>
    show aQ P F U (rW F U) ρ n (callFunc g ((#[]++c.args.map ev)++#[])) (callFunc g ((#[]++c.args.map ev')++#[]))
    exact N8 hF hg ((AR.nil.append ha).append AR.nil)
   |nilFunc=>exact(show aQ P F U (rW F U) ρ n (runtimePanic .nilDeref) _ from fj _ _)
   |_=>exact .stuck _ _
def bt(P:Program)(F:FuncId->Bool):Code->Bool
 |.skip|.label _|.ret|.exit _=>true
 |.seq a b=>bt P F a&&bt P F b
 |.cond c a b=>fp F c&&bt P F a&&bt P F b
 |.block _ c|.loop c|.scope c=>bt P F c
 |.region _ ops _=>ops.all (fun o=>N7 P F o.op)
 |_=>false
def lM(P:Program)(F:FuncId->Bool):Item->Bool
 |.code c|.inLoop c|.inScope c=>bt P F c
 |.inBlock _=>true
 |.inRegion ops _=>ops.all (fun o=>N7 P F o.op)
 |_=>false
def lN(P:Program)(F:FuncId->Bool):Prop:=∀f,F f=true->∃fn c,P.funcs[f]? =some fn/\fn.body=some c/\bt P F c=true
structure FOk(P:Program)(F:FuncId->Bool)(fr:Frame):Prop where
 defers:fr.defers=[]
 kind:fr.kind=.normal
 round:fr.roundOf=none
 items:∀i∈fr.todo,lM P F i=true
 fn:F fr.fn=true
 mode:fr.mode=.run\/fr.mode=.returning
def cz(P:Program)(fr:Frame)(cs:List Frame):Sem (Option (Frame×List Frame)):=
 match fr.mode with
 |.returning=>match P.funcs[fr.fn]?,cs with
  |some fn,c::cL=>do let v←results fn fr.tmps;pure (some (c.finish v,cL))
  |_,_=>pure none
 |.panicking _=>pure none
 |.run=>match fr.todo with
  |[]|.code .ret::_=>pure (some ({fr with mode:=.returning},cs))
  |.code .skip::k|.code (.label _)::k|.inBlock _::k|.inScope _::k=>pure (some ({fr with todo:=k},cs))
  |.code (.seq a b)::k=>pure (some ({fr with todo:=.code a::.code b::k},cs))
  |.code (.cond c a b)::k=>match fr.eval c with
   |.bool t=>pure (some ({fr with todo:=.code (if t then a else b)::k},cs))
   |_=>pure none
  |.code (.block id c)::k=>pure (some ({fr with todo:=.code c::.inBlock id::k},cs))
  |.code (.loop c)::k|.inLoop c::k=>pure (some ({fr with todo:=.code c::.inLoop c::k},cs))
  |.code (.scope c)::k=>pure (some ({fr with todo:=.code c::.inScope c::k},cs))
  |.code (.exit id)::k=>match exitTo id k with
   |some k'=>pure (some ({fr with todo:=k'},cs))
   |none=>pure none
  |.code (.region id ops draw)::k=>
   if draw then do
    let t←choose (.order fr.fn id)
    pure (some ({fr with todo:=.inRegion ops (Region.schedule (P.follows .mixedOrders) ops t)::k},cs))
   else pure (some ({fr with todo:=.inRegion ops (List.range ops.size)::k},cs))
  |.inRegion _ []::k=>pure (some ({fr with todo:=k},cs))
  |.inRegion ops (i::_)::_=>
   if((ops[i]?).map (Region.wanted · (yielded ops fr.tmps))).getD false then
    match ops[i]? with
    |none=>pure none
    |some o=>do
     match←execOp fr.eval o with
     |.value v=>pure (some (fr.finish v,cs))
     |.skip=>pure (some (fr.finish undef,cs))
     |.enter f az=>pure (some (Frame.enter P f az .normal,fr::cs))
     |_=>pure none
   else pure (some (fr.finish undef,cs))
  |_=>pure none
section
variable {w:World}
theorem aR{α:Type}(a:α)(w:World):(pure a:Sem α).run P w=.ok a w:=rfl
theorem tN(h:FOk P F fr)(main:Bool){Oa:Frame}{cs1:List Frame}{w1:World}(hr:(cz P fr cs).run P w=.ok (some (Oa,cs1)) w1):
  ∃es,stepG P main (G fr cs) w=.go (G Oa cs1) w1 es/\∀e∈es,e∈(cz P fr cs).events P w #[]:=by
 obtain⟨fn,tmps,todo,defers,mode,kind,round⟩:=fr;obtain⟨h1,h2,h3,h4,h5,h6⟩:=h;simp only at h1 h2 h3 h4 h5 h6;subst h1 h2 h3;have evs:∀(es:Array Event) (fn:FuncId),∀e∈seen P fn es,e∈es:=fun es fn e he=>mem_seen he;rcases h6 with rfl|rfl
 ·cases todo with
  |nil=>
   simp only [cz,aR]at hr;cases hr;exact⟨#[],by simp [G,stepG,stepG.exec],by simp⟩
  |cons it k=>
   cases it with
   |inBlock id=>simp only [cz,aR]at hr;cases hr;exact⟨#[],by simp [G,stepG,stepG.exec],by simp⟩
   |inScope c=>simp only [cz,aR]at hr;cases hr;exact⟨#[],by simp [G,stepG,stepG.exec],by simp⟩
   |inLoop c=>simp only [cz,aR]at hr;cases hr;exact⟨#[],by simp [G,stepG,stepG.exec],by simp⟩
   |inRegion ops l=>
    cases l with
    |nil=>simp only [cz,aR]at hr;cases hr;exact⟨#[],by simp [G,stepG,stepG.exec],by simp⟩
    |cons j rest=>
     simp only [cz]at hr⊢;split at hr
     ·rename_i hw;simp only [hw,if_true]at hr⊢;cases ho:ops[j]? with
      |none=>simp only [ho,aR]at hr;cases hr
      |some o=>
       simp only [ho]at hr⊢;have hw':Region.wanted o (yielded ops tmps)=true:=by simpa [ho]using hw
       rw [Sem.run_bind]at hr;cases hx:(execOp (Frame.eval ⟨fn,tmps,.inRegion ops (j::rest)::k,[],.run,.normal,none⟩) o).run P w with
       |halt e w2=>rw [hx]at hr;cases hr
       |ok nx w2=>
        rw [hx]at hr;simp only [Result.andThen_ok]at hr;have gN:(do
          match←execOp (Frame.eval ⟨fn,tmps,.inRegion ops (j::rest)::k,[],.run,.normal,none⟩) o with
          |.value v=>pure (some (Frame.finish ⟨fn,tmps,.inRegion ops (j::rest)::k,[],.run,.normal,none⟩ v,cs))
          |.skip=>pure (some (Frame.finish ⟨fn,tmps,.inRegion ops (j::rest)::k,[],.run,.normal,none⟩ undef,cs))
          |.enter f az=>pure (some (Frame.enter P f az .normal,(⟨fn,tmps,.inRegion ops (j::rest)::k,[],.run,.normal,none⟩:Frame)::cs))
          |_=>pure none:Sem (Option (Frame×List Frame))).events P w #[]=(execOp (Frame.eval ⟨fn,tmps,.inRegion ops (j::rest)::k,[],.run,.normal,none⟩) o).events P w #[]:=by
         rw [Sem.events_bind,hx];simp only [Result.evThen_ok];cases nx<;>rfl
        rw [gN];cases nx<;>simp only [aR]at hr<;>first|(cases hr;done)|(cases hr;exact⟨_,by simp [G,stepG,stepG.exec,stepG.oper,Frame.oper?,ho,hw',stepG.apply,hx,GStep.after];rfl,evs _ _⟩)
     ·rename_i hw;simp only [aR]at hr;cases hr;simp only [hw,if_false];refine⟨#[],?_,by simp⟩
      have xn:((ops[j]?).map (Region.wanted · (yielded ops tmps))).getD false=false:=by simpa using hw
      simp [G,stepG,stepG.exec,xn]
   |code c=>
    cases c with
    |skip=>simp only [cz,aR]at hr;cases hr;exact⟨#[],by simp [G,stepG,stepG.exec],by simp⟩
    |label l=>simp only [cz,aR]at hr;cases hr;exact⟨#[],by simp [G,stepG,stepG.exec],by simp⟩
    |ret=>simp only [cz,aR]at hr;cases hr;exact⟨#[],by simp [G,stepG,stepG.exec],by simp⟩
    |seq a b=>simp only [cz,aR]at hr;cases hr;exact⟨#[],by simp [G,stepG,stepG.exec],by simp⟩
    |block id c=>simp only [cz,aR]at hr;cases hr;exact⟨#[],by simp [G,stepG,stepG.exec],by simp⟩
    |loop c=>simp only [cz,aR]at hr;cases hr;exact⟨#[],by simp [G,stepG,stepG.exec],by simp⟩
    |scope c=>simp only [cz,aR]at hr;cases hr;exact⟨#[],by simp [G,stepG,stepG.exec],by simp⟩
    |cond c a b=>
     simp only [cz]at hr⊢;split at hr
     ·rename_i t ht;simp only [aR]at hr;cases hr;exact⟨#[],by simp [G,stepG,stepG.exec,ht],by simp⟩
     ·simp only [aR]at hr;cases hr
    |exit id=>
     simp only [cz]at hr⊢;split at hr
     ·rename_i k' hk;simp only [aR]at hr;cases hr;exact⟨#[],by simp [G,stepG,stepG.exec,hk],by simp⟩
     ·simp only [aR]at hr;cases hr
    |region id ops draw=>
     cases draw with
     |false=>simp [cz,aR]at hr;obtain⟨⟨rfl,rfl⟩,rfl⟩:=hr;exact⟨#[],by simp [G,stepG,stepG.exec],by simp⟩
     |true=>
      simp [cz,choose,Sem.run,Question.forced,Question.cut]at hr;obtain⟨⟨rfl,rfl⟩,rfl⟩:=hr;exact⟨#[],by simp [G,stepG,stepG.exec,choose,Sem.run,Question.forced,Question.cut],by simp⟩
    |_=>simp only [cz,aR]at hr;cases hr
   |_=>simp only [cz,aR]at hr;cases hr
 ·simp only [cz]at hr⊢;split at hr
  ·rename_i f c cL hf;try simp only [hf]
   rw [Sem.run_bind]at hr;cases hx:(results f tmps).run P w with
   |halt e w2=>rw [hx]at hr;cases hr
   |ok v w2=>
    rw [hx]at hr;simp only [Result.andThen_ok,aR]at hr;cases hr;refine⟨_,by simp [G,stepG,unwind,hf,hx,doReturn,GStep.after];rfl,?_⟩
    intro e he;rw [Sem.events_bind,hx];exact evs _ _ e he
  ·simp only [aR]at hr;cases hr
end
structure FR(P:Program)(F:FuncId->Bool)(U:Nat->Prop)(ρ:dF)(n:Nat)(fr eF:Frame):Prop where
 ok:FOk P F fr
 eq:eF={fr with tmps:=eF.tmps}
 tmps:AR F U ρ n fr.tmps eF.tmps
inductive SK(P:Program)(F:FuncId->Bool)(U:Nat->Prop)(ρ:dF)(n:Nat)(bs base:List Frame):List Frame->List Frame->Prop
 |nil:SK P F U ρ n bs base bs base
 |cons {fr eF:Frame} {cs cL:List Frame} (h:FR P F U ρ n fr eF) (t:SK P F U ρ n bs base cs cL):SK P F U ρ n bs base (fr::cs) (eF::cL)
section
variable {bs base:List Frame} {eF:Frame} {cL:List Frame}
theorem FR.ext(h:FR P F U ρ n fr eF)(e:Ext ρ n db n'):FR P F U db n' fr eF:=⟨h.ok,h.eq,h.tmps.ext e⟩
theorem SK.ext(h:SK P F U ρ n bs base cs cL)(e:Ext ρ n db n'):SK P F U db n' bs base cs cL:=by
 induction h with
 |nil=>exact .nil
 |cons h _ ih=>exact .cons (h.ext e) ih
theorem FR.eval(h:FR P F U ρ n fr eF)(x:Operand)(hx:fp F x=true):VR F U ρ n (fr.eval x) (eF.eval x):=by
 cases x with
 |tmp t=>exact h.tmps.getD t
 |const v=>exact VR.const hx
 |global g=>cases hx
 |func f=>exact .func f hx
theorem Oc{a a':Array Value}(h:AR F U ρ n a a')(ops:Array Oper)(j:Nat):yielded ops a' j=yielded ops a j:=by
 unfold yielded;cases hd:(ops[j]?).bind (·.dst)with
 |none=>rfl
 |some t=>
  simp only [Option.bind_some];cases ht:a[t]? with
  |none=>rw [h.none ht]
  |some v=>
   obtain⟨v',yM,hr⟩:=h.get? ht;rw [yM];cases hr<;>rfl
theorem FR.fq(h:FR P F U ρ n fr eF){todo:List Item}(ht:∀i∈todo,lM P F i=true):FR P F U ρ n {fr with todo} {eF with todo}:=by
 refine⟨⟨h.ok.defers,h.ok.kind,h.ok.round,ht,h.ok.fn,h.ok.mode⟩,?_,h.tmps⟩;conv=>lhs;rw [h.eq]
theorem FR.ret(h:FR P F U ρ n fr eF):FR P F U ρ n {fr with mode:=.returning} {eF with mode:=.returning}:=by
 refine⟨⟨h.ok.defers,h.ok.kind,h.ok.round,h.ok.items,h.ok.fn,.inr rfl⟩,?_,h.tmps⟩;conv=>lhs;rw [h.eq]
theorem FR.todo(h:FR P F U ρ n fr eF):eF.todo=fr.todo:=by rw [h.eq]
theorem FR.mode(h:FR P F U ρ n fr eF):eF.mode=fr.mode:=by rw [h.eq]
theorem FR.fn(h:FR P F U ρ n fr eF):eF.fn=fr.fn:=by rw [h.eq]
theorem FR.finish(h:FR P F U ρ n fr eF){v v':Value}(hv:VR F U ρ n v v'):FR P F U ρ n (fr.finish v) (eF.finish v'):=by
 obtain⟨fn,tmps,todo,defers,mode,kind,round⟩:=fr;obtain⟨fn',aar,FJ,aas,aAU,aAV,anb⟩:=eF;have he:=h.eq;simp only [Frame.mk.injEq]at he;obtain⟨rfl,-,rfl,rfl,rfl,rfl,rfl⟩:=he;have ho:=h.ok;have ht:=h.tmps;simp only at ht;unfold Frame.finish;simp only;split
 ·rename_i ops i rest k;have hi:=ho.items;simp only [List.mem_cons,forall_eq_or_imp]at hi;refine⟨⟨ho.defers,ho.kind,ho.round,?_,ho.fn,ho.mode⟩,rfl,?_⟩
  ·simp only [List.mem_cons,forall_eq_or_imp];exact⟨by simpa [lM]using hi.1,hi.2⟩
  ·simp only;split
   ·exact ht.set hv _
   ·exact ht
 ·rename_i l k;have hi:=ho.items _ (List.mem_cons_self ..);cases hi
 ·rename_i k;have hi:=ho.items _ (List.mem_cons_self ..);cases hi
 ·rename_i k;have hi:=ho.items _ (List.mem_cons_self ..);cases hi
 ·rename_i k;have hi:=ho.items _ (List.mem_cons_self ..);cases hi
 ·exact⟨ho,rfl,ht⟩
theorem AR.replicate(k:Nat):AR F U ρ n (Array.replicate k Go.undef) (Array.replicate k Go.undef):=
 .lK rfl fun i v v' hv yM=>by
  rw [hv]at yM;cases yM;rw [Array.getElem?_replicate]at hv;split at hv
  ·cases hv;exact VR.undef
  ·cases hv
theorem FR.enter(hB:lN P F){f:FuncId}(hf:F f=true){az az':Array Value}(h:AR F U ρ n az az'):FR P F U ρ n (Frame.enter P f az .normal) (Frame.enter P f az' .normal):=by
 obtain⟨fn,c,h1,h2,h3⟩:=hB f hf;have e:∀xs:Array Value,Frame.enter P f xs .normal={fn:=f,tmps:=xs++Array.replicate (fn.ntmps-xs.size) Go.undef,todo:=[.code c],defers:=[],mode:=.run,kind:=.normal}:=by
  intro xs;simp [Frame.enter,h1,h2]
 rw [e,e];refine⟨⟨rfl,rfl,rfl,?_,hf,.inl rfl⟩,rfl,?_⟩
 ·simp [lM,h3]
 ·simp only;rw [←h.size];exact h.append (AR.replicate _)
theorem akN{v v':Value}(h:VR F U ρ n v v'):aQ P F U (AA U) ρ n (asAddr v) (asAddr v'):=by
 unfold asAddr;cases h with
 |ptr a h=>exact .pure ⟨h,rfl⟩
 |gZ=>exact fj _ _
 |_=>exact .stuck _ _
theorem Od(rs:List ResultVar):∀{ρ:dF} {n:Nat} {a a':Array Value} (_:AR F U ρ n a a'),
  aQ P F U (LR F U) ρ n (rs.mapM fun|.tmp t=>pure (a.getD t Go.undef)|.cell c t=>do loadVar t (←asAddr (a.getD c Go.undef)))
   (rs.mapM fun|.tmp t=>pure (a'.getD t Go.undef)|.cell c t=>do loadVar t (←asAddr (a'.getD c Go.undef))):=by
 induction rs with
 |nil=>intro ρ n a a' h;rw [List.mapM_nil,List.mapM_nil];exact .pure .nil
 |cons r rs ih=>
  intro ρ n a a' h;rw [List.mapM_cons,List.mapM_cons];refine aQ.bind (A:=AV F U) ?_ fun fE n1 v v' e1 hv=>?_
  ·cases r with
   |tmp t=>exact .pure (h.getD t)
   |cell c t=>
    refine(akN (h.getD c)).bind fun fE n1 x x' e1 hx=>?_;obtain⟨hx,rfl⟩:=hx;exact BJ t hx
  ·refine(ih (h.ext e1)).bind fun xm n2 l l' e2 hl=>?_;exact .pure (.cons (hv.ext e2) hl)
theorem LR.aX8{l l':List Value}(h:LR F U ρ n l l'):AR F U ρ n l.toArray l'.toArray:=by
 induction h with
 |nil=>exact AR.nil
 |@cons v v' l l' hv _ ih=>
  have e:∀(x:Value) (m:List Value),(x::m).toArray=#[x]++m.toArray:=fun x m=>by simp
  rw [e v l,e v' l'];exact(AR.one hv).append ih
theorem BU(fn:Func){a a':Array Value}(h:AR F U ρ n a a'):aQ P F U (AV F U) ρ n (results fn a) (results fn a'):=by
 unfold results;refine aQ.bind (A:=axB F U) ?_ fun fE n1 c c' e1 hc=>?_
 ·rw [Array.mapM_eq_mapM_toList,Array.mapM_eq_mapM_toList];exact(Od fn.results.toList h).bind fun fE n1 l l' e1 hl=>.pure hl.aX8
 ·refine .pure ?_;by_cases h1:c.size=1
  ·have h2:c'.size=1:=by rw [←hc.size];exact h1
   simp only [h1,h2,dite_true];obtain⟨y,hy,hr⟩:=hc.get? (Array.getElem?_eq_getElem (show 0<c.size by omega))
   rw [Array.getElem?_eq_getElem (show 0<c'.size by omega)]at hy
   cases hy;exact hr
  ·have h2:¬c'.size=1:=by rw [←hc.size];exact h1
   simp only [h1,h2,dite_false];exact .tuple _ _ hc.size hc.at_
abbrev StR(P:Program)(F:FuncId->Bool)(U:Nat->Prop)(bs base:List Frame)(ρ:dF)(n:Nat)(a b:Option (Frame×List Frame)):Prop:=
 ∀fr cs,a=some (fr,cs)->∃eF cL,b=some (eF,cL)/\FR P F U ρ n fr eF/\SK P F U ρ n bs base cs cL
theorem cC{a b:Frame}{cs cL:List Frame}(h:FR P F U ρ n a b)(k:SK P F U ρ n bs base cs cL):StR P F U bs base ρ n (some (a,cs)) (some (b,cL)):=by
 intro fr ds e;cases e;exact⟨_,_,rfl,h,k⟩
theorem oy{b:Option (Frame×List Frame)}:StR P F U bs base ρ n none b:=by intro fr ds e;cases e
theorem Oe{id:Nat}{k k':List Item}(h:∀i∈k,lM P F i=true)(he:exitTo id k=some k'):∀i∈k',lM P F i=true:=by
 induction k with
 |nil=>cases he
 |cons x k ih=>
  have hk:∀i∈k,lM P F i=true:=fun i hi=>h i (List.mem_cons_of_mem _ hi);unfold exitTo at he;split at he
  ·rename_i heq;cases heq;split at he
   ·cases he;exact hk
   ·exact ih hk he
  ·rename_i heq;cases heq;exact ih hk he
  ·rename_i heq;cases heq
theorem aat(hG:∀r,U r->P.globals.size<=r)(hF:E6 P F)(hB:lN P F)(h:FR P F U ρ n fr eF)(hk:SK P F U ρ n bs base cs cL)(hd:fr.mode=.returning->cs≠bs\/cL≠base):
  aQ P F U (StR P F U bs base) ρ n (cz P fr cs) (cz P eF cL):=by
 obtain⟨fn,tmps,todo,defers,mode,kind,round⟩:=fr;obtain⟨fn',aar,FJ,aas,aAU,aAV,anb⟩:=eF;have he:=h.eq;simp only [Frame.mk.injEq]at he;obtain⟨rfl,-,rfl,rfl,rfl,rfl,rfl⟩:=he;have ho:=h.ok;have hi:=ho.items;simp only at hi;have hm:=ho.mode;simp only at hm;rcases hm with rfl|rfl
 ·simp only [cz];cases FJ with
  |nil=>exact .pure (cC h.ret hk)
  |cons it k=>
   simp only [List.mem_cons,forall_eq_or_imp]at hi;obtain⟨tO,Vr⟩:=hi;cases it with
   |inBlock id=>exact .pure (cC (h.fq Vr) hk)
   |inScope c=>exact .pure (cC (h.fq Vr) hk)
   |inLoop c=>exact .pure (cC (h.fq (by simp only [List.mem_cons,forall_eq_or_imp];exact⟨tO,tO,Vr⟩)) hk)
   |inRegion ops l=>
    cases l with
    |nil=>exact .pure (cC (h.fq Vr) hk)
    |cons j rest=>
     simp only;have hy:((ops[j]?).map (Region.wanted · (yielded ops aar)))=((ops[j]?).map (Region.wanted · (yielded ops tmps))):=by
      have:yielded ops aar=yielded ops tmps:=funext (Oc h.tmps ops);rw [this]
     rw [hy];split
     ·cases hoj:ops[j]? with
      |none=>exact .pure oy
      |some o=>
       simp only;have hoo:N7 P F o.op=true:=by
        obtain⟨hj,rfl⟩:=Array.getElem?_eq_some_iff.1 hoj;exact Array.all_eq_true.1 (show ops.all (fun o=>N7 P F o.op)=true from tO) j hj
       refine(N9 hG hF hoo fun x hx=>h.eval x hx).bind fun fE n1 a b e1 yW=>?_;cases yW with
       |value hv=>exact .pure (cC ((h.ext e1).finish hv) (hk.ext e1))
       |skip=>exact .pure (cC ((h.ext e1).finish VR.undef) (hk.ext e1))
       |enter hf ha=>exact .pure (cC (FR.enter hB hf ha) (.cons (h.ext e1) (hk.ext e1)))
     ·exact .pure (cC (h.finish VR.undef) hk)
   |code c=>
    cases c with
    |skip=>exact .pure (cC (h.fq Vr) hk)
    |label l=>exact .pure (cC (h.fq Vr) hk)
    |ret=>exact .pure (cC h.ret hk)
    |seq a b=>
     simp only [lM,bt,Bool.and_eq_true]at tO;exact .pure (cC (h.fq (by simp only [List.mem_cons,forall_eq_or_imp];exact⟨tO.1,tO.2,Vr⟩)) hk)
    |block id c=>exact .pure (cC (h.fq (by simp only [List.mem_cons,forall_eq_or_imp];exact⟨tO,rfl,Vr⟩)) hk)
    |loop c=>exact .pure (cC (h.fq (by simp only [List.mem_cons,forall_eq_or_imp];exact⟨tO,tO,Vr⟩)) hk)
    |scope c=>exact .pure (cC (h.fq (by simp only [List.mem_cons,forall_eq_or_imp];exact⟨tO,tO,Vr⟩)) hk)
    |cond c a b=>
     simp only [lM,bt,Bool.and_eq_true]at tO;have hc:=h.eval c tO.1.1;simp only;revert hc;generalize Frame.eval _ c=v;generalize Frame.eval _ c=v';intro hc;cases hc with
     |bool t=>
      refine .pure (cC (h.fq ?_) hk);simp only [List.mem_cons,forall_eq_or_imp];refine⟨?_,Vr⟩;cases t
      ·exact tO.2
      ·exact tO.1.2
     |_=>exact .pure oy
    |exit id=>
     simp only;cases hx:exitTo id k with
     |none=>exact .pure oy
     |some k'=>exact .pure (cC (h.fq (Oe Vr hx)) hk)
    |region id ops draw=>
     cases draw with
     |false=>exact .pure (cC (h.fq (by simp only [List.mem_cons,forall_eq_or_imp];exact⟨tO,Vr⟩)) hk)
     |true=>
      simp only [if_true];exact .choose fun t=>.pure (cC (h.fq (by simp only [List.mem_cons,forall_eq_or_imp];exact⟨tO,Vr⟩)) hk)
    |_=>exact .pure oy
   |_=>exact .pure oy
 ·simp only [cz];obtain⟨f,c,h1,_,_⟩:=hB fn' ho.fn;simp only [h1];cases hk with
  |nil=>rcases hd rfl with h|h<;>exact absurd rfl h
  |cons hc hk=>
   simp only;exact(BU f h.tmps).bind fun fE n1 v v' e1 hv=>.pure (cC ((hc.ext e1).finish hv) (hk.ext e1))
end
end Go.Proofs.YtmcddajniiaieaaGreatDoor.Sim
