/- TopRace: a part of the proof that it holds for every input and every schedule. -/
import Derived.Test.YtmcddajniiaieaaGreatDoorY04
import Derived.Test.YtmcddajniiaieaaGreatDoorY03
set_option linter.unusedVariables false
set_option linter.unusedSimpArgs false
namespace Go.Proofs.YtmcddajniiaieaaGreatDoor
open Go Go.Conc Go.ConcM Go.Proofs.Tryz
variable {Γ:Rc} {X:Tag->View->Goroutine->World->Prop} {k it:Nat} {e:En} {V:View} {b:Frame} {cs:List Frame} {wd:Wd} {aw sv:Bool} {ws:Int}
section
variable {f:Fz} {w:World} {a:Act}
noncomputable def hdG(b:Frame)(a:Act)(cs:List Frame):Goroutine:=G (b.at a (.code xH::.inLoop xH::.inBlock 0::.code lx::[])) cs
theorem ayZ(hk:b.kind≠.early)(hn:wd.n<31)(dH:(sv=true->aw=true)/\(aw=true->wd.W=true/\wd.S=false)/\it<=4)(hF:U8 Γ k wd aw sv it ws a)
  (h1:∀a w₁,aP V w w₁->MaA Γ k wd aw sv it ws a->X ⟨e,f,.lk k (.main aw sv wd it)⟩ V (maG b a cs) w₁)
  (h2':it<4->∀a w₁,aP V w w₁->QQ Γ k aw sv (it+1) ws a->a.eval (.tmp 47)=.pointer (some (eC Γ k))->X ⟨e,f,.lk k (.ld aw sv (it+1))⟩ V (l2G b a cs) w₁)
  (h3':aw=false->∀a w₁,aP V w w₁->SpA Γ k wd it ws a->X ⟨e,f,.lk k (.oq wd it)⟩ V (spG b a cs) w₁):
  bf X (fun t=>∃p,(p=.main aw sv wd it\/(it<4/\wd.L=true/\wd.S=false/\(p=.ld aw sv (it+1)\/(aw=false/\wd.W=false/\wd.n≠0/\p=.oq wd it))))/\t=⟨e,f,.lk k p⟩) V (hdG b a cs) w:=by
 have bG:wd.n<32:=by omega
 obtain⟨hs,hd,h0,h2,h3,h4,h5,h6⟩:=hF;refine tQ aGi (bg aGh (bg aFj ?_));have apf:∀a,U8 Γ k wd aw sv it ws a->a.eval (.tmp 20)=.bool false->bf X (fun t=>∃p,(p=.main aw sv wd it\/(it<4/\wd.L=true/\wd.S=false/\(p=.ld aw sv (it+1)\/(aw=false/\wd.W=false/\wd.n≠0/\p=.oq wd it))))/\t=⟨e,f,.lk k p⟩) V (G (b.at a (.inRegion uk []::.code CE::.code sU::Xs)) cs) w:=by
  intro a hF dE;refine al (eo aos dE (eZ aFi (Loc.mono ?_ (ayU (X:=X) hk hn dH hF h1))));rintro V g w ⟨t,rfl,h⟩;exact⟨_,⟨_,.inl rfl,rfl⟩,h⟩
 refine aF aE6 (rl [0,1,2,3,4,5,6] rfl) (bp abC hk hs (af abC.o h6) fun a ae aW=>t6 ae hs hd h0 h2 h3 h4 h5 h6 fun hs hd h0 h2 h3 h4 h5 h6=>?_);refine bp abD hk hs (gP abD.o aW rfl) fun a ae eS=>t6 ae hs hd h0 h2 h3 h4 h5 h6 fun hs hd h0 h2 h3 h4 h5 h6=>?_;refine bp abE hk hs (eH abE.o eS rfl) fun a ae fP=>t6 ae hs hd h0 h2 h3 h4 h5 h6 fun hs hd h0 h2 h3 h4 h5 h6=>?_;rw [axQ wd bG]at fP;refine bp abF hk hs (af abF.o fP) fun a ae bT=>t6 ae hs hd h0 h2 h3 h4 h5 h6 fun hs hd h0 h2 h3 h4 h5 h6=>?_;cases hx:(wd.L&&!wd.S)
 ·rw [hx]at bT;refine xq um.a (ax (x:=false) um.g rfl bT) um.d fun a au an ah=>t7 ⟨au,an,ah⟩ hs hd h0 h2 h3 h4 h5 h6 bT fun hs hd h0 h2 h3 h4 h5 h6 bT=>?_;refine xq np.a (ax (x:=false) np.g rfl bT) np.d fun a au an ah=>t7 ⟨au,an,ah⟩ hs hd h0 h2 h3 h4 h5 h6 bT fun hs hd h0 h2 h3 h4 h5 h6 bT=>?_;refine bp zk hk hs (bn (b:=false) (v:=.bool false) zk.o bT rfl) fun a ae dE=>t7 ae hs hd h0 h2 h3 h4 h5 h6 bT fun hs hd h0 h2 h3 h4 h5 h6 bT=>?_;exact apf a ⟨hs,hd,h0,h2,h3,h4,h5,h6⟩ dE
 ·rw [hx]at bT;refine sJ um rfl bT hk hs (af um.o h5) fun a ae jL=>t7 ae hs hd h0 h2 h3 h4 h5 h6 bT fun hs hd h0 h2 h3 h4 h5 h6 bT=>?_;refine alB (it:=it) np.a (ax (x:=true) np.g rfl bT) hk np.d (by rw [hs];decide) np.o jL fun r hr a au an ah dz=>?_
  replace hs:=au.trans hs;replace hd:=an.trans hd;replace h0:=(ah 0 (by decide)).trans h0;replace h2:=(ah 2 (by decide)).trans h2;replace h3:=(ah 3 (by decide)).trans h3;replace h4:=(ah 4 (by decide)).trans h4;replace h5:=(ah 5 (by decide)).trans h5;replace h6:=(ah 6 (by decide)).trans h6;replace bT:=(ah 17 (by decide)).trans bT
  clear au an ah;refine bp zk hk hs (bn (b:=true) zk.o bT dz) fun a ae dE=>t6 ae hs hd h0 h2 h3 h4 h5 h6 fun hs hd h0 h2 h3 h4 h5 h6=>?_;cases r
  ·exact apf a ⟨hs,hd,h0,h2,h3,h4,h5,h6⟩ dE
  ·have rp:=hr rfl;have hL:wd.L=true/\wd.S=false:=by simpa using hx
   refine al (fH aos dE (Loc.mono ?_ (ayX (X:=X) hk hn rp hL dH.1 ⟨hs,hd,h0,h2,h3,h4,h5,h6⟩ (h2' rp) h3')));rintro V g w ⟨t,rfl|⟨q1,q2,q3,rfl⟩,h⟩
   ·exact⟨_,⟨_,.inr ⟨rp,hL.1,hL.2,.inl rfl⟩,rfl⟩,h⟩
   ·exact⟨_,⟨_,.inr ⟨rp,hL.1,hL.2,.inr ⟨q1,q2,q3,rfl⟩⟩,rfl⟩,h⟩
end
def HB(Γ:Rc)(k:Nat)(w:World):Prop:=∃c ty fr,w.heap[Γ.src k]? =some (.cells c ty fr)/\2<c.size
theorem HB.rely{Γ:Rc}{k:Nat}{V:View}{w w₁:World}(h:HB Γ k w)(hr:aP V w w₁):HB Γ k w₁:=by
 obtain⟨c,ty,fr,h1,h2⟩:=h;obtain⟨c',h3,h4⟩:=hr.kind _ _ _ _ h1;exact⟨c',ty,fr,h3,by omega⟩
section
variable {f:Fz} {w:World} {a:Act}
theorem ay0(hXA:∀t V g w,At Γ t V g w->X t V g w)(hk:b.kind≠.early)(hV:V.deaf=1)(gU:k<Γ.ns)(hB:HB Γ k w)(hs:a.tmps.size=139)(hd:a.defers=[])(h0:a.eval (.tmp 0)=.pointer (some (eC Γ k)))
  (K:iw Γ k e f (V.hears 0) w fun q V' w₁=>kF Γ q V' b cs w₁):
  bf X (fun t=>t=⟨e,f,.acq k⟩) V (G (b.at a (.code lx::[])) cs) w:=by
 refine fH ayz rfl (bg ayx (aF ayv (rl [0] rfl) (mY .enable 0 (.inr ⟨rfl,by rw [hV]⟩) uU.a uU.f hk uU.d uU.o func38 Fx Fy FA FB fun a au an ah=>?_)))
 replace hs:=au.trans hs;replace hd:=an.trans hd;replace h0:=(ah 0 (by decide)).trans h0
 clear au an ah;refine al (aF ayw (rl [0,1,2] rfl) (bp Qe hk hs (af Qe.o h0) fun a ae aGK=>t0 ae hs hd fun hs hd=>?_));obtain⟨c,ty,fr,hb1,yn⟩:=hB;refine bp Qf hk hs (jm Qf.o aGK underlying160 underlying96 Xp hb1 yn rfl) fun a ae aGL=>t0 ae hs hd fun hs hd=>?_;refine di _ rfl fun w₁ hr=>hXA _ _ _ _ (At.fold (apa rfl gU uV.a uV.g hk uV.d uV.o (by simp;exact aGL) fun fy γ VK q1 q2 q3 q4 q5 a' s' d'=>al (rX (K fy γ VK (hr.trans q1) q2 q3 q4 q5 a' [] (d'.trans hd)))))
noncomputable def l3G(b:Frame)(a:Act)(cs:List Frame):Goroutine:=G (b.at a (.inRegion sY [3,4]::Xs)) cs
noncomputable def lmK:List Item:=.code CJ::Xs
noncomputable def seG(b:Frame)(a:Act)(cs:List Frame):Goroutine:=G (b.at a (.inRegion oY [4]::lmK)) cs
noncomputable def lwG(b:Frame)(a:Act)(cs:List Frame):Goroutine:=G (b.at a (.inRegion nq [3,4]::.code sW::Xs)) cs
noncomputable def haG(b:Frame)(a:Act)(cs:List Frame):Goroutine:=G (b.at a (.inRegion sX [4]::.code IA::.code rf::Xs)) cs
theorem ay1(hk:b.kind≠.early)(hF:QQ Γ k aw sv it ws a)(NN:a.eval (.tmp 80)=.bool false)
  (hX:∀a w₁,aP V w w₁->QQ Γ k aw sv it ws a->a.eval (.tmp 133)=.pointer (some (eC Γ k))->X ⟨e,f,.lk k (.ld aw sv it)⟩ V (l3G b a cs) w₁):
  bf X (fun t=>t=⟨e,f,.lk k (.ld aw sv it)⟩) V (G (b.at a (.inRegion lP []::.code sV::Xs)) cs) w:=by
 obtain⟨hs,hd,h0,h2,h3,h4,h5⟩:=hF;refine al (eo Xf NN (aF ayu (rl [0,1,2,3,4] rfl) (bp Qa hk hs (af Qa.o h0) fun a ae iG=>t5 ae hs hd h0 h2 h3 h4 h5 fun hs hd h0 h2 h3 h4 h5=>?_)));refine bp Qb hk hs (bE Qb.o iG) fun a ae iV=>t5 ae hs hd h0 h2 h3 h4 h5 fun hs hd h0 h2 h3 h4 h5=>?_;refine bp Qc hk hs (aB Qc.o iV underlying56 rfl sizeOf21 (by decide) rfl) fun a ae gW=>t5 ae hs hd h0 h2 h3 h4 h5 fun hs hd h0 h2 h3 h4 h5=>?_
 exact di _ rfl fun w₁ hr=>hX a w₁ hr ⟨hs,hd,h0,h2,h3,h4,h5⟩ gW
theorem aGM(hk:b.kind≠.early)(bG:wd.n<32)(hz:wd.L=true\/wd.S=true)(hF:U8 Γ k wd aw sv it ws a)(NN:a.eval (.tmp 80)=.bool true)
  (hX:∀a w₁ ws,aP V w w₁->QQ Γ k aw sv it ws a->a.eval (.tmp 91)=.pointer (some (lkS Γ k))->X ⟨e,f,.lk k .yK⟩ V (seG b a cs) w₁):
  bf X (fun t=>t=⟨e,f,.lk k .yK⟩) V (G (b.at a (.inRegion lP []::.code sV::Xs)) cs) w:=by
 obtain⟨hs,hd,h0,h2,h3,h4,h5,h6⟩:=hF;refine al (fH Xf NN (bg aoP (bg aoE (aF aoz aoA (bp uD hk hs (af uD.o h6) fun a ae h81=>t5 ae hs hd h0 h2 h3 h4 h5 fun hs hd h0 h2 h3 h4 h5=>?_)))));refine bp uE hk hs (gP uE.o h81 rfl) fun a ae c9=>t5 ae hs hd h0 h2 h3 h4 h5 fun hs hd h0 h2 h3 h4 h5=>?_;refine bp uF hk hs (eH uF.o c9 rfl) fun a ae dI=>t5 ae hs hd h0 h2 h3 h4 h5 fun hs hd h0 h2 h3 h4 h5=>?_;rw [Og wd bG]at dI;refine al ?_;refine eo aoD (by rw [dI];rcases hz with h|h<;>simp [h]) (eZ aFN (bg aGa (aF aFO (rl [0,1,2] rfl) (bp Ps hk hs (af Ps.o h2) fun a ae dQ=>t5 ae hs hd h0 h2 h3 h4 h5 fun hs hd h0 h2 h3 h4 h5=>?_))))
 refine bp Pt hk hs (eI Pt.o dQ rfl) fun a ae h85=>t5 ae hs hd h0 h2 h3 h4 h5 fun hs hd h0 h2 h3 h4 h5=>?_;refine bp Pu hk hs (ak Pu.o h85) fun a ae h8=>t5 ae hs hd h0 h2 h3 h4 h5 fun hs hd h0 h2 h3 h4 h5=>?_;refine al (bg aF9 (bg aFT (aF aFP (rl [0,1] rfl) (bp Pv hk hs (af Pv.o h2) fun a ae h86=>t6 ae hs hd h0 h2 h3 h4 h5 h8 fun hs hd h0 h2 h3 h4 h5 h8=>?_))));refine bp Pw hk hs (eH Pw.o h86 rfl) fun a ae h87=>t6 ae hs hd h0 h2 h3 h4 h5 h8 fun hs hd h0 h2 h3 h4 h5 h8=>?_;refine al (akX (fun a=>∃ws,QQ Γ k aw sv it ws a/\∃x,a.eval (.tmp 8)=.bool x) aFS h87 (fun ht K=>?_) (fun ht K=>?_) (fun a ha=>?_))
 ·refine aF aFQ (rl [0,1] rfl) (ao8 uG.a uG.f hk uG.d (by rw [hs];decide) uG.o fun x a au an ah h88=>?_)
  replace hs:=au.trans hs;replace hd:=an.trans hd;replace h0:=(ah 0 (by decide)).trans h0;replace h3:=(ah 3 (by decide)).trans h3;replace h4:=(ah 4 (by decide)).trans h4;replace h5:=(ah 5 (by decide)).trans h5;replace h8:=(ah 8 (by decide)).trans h8
  clear au an ah;refine bp Px hk hs (ak Px.o h88) fun a ae h2=>t5 ae hs hd h0 h3 h4 h5 h8 fun hs hd h0 h3 h4 h5 h8=>?_;exact al (K a ⟨_,⟨hs,hd,h0,h2,h3,h4,h5⟩,_,h8⟩)
 ·exact eZ aFR (K a ⟨_,⟨hs,hd,h0,h2,h3,h4,h5⟩,_,h8⟩)
 clear hd hs;obtain⟨ws,⟨hs,hd,h0,h2,h3,h4,h5⟩,x,h8⟩:=ha;refine bg aF8 (aF aFU (rl [0,1,2,3,4] rfl) (bp Py hk hs (af Py.o h0) fun a ae h89=>t6 ae hs hd h0 h2 h3 h4 h5 h8 fun hs hd h0 h2 h3 h4 h5 h8=>?_));refine bp Pz hk hs (bE Pz.o h89) fun a ae h90=>t6 ae hs hd h0 h2 h3 h4 h5 h8 fun hs hd h0 h2 h3 h4 h5 h8=>?_;refine bp PC hk hs (aB PC.o h90 underlying56 rfl sizeOf54 (by decide) rfl) fun a ae C3=>t6 ae hs hd h0 h2 h3 h4 h5 h8 fun hs hd h0 h2 h3 h4 h5 h8=>?_
 refine bp PD hk hs (af PD.o h8) fun a ae h92=>t6 ae hs hd h0 h2 h3 h4 h5 C3 fun hs hd h0 h2 h3 h4 h5 C3=>?_;exact di _ rfl fun w₁ hr=>hX a w₁ ws hr ⟨hs,hd,h0,h2,h3,h4,h5⟩ C3
end
section
variable {f:Fz} {w:World} {a:Act}
theorem aGN(hk:b.kind≠.early)(hF:QQ Γ k aw sv it ws a)
  (hX:∀a w₁ sv,aP V w w₁->QQ Γ k aw sv it ws a->a.eval (.tmp 103)=.pointer (some (eC Γ k))->X ⟨e,f,.lk k .ldw⟩ V (lwG b a cs) w₁):
  bf X (fun t=>t=⟨e,f,.lk k .ldw⟩) V (G (b.at a (.inRegion oY []::lmK)) cs) w:=by
 obtain⟨hs,hd,h0,h2,h3,h4,h5⟩:=hF;refine al (bg aF7 ?_);have key:∀a sv',QQ Γ k aw sv' it ws a->bf X (fun t=>t=⟨e,f,.lk k .ldw⟩) V (G (b.at a (.inRegion lQ []::.code CK::Xs)) cs) w:=by
  intro a sv' hF;obtain⟨hs,hd,h0,h2,h3,h4,h5⟩:=hF;refine al (bg aF6 (aF aFW (rl [0,1,2,3,4] rfl) (bp PG hk hs (af PG.o h0) fun a ae aGO=>t5 ae hs hd h0 h2 h3 h4 h5 fun hs hd h0 h2 h3 h4 h5=>?_)));refine bp PH hk hs (bE PH.o aGO) fun a ae aGP=>t5 ae hs hd h0 h2 h3 h4 h5 fun hs hd h0 h2 h3 h4 h5=>?_;refine bp PI hk hs (aB PI.o aGP underlying56 rfl sizeOf21 (by decide) rfl) fun a ae Xv=>t5 ae hs hd h0 h2 h3 h4 h5 fun hs hd h0 h2 h3 h4 h5=>?_
  exact di _ rfl fun w₁ hr=>hX a w₁ sv' hr ⟨hs,hd,h0,h2,h3,h4,h5⟩ Xv
 refine aF aFV (rl [0,1,2,3,4,5,6,7] rfl) (bp PE hk hs (af PE.o h3) fun a ae h94=>t5 ae hs hd h0 h2 h3 h4 h5 fun hs hd h0 h2 h3 h4 h5=>?_);refine bp PF hk hs (af PF.o h94) fun a ae nU=>t5 ae hs hd h0 h2 h3 h4 h5 fun hs hd h0 h2 h3 h4 h5=>?_;cases hsv:sv
 ·rw [hsv]at nU;refine ao8 kz.a (ax (x:=false) kz.g rfl nU) hk kz.d (by rw [hs];decide) kz.o fun x a au an ah h96=>?_
  replace hs:=au.trans hs;replace hd:=an.trans hd;replace h0:=(ah 0 (by decide)).trans h0;replace h2:=(ah 2 (by decide)).trans h2;replace h4:=(ah 4 (by decide)).trans h4;replace h5:=(ah 5 (by decide)).trans h5;replace nU:=(ah 95 (by decide)).trans nU
  clear au an ah;refine sJ oZ rfl nU hk hs (af oZ.o h2) fun a ae h97=>t6 ae hs hd h0 h2 h4 h5 nU h96 fun hs hd h0 h2 h4 h5 nU h96=>?_;refine sJ o3 rfl nU hk hs (BX o3.o h96 h97) fun a ae h98=>t5 ae hs hd h0 h2 h4 h5 nU fun hs hd h0 h2 h4 h5 nU=>?_;refine sJ o4 rfl nU hk hs (yo o4.o h98 rfl) fun a ae h99=>t5 ae hs hd h0 h2 h4 h5 nU fun hs hd h0 h2 h4 h5 nU=>?_;refine bp uI hk hs (bn (b:=false) uI.o nU h99) fun a ae yR=>t5 ae hs hd h0 h2 h4 h5 nU fun hs hd h0 h2 h4 h5 nU=>?_;refine bp uJ hk hs (ak uJ.o yR) fun a ae h3=>t6 ae hs hd h0 h2 h4 h5 nU yR fun hs hd h0 h2 h4 h5 nU yR=>?_;exact key a _ ⟨hs,hd,h0,h2,h3,h4,h5⟩
 ·rw [hsv]at nU;refine xq kz.a (ax (x:=true) kz.g rfl nU) kz.d fun a au an ah=>t5 ⟨au,an,ah⟩ hs hd h0 h2 h4 h5 nU fun hs hd h0 h2 h4 h5 nU=>?_;refine xq oZ.a (ax (x:=true) oZ.g rfl nU) oZ.d fun a au an ah=>t5 ⟨au,an,ah⟩ hs hd h0 h2 h4 h5 nU fun hs hd h0 h2 h4 h5 nU=>?_;refine xq o3.a (ax (x:=true) o3.g rfl nU) o3.d fun a au an ah=>t5 ⟨au,an,ah⟩ hs hd h0 h2 h4 h5 nU fun hs hd h0 h2 h4 h5 nU=>?_;refine xq o4.a (ax (x:=true) o4.g rfl nU) o4.d fun a au an ah=>t5 ⟨au,an,ah⟩ hs hd h0 h2 h4 h5 nU fun hs hd h0 h2 h4 h5 nU=>?_;refine bp uI hk hs (bn (b:=true) (v:=.bool true) uI.o nU rfl) fun a ae yR=>t4 ae hs hd h0 h2 h4 h5 fun hs hd h0 h2 h4 h5=>?_;refine bp uJ hk hs (ak uJ.o yR) fun a ae h3=>t4 ae hs hd h0 h2 h4 h5 fun hs hd h0 h2 h4 h5=>?_;exact key a _ ⟨hs,hd,h0,h2,h3,h4,h5⟩
theorem ay5(hk:b.kind≠.early)(bG:wd.n<32)(hS:wd.S=false)(hF:QQ Γ k aw sv it ws a)(I7:a.eval (.tmp 104)=.int .i32 (wz wd)){q:Tag->Prop}
  (K:∀a,U8 Γ k wd true sv 0 ws a->bf X q V (hdG b a cs) w):
  bf X q V (G (b.at a (.inRegion nq [4]::.code sW::Xs)) cs) w:=by
 obtain⟨hs,hd,h0,h2,h3,h4,h5⟩:=hF;refine bp uL hk hs (ak uL.o I7) fun a ae h6=>t5 ae hs hd h0 h2 h3 h4 h5 fun hs hd h0 h2 h3 h4 h5=>?_;refine al (bg aoO (bg aoL (aF aoG aoH (bp uM hk hs (af uM.o h6) fun a ae api=>t6 ae hs hd h0 h2 h3 h4 h5 h6 fun hs hd h0 h2 h3 h4 h5 h6=>?_))));refine bp uN hk hs (gP uN.o api rfl) fun a ae apj=>t6 ae hs hd h0 h2 h3 h4 h5 h6 fun hs hd h0 h2 h3 h4 h5 h6=>?_;refine bp uO hk hs (eI uO.o apj rfl) fun a ae Xw=>t6 ae hs hd h0 h2 h3 h4 h5 h6 fun hs hd h0 h2 h3 h4 h5 h6=>?_;rw [Oj wd bG,hS]at Xw;refine al (eo aoK Xw (eZ ayq (bg ayt (aF ayr (rl [0] rfl) (bp P8 hk hs (ak P8.o rfl) fun a ae h4=>t5 ae hs hd h0 h2 h3 h5 h6 fun hs hd h0 h2 h3 h5 h6=>?_)))));refine al (aF ays (rl [0] rfl) (bp P9 hk hs (ak P9.o rfl) fun a ae h5=>t5 ae hs hd h0 h2 h3 h6 h4 fun hs hd h0 h2 h3 h6 h4=>?_));exact al (qU (oD (K a ⟨hs,hd,h0,h2,h3,h4,h5,h6⟩)))
theorem ay6(hk:b.kind≠.early)(bG:wd.n<32)(hS:wd.S=true)(hL:wd.L=false/\wd.W=false/\0<wd.n)(hF:QQ Γ k aw sv it ws a)(I7:a.eval (.tmp 104)=.int .i32 (wz wd)){q:Tag->Prop}
  (K:∀a keep,(keep=true->wd.n≠1)->keep=(sv&&!(((wd.n:Nat):Int)==1))->a.tmps.size=139->a.defers=[]->a.eval (.tmp 0)=.pointer (some (eC Γ k))->a.eval (.tmp 128)=.pointer (some (eC Γ k))->a.eval (.tmp 129)=.int .i32 (if keep then-7 else-11)->bf X q V (haG b a cs) w):
  bf X q V (G (b.at a (.inRegion nq [4]::.code sW::Xs)) cs) w:=by
 obtain⟨hs,hd,h0,h2,h3,h4,h5⟩:=hF;refine bp uL hk hs (ak uL.o I7) fun a ae h6=>t2 ae hs hd h0 h3 fun hs hd h0 h3=>?_;refine al (bg aoO (bg aoL (aF aoG aoH (bp uM hk hs (af uM.o h6) fun a ae api=>t3 ae hs hd h0 h3 h6 fun hs hd h0 h3 h6=>?_))));refine bp uN hk hs (gP uN.o api rfl) fun a ae apj=>t3 ae hs hd h0 h3 h6 fun hs hd h0 h3 h6=>?_;refine bp uO hk hs (eI uO.o apj rfl) fun a ae Xw=>t3 ae hs hd h0 h3 h6 fun hs hd h0 h3 h6=>?_;rw [Oj wd bG,hS]at Xw;refine al (fH aoK Xw (bg aF5 (bg aF1 (aF aFX (rl [0,1,2,3,4,5,6,7] rfl) (bp PK hk hs (af PK.o h6) fun a ae aGR=>t3 ae hs hd h0 h3 h6 fun hs hd h0 h3 h6=>?_)))));refine bp PL hk hs (gP PL.o aGR rfl) fun a ae aGS=>t3 ae hs hd h0 h3 h6 fun hs hd h0 h3 h6=>?_;refine bp PM hk hs (eI PM.o aGS rfl) fun a ae ay7=>t3 ae hs hd h0 h3 h6 fun hs hd h0 h3 h6=>?_;rw [ano wd bG,hL.1,hL.2.1]at ay7;refine bp PN hk hs (af PN.o ay7) fun a ae yS=>t3 ae hs hd h0 h3 h6 fun hs hd h0 h3 h6=>?_;refine sJ PO rfl yS hk hs (af PO.o h6) fun a ae aGT=>t4 ae hs hd h0 h3 h6 yS fun hs hd h0 h3 h6 yS=>?_;refine sJ PQ rfl yS hk hs (BZ (n:=3) PQ.o aGT rfl) fun a ae ay8=>t4 ae hs hd h0 h3 h6 yS fun hs hd h0 h3 h6 yS=>?_;rw [B0 wd bG]at ay8;refine sJ PS rfl yS hk hs (eH PS.o ay8 rfl) fun a ae ay9=>t4 ae hs hd h0 h3 h6 yS fun hs hd h0 h3 h6 yS=>?_;rw [show(((wd.n:Nat):Int)==0)=false by have:=hL.2.2;simp;omega]at ay9
 refine bp PT hk hs (bn (b:=false) PT.o yS ay9) fun a ae aGU=>t3 ae hs hd h0 h3 h6 fun hs hd h0 h3 h6=>?_;refine al (eo aF0 aGU (eZ aFZ (bg aF4 (aF aF2 (rl [0] rfl) (bp PU hk hs (ak PU.o rfl) fun a ae h9=>t3 ae hs hd h0 h3 h6 fun hs hd h0 h3 h6=>?_)))));refine al (bg aF3 (bg aym (aF ayi (rl [0,1,2,3,4,5,6] rfl) (bp PV hk hs (af PV.o h3) fun a ae aGV=>t3 ae hs hd h0 h6 h9 fun hs hd h0 h6 h9=>?_))));refine bp PW hk hs (kl PW.o aGV) fun a ae aGW=>t3 ae hs hd h0 h6 h9 fun hs hd h0 h6 h9=>?_;refine bp PX hk hs (af PX.o aGW) fun a ae jD=>t3 ae hs hd h0 h6 h9 fun hs hd h0 h6 h9=>?_;have key:∀a,a.tmps.size=139->a.defers=[]->a.eval (.tmp 0)=.pointer (some (eC Γ k))->a.eval (.tmp 9)=.int .i32 (-7)->a.eval (.tmp 123)=.bool (!sv||(((wd.n:Nat):Int)==1))->
   bf X q V (G (b.at a (.inRegion nv []::.code uQ::.code uR::.code rf::Xs)) cs) w:=by
  intro a hs hd h0 h9 Xx;refine al (akX (fun a=>a.tmps.size=139/\a.defers=[]/\a.eval (.tmp 0)=.pointer (some (eC Γ k))/\a.eval (.tmp 9)=.int .i32 (if(sv&&!(((wd.n:Nat):Int)==1))then-7 else-11)) ayl Xx (fun ht K=>?_) (fun ht K=>?_) (fun a ha=>?_))
  ·skip;refine aF ayj (rl [0,1,2] rfl) (bp PY hk hs (af PY.o h9) fun a ae aGX=>t2 ae hs hd h0 h9 fun hs hd h0 h9=>?_);refine bp PZ hk hs (BX PZ.o aGX rfl) fun a ae aza=>t2 ae hs hd h0 h9 fun hs hd h0 h9=>?_;rw [show IntKind.i32.wrap ((-7:Int)-4)=-11 by decide]at aza
   refine bp P0 hk hs (ak P0.o aza) fun a ae h9=>t1 ae hs hd h0 fun hs hd h0=>?_;refine al ?_;exact K a ⟨hs,hd,h0,by rw [h9];cases sv<;>cases hq:(((wd.n:Nat):Int)==1)<;>simp [hq]at ht⊢⟩
  ·exact eZ ayk (K a ⟨hs,hd,h0,by rw [h9];cases sv<;>cases hq:(((wd.n:Nat):Int)==1)<;>simp [hq]at ht⊢⟩)
  clear hd hs;obtain⟨hs,hd,h0,h9⟩:=ha;refine bg ayp (aF ayn (rl [0,1,2,3,4] rfl) (bp P4 hk hs (af P4.o h0) fun a ae aGY=>t2 ae hs hd h0 h9 fun hs hd h0 h9=>?_));refine bp P5 hk hs (bE P5.o aGY) fun a ae aGZ=>t2 ae hs hd h0 h9 fun hs hd h0 h9=>?_;refine bp P6 hk hs (aB P6.o aGZ underlying56 rfl sizeOf21 (by decide) rfl) fun a ae Xy=>t2 ae hs hd h0 h9 fun hs hd h0 h9=>?_
  refine bp P7 hk hs (af P7.o h9) fun a ae apk=>t3 ae hs hd h0 h9 Xy fun hs hd h0 h9 Xy=>?_;refine K a (sv&&!(((wd.n:Nat):Int)==1)) (fun h h1=>?_) rfl hs hd h0 Xy apk;rw [h1]at h;simp at h
 cases hsv:sv
 ·rw [hsv]at jD key;refine xq o5.a (ax (x:=true) o5.g rfl jD) o5.d fun a au an ah=>t3 ⟨au,an,ah⟩ hs hd h0 h9 jD fun hs hd h0 h9 jD=>?_;refine xq o6.a (ax (x:=true) o6.g rfl jD) o6.d fun a au an ah=>t3 ⟨au,an,ah⟩ hs hd h0 h9 jD fun hs hd h0 h9 jD=>?_;refine xq o7.a (ax (x:=true) o7.g rfl jD) o7.d fun a au an ah=>t3 ⟨au,an,ah⟩ hs hd h0 h9 jD fun hs hd h0 h9 jD=>?_;refine bp uP hk hs (bn (b:=true) (v:=.bool true) uP.o jD rfl) fun a ae Xx=>t3 ae hs hd h0 h9 jD fun hs hd h0 h9 jD=>?_;exact key a hs hd h0 h9 (by rw [Xx];simp)
 ·rw [hsv]at jD key;refine sJ o5 rfl jD hk hs (af o5.o h6) fun a ae aG0=>t3 ae hs hd h0 h9 jD fun hs hd h0 h9 jD=>?_;refine sJ o6 rfl jD hk hs (BZ (n:=3) o6.o aG0 rfl) fun a ae azb=>t3 ae hs hd h0 h9 jD fun hs hd h0 h9 jD=>?_;rw [B0 wd bG]at azb;refine sJ o7 rfl jD hk hs (eH o7.o azb rfl) fun a ae aG1=>t3 ae hs hd h0 h9 jD fun hs hd h0 h9 jD=>?_;refine bp uP hk hs (bn (b:=false) uP.o jD aG1) fun a ae Xx=>t2 ae hs hd h0 h9 fun hs hd h0 h9=>?_;exact key a hs hd h0 h9 (by rw [Xx];simp)
end
section
variable {Γ:Rc} {k:Nat} {e:En} {f:Fz} {V:View} {w:World} {b:Frame} {a:Act} {cs:List Frame} {wd:Wd} {aw sv:Bool} {it:Nat} {ws:Int}
def LkK(Γ:Rc)(k:Nat)(e:En)(f:Fz)(V:View)(b:Frame)(cs:List Frame)(w:World):Prop:=iw Γ k e f (V.hears 0) w fun q V' w₁=>kF Γ q V' b cs w₁
theorem LkK.rely{w₁:World}(h:LkK Γ k e f V b cs w)(hr:aP V w w₁):LkK Γ k e f V b cs w₁:=iw.rely h (hr.hears 0)
inductive LkC(Γ:Rc)(k:Nat)(b:Frame)(cs:List Frame):LP->Goroutine->Prop
 |l2 {aw sv:Bool} {it:Nat} {ws:Int} {a:Act} (dH:(sv=true->aw=true)/\it<=4) (h:QQ Γ k aw sv it ws a) (h':a.eval (.tmp 47)=.pointer (some (eC Γ k))):LkC Γ k b cs (.ld aw sv it) (l2G b a cs)
 |l3 {aw sv:Bool} {it:Nat} {ws:Int} {a:Act} (dH:(sv=true->aw=true)/\it<=4) (h:QQ Γ k aw sv it ws a) (h':a.eval (.tmp 133)=.pointer (some (eC Γ k))):LkC Γ k b cs (.ld aw sv it) (l3G b a cs)
 |sp {wd:Wd} {it:Nat} {ws:Int} {a:Act} (h:SpA Γ k wd it ws a):LkC Γ k b cs (.oq wd it) (spG b a cs)
 |ma {wd:Wd} {aw sv:Bool} {it:Nat} {ws:Int} {a:Act} (h:MaA Γ k wd aw sv it ws a):LkC Γ k b cs (.main aw sv wd it) (maG b a cs)
 |se {aw sv:Bool} {it:Nat} {ws:Int} {a:Act} (h:QQ Γ k aw sv it ws a) (h':a.eval (.tmp 91)=.pointer (some (lkS Γ k))):LkC Γ k b cs .yK (seG b a cs)
 |lw {aw sv:Bool} {it:Nat} {ws:Int} {a:Act} (h:QQ Γ k aw sv it ws a) (h':a.eval (.tmp 103)=.pointer (some (eC Γ k))):LkC Γ k b cs .ldw (lwG b a cs)
def LkX(Γ:Rc)(k:Nat)(e:En)(f:Fz)(aoW:View)(b:Frame)(cs:List Frame)(t:Tag)(V:View)(g:Goroutine)(w:World):Prop:=
 V=aoW/\HB Γ k w/\LkK Γ k e f aoW b cs w/\∃p,t=⟨e,f,.lk k p⟩/\LkC Γ k b cs p g
theorem rq:(prog.funcs[98]?).any (·.norace)=true:=by rw [func98];rfl
section
variable (hk:b.kind≠.early) (qY:b.fn=98) (hV:V.deaf=1) (gU:k<Γ.ns) (nl:dB Γ k V) (hB:HB Γ k w) (K:LkK Γ k e f V b cs w)
include hk hB K
theorem zA(hn:wd.n<31)(dH:(sv=true->aw=true)/\(aw=true->wd.W=true/\wd.S=false)/\it<=4)(hF:U8 Γ k wd aw sv it ws a):
  bf (fun t V' g w=>LkX Γ k e f V b cs t V' g w\/At Γ t V' g w) (fun t=>∃p,(p=.main aw sv wd it\/(it<4/\wd.L=true/\wd.S=false/\(p=.ld aw sv (it+1)\/(aw=false/\wd.W=false/\wd.n≠0/\p=.oq wd it))))/\t=⟨e,f,.lk k p⟩) V (hdG b a cs) w:=
 ayZ hk hn dH hF (fun a w₁ hr ha=>.inl ⟨rfl,hB.rely hr,K.rely hr,_,rfl,.ma ha⟩) (fun h4 a w₁ hr ha lV=>.inl ⟨rfl,hB.rely hr,K.rely hr,_,rfl,.l2 ⟨dH.1,h4⟩ ha lV⟩)
  (fun _ a w₁ hr ha=>.inl ⟨rfl,hB.rely hr,K.rely hr,_,rfl,.sp ha⟩)
include hV gU
theorem aca{kk:List Item}(X:Tag->View->Goroutine->World->Prop)(hXA:∀t V g w,At Γ t V g w->X t V g w)(hs:a.tmps.size=139)(hd:a.defers=[])(h0:a.eval (.tmp 0)=.pointer (some (eC Γ k))):bf X (rY Γ e f k .held) V (G (b.at a (.code lx::[])) cs) w:=
 ay0 hXA hk hV gU hB hs hd h0 K
include qY nl
theorem aG3{p:LP}{g:Goroutine}(h:LkC Γ k b cs p g):Vw Γ (fun t V' g w=>LkX Γ k e f V b cs t V' g w\/At Γ t V' g w) ⟨e,f,.lk k p⟩ V g w:=by
 cases h with
 |l2 dH h lV=>
  obtain⟨hs,hd,h0,h2,h3,h4,h5⟩:=h;refine tS dH (by simp) hV gU uA.a uA.f hk (by rw [qY];exact rq) uA.d (by rw [hs];decide) uA.o lV fun wd sm ht=>⟨_,_,.ld,?_⟩
  intro a au an ah E0;replace hs:=au.trans hs;replace hd:=an.trans hd;replace h0:=(ah 0 (by decide)).trans h0;replace h2:=(ah 2 (by decide)).trans h2;replace h3:=(ah 3 (by decide)).trans h3;replace h4:=(ah 4 (by decide)).trans h4;replace h5:=(ah 5 (by decide)).trans h5
  clear au an ah;refine bp OT hk hs (ak OT.o E0) fun a ae h6=>t5 ae hs hd h0 h2 h3 h4 h5 fun hs hd h0 h2 h3 h4 h5=>?_;exact al (Vy aFd rfl (oD (zA hk hB K ht.n31 ⟨dH.1,fun haw=>ht.aw (by simp [LP.role,haw]),dH.2⟩ ⟨hs,hd,h0,h2,h3,h4,h5,h6⟩)))
 |l3 dH h gW=>
  obtain⟨hs,hd,h0,h2,h3,h4,h5⟩:=h;refine tS dH (by simp) hV gU uT.a uT.f hk (by rw [qY];exact rq) uT.d (by rw [hs];decide) uT.o gW fun wd sm ht=>⟨_,_,.ld,?_⟩
  intro a au an ah I8;replace hs:=au.trans hs;replace hd:=an.trans hd;replace h0:=(ah 0 (by decide)).trans h0;replace h2:=(ah 2 (by decide)).trans h2;replace h3:=(ah 3 (by decide)).trans h3;replace h4:=(ah 4 (by decide)).trans h4;replace h5:=(ah 5 (by decide)).trans h5
  clear au an ah;refine bp Qd hk hs (ak Qd.o I8) fun a ae h6=>t5 ae hs hd h0 h2 h3 h4 h5 fun hs hd h0 h2 h3 h4 h5=>?_;exact al (qU (oD (zA hk hB K ht.n31 ⟨dH.1,fun haw=>ht.aw (by simp [LP.role,haw]),dH.2⟩ ⟨hs,hd,h0,h2,h3,h4,h5,h6⟩)))
 |@sp wd it ws a h=>
  obtain⟨⟨hs,hd,h0,h2,h3,h4,h5,h6⟩,hn,dH,bJ,rh,iI,im⟩:=h;refine Hh (p:=.oq wd it) dH (by simp) hV gU nl ky.a (ax (x:=true) ky.g rfl bJ) hk ky.d (by rw [hs];decide) ky.o rh iI im (fun sm _=>⟨_,_,.tC,?_⟩) (fun iZ sm cM _=>⟨_,_,.qR cM,?_⟩)
  ·intro a au an ah fQ;replace hs:=au.trans hs;replace hd:=an.trans hd;replace h0:=(ah 0 (by decide)).trans h0;replace h2:=(ah 2 (by decide)).trans h2;replace h3:=(ah 3 (by decide)).trans h3;replace h4:=(ah 4 (by decide)).trans h4;replace h5:=(ah 5 (by decide)).trans h5;replace bJ:=(ah 33 (by decide)).trans bJ
   clear au an ah;refine bp mm hk hs (bn (b:=true) mm.o bJ fQ) fun a ae iT=>t7 ae hs hd h0 h2 h3 h4 h5 bJ fQ fun hs hd h0 h2 h3 h4 h5 bJ fQ=>?_;refine al (fH Wx iT (aF aE8 (rl [0] rfl) (bp abK hk hs (ak abK.o rfl) fun a ae h4=>t4 ae hs hd h0 h2 h3 h5 fun hs hd h0 h2 h3 h5=>?_)));refine al (Loc.mono ?_ (I6 (X:=fun t V' g w=>LkX Γ k e f V b cs t V' g w\/At Γ t V' g w) hk dH.2.2.2.2 ⟨hs,hd,h0,h2,h3,h4,h5⟩ fun a w₁ hr ha lV=>.inl ⟨rfl,hB.rely hr,K.rely hr,_,rfl,.l2 ⟨by simp,dH.2.2.2.2⟩ ha lV⟩))
   rintro V g w ⟨t,rfl,h⟩;exact⟨_,⟨_,rfl,rfl⟩,h⟩
  ·intro a au an ah fQ;replace hs:=au.trans hs;replace hd:=an.trans hd;replace h0:=(ah 0 (by decide)).trans h0;replace h2:=(ah 2 (by decide)).trans h2;replace h3:=(ah 3 (by decide)).trans h3;replace h4:=(ah 4 (by decide)).trans h4;replace h5:=(ah 5 (by decide)).trans h5;replace bJ:=(ah 33 (by decide)).trans bJ
   clear au an ah;refine bp mm hk hs (bn (b:=true) mm.o bJ fQ) fun a ae iT=>t5 ae hs hd h0 h2 h3 h4 h5 fun hs hd h0 h2 h3 h4 h5=>?_;refine al (eo Wx iT (eZ aoq (Loc.mono ?_ (I6 (X:=fun t V' g w=>LkX Γ k e f V b cs t V' g w\/At Γ t V' g w) hk dH.2.2.2.2 ⟨hs,hd,h0,h2,h3,h4,h5⟩ fun a w₁ hr ha lV=>.inl ⟨rfl,hB.rely hr,K.rely hr,_,rfl,.l2 ⟨by simp,dH.2.2.2.2⟩ ha lV⟩))))
   rintro V g w ⟨t,rfl,h⟩;exact⟨_,⟨_,rfl,rfl⟩,h⟩
 |@ma wd aw sv it ws a h=>
  obtain⟨⟨hs,hd,h0,h2,h3,h4,h5,h6⟩,hn,dH,F9,Ga,h79⟩:=h;have bG:wd.n<32:=by omega
  refine Hh (p:=.main aw sv wd it) dH (by simp) hV gU nl uC.a uC.f hk uC.d (by rw [hs];decide) uC.o F9 Ga h79 (fun sm _=>?_) (fun iZ sm cM _=>⟨_,_,.qS cM,?_⟩)
  ·by_cases hz:wd.L=true\/wd.S=true
   ·have e1:QP wd aw sv=⟨if wd.S then wd.L else true,wd.W&&!aw,wd.S||(sv&&wd.L),wd.n+1⟩:=by
     have:(wd.L||wd.S)=true:=by rcases hz with h|h<;>simp [h]
     simp [QP,this]
    rw [e1];refine⟨_,_,.tD hz,?_⟩;intro a au an ah NN;replace hs:=au.trans hs;replace hd:=an.trans hd;replace h0:=(ah 0 (by decide)).trans h0;replace h2:=(ah 2 (by decide)).trans h2;replace h3:=(ah 3 (by decide)).trans h3;replace h4:=(ah 4 (by decide)).trans h4;replace h5:=(ah 5 (by decide)).trans h5;replace h6:=(ah 6 (by decide)).trans h6
    clear au an ah;refine Loc.mono ?_ (aGM (X:=fun t V' g w=>LkX Γ k e f V b cs t V' g w\/At Γ t V' g w) (e:=e) (f:=f) hk bG hz ⟨hs,hd,h0,h2,h3,h4,h5,h6⟩ NN fun a w₁ ws hr ha C3=>.inl ⟨rfl,hB.rely hr,K.rely hr,_,rfl,.se ha C3⟩);rintro V g w ⟨t,rfl,h⟩;exact⟨_,⟨_,rfl,rfl⟩,h⟩
   ·have hf:wd.L=false/\wd.S=false:=by constructor<;>(apply Bool.eq_false_iff.2;intro h;exact hz (by simp [h]))
    have e1:QP wd aw sv=⟨true,wd.W&&!aw,false,wd.n⟩:=by simp [QP,hf.1,hf.2]
    rw [e1];refine⟨_,_,.xw hf,?_⟩;intro a au an ah NN;replace hs:=au.trans hs;replace hd:=an.trans hd;replace h0:=(ah 0 (by decide)).trans h0;replace h6:=(ah 6 (by decide)).trans h6
    clear au an ah;refine al (fH Xf NN (bg aoP (bg aoE (aF aoz aoA (bp uD hk hs (af uD.o h6) fun a ae h81=>t1 ae hs hd h0 fun hs hd h0=>?_)))));refine bp uE hk hs (gP uE.o h81 rfl) fun a ae c9=>t1 ae hs hd h0 fun hs hd h0=>?_;refine bp uF hk hs (eH uF.o c9 rfl) fun a ae dI=>t1 ae hs hd h0 fun hs hd h0=>?_;rw [Og wd bG,hf.1,hf.2]at dI;exact al (fH aoD dI (Vy aFM rfl (aca (kk:=[]) hk hV gU hB K _ (fun _ _ _ _=>.inr) hs hd h0)))
  ·intro a au an ah NN;replace hs:=au.trans hs;replace hd:=an.trans hd;replace h0:=(ah 0 (by decide)).trans h0;replace h2:=(ah 2 (by decide)).trans h2;replace h3:=(ah 3 (by decide)).trans h3;replace h4:=(ah 4 (by decide)).trans h4;replace h5:=(ah 5 (by decide)).trans h5
   clear au an ah;refine Loc.mono ?_ (ay1 (X:=fun t V' g w=>LkX Γ k e f V b cs t V' g w\/At Γ t V' g w) (e:=e) (f:=f) hk ⟨hs,hd,h0,h2,h3,h4,h5⟩ NN fun a w₁ hr ha gW=>.inl ⟨rfl,hB.rely hr,K.rely hr,_,rfl,.l3 ⟨dH.1,dH.2.2⟩ ha gW⟩);rintro V g w ⟨t,rfl,h⟩;exact⟨_,⟨_,rfl,rfl⟩,h⟩
 |se h C3=>
  refine aEr hV gU nl uH.a uH.g hk uH.d (by rw [h.size];decide) uH.o (by simp;exact C3) ?_
  intro a au an ah _;refine Loc.mono ?_ (aGN (X:=fun t V' g w=>LkX Γ k e f V b cs t V' g w\/At Γ t V' g w) (e:=e) (f:=f) hk ⟨au.trans h.size,an.trans h.defers,(ah 0 (by decide)).trans h.h0,(ah 2 (by decide)).trans h.h2,(ah 3 (by decide)).trans h.h3,(ah 4 (by decide)).trans h.h4,(ah 5 (by decide)).trans h.h5⟩ fun a w₁ sv hr ha Xv=>.inl ⟨rfl,hB.rely hr,K.rely hr,_,rfl,.lw ha Xv⟩)
  rintro V g w ⟨t,rfl,h⟩;exact⟨_,⟨_,rfl,rfl⟩,h⟩
 |@lw aw sv it ws a h Xv=>
  refine tS trivial (by simp) hV gU uK.a uK.f hk (by rw [qY];exact rq) uK.d (by rw [h.size];decide) uK.o Xv fun wd sm ht=>?_
  have hw:=ht.woken rfl;cases hS:wd.S
  ·refine⟨_,_,.l5 hS,?_⟩;intro a au an ah I7;refine ay5 hk ht.n hS ⟨au.trans h.size,an.trans h.defers,(ah 0 (by decide)).trans h.h0,(ah 2 (by decide)).trans h.h2,(ah 3 (by decide)).trans h.h3,(ah 4 (by decide)).trans h.h4,(ah 5 (by decide)).trans h.h5⟩ I7 fun a hF=>?_
   refine Loc.mono ?_ (zA (e:=e) (f:=f) hk hB K ht.n31 ⟨fun _=>rfl,fun _=>⟨hw.2 hS,hS⟩,by omega⟩ hF)
   rintro V g w ⟨t,⟨p,rfl|⟨_,hL,_,rfl|⟨q,_⟩⟩,rfl⟩,h⟩
   ·exact⟨_,⟨_,⟨sv,.inl rfl⟩,rfl⟩,h⟩
   ·exact⟨_,⟨_,⟨sv,.inr ⟨hL,rfl⟩⟩,rfl⟩,h⟩
   ·cases q
  ·have hL:=hw.1 hS;refine⟨_,_,.tE (keep:=sv&&!(((wd.n:Nat):Int)==1)) hS (fun h h1=>by rw [h1]at h;simp at h),?_⟩
   intro a au an ah I7;refine ay6 hk ht.n hS hL ⟨au.trans h.size,an.trans h.defers,(ah 0 (by decide)).trans h.h0,(ah 2 (by decide)).trans h.h2,(ah 3 (by decide)).trans h.h3,(ah 4 (by decide)).trans h.h4,(ah 5 (by decide)).trans h.h5⟩ I7 fun a keep _ hkp hs hd h0 Xy apk=>?_
   subst hkp;refine di _ ⟨_,rfl,rfl⟩ fun w₁ hr=>.inr (At.fold (anu trivial (by simp) hV gU nl uS.a uS.f hk uS.d (by rw [hs];decide) uS.o Xy apk fun iZ iN ht'=>?_))
   have hh:=ht'.hand _ rfl;have e2:=axS iZ ht'.n hh.1 hh.2.2.1 (by have:=hh.2.2.2.1;omega) (sv&&!(((wd.n:Nat):Int)==1))
   rw [hh.2.1]at e2;refine⟨_,_,_,e2,.hand,?_⟩;intro a au an ah _;exact al (Vy ayo rfl (aca (kk:=[]) hk hV gU (hB.rely hr) (K.rely hr) _ (fun _ _ _ _ h=>h) (au.trans hs) (an.trans hd) ((ah 0 (by decide)).trans h0)))
end
end
section
variable {f:Fz} {w:World} {a:Act}
theorem aRi(hk:b.kind≠.early)(qY:b.fn=98)(hV:V.deaf=1)(gU:k<Γ.ns)(nl:dB Γ k V){t:Tag}{V':View}{g:Goroutine}(h:LkX Γ k e f V b cs t V' g w):At Γ t V' g w:=
 At.aax (LkX Γ k e f V b cs) (fun t V' g w h=>by
  obtain⟨rfl,hB,K,p,rfl,hc⟩:=h;exact aG3 hk qY hV gU nl hB K hc) h
theorem aY2(hk:b.kind≠.early)(qY:b.fn=98)(hV:V.deaf=1)(gU:k<Γ.ns)(nl:dB Γ k V)(hB:HB Γ k w)(hs:a.tmps.size=139)(hd:a.defers=[])(h0:a.eval (.tmp 0)=.pointer (some (eC Γ k)))(K:LkK Γ k e f V b cs w):
  bf (At Γ) (fun t=>t=⟨e,f,.lk k (.ld false false 0)⟩) V (G (b.at a (.code OO::[])) cs) w:=by
 refine bg aQ4 (aF aQV (rl [0] rfl) (bp abp hk hs (ak abp.o rfl) fun a ae h2=>t1 ae hs hd h0 fun hs hd h0=>?_));refine al (bg aQ3 (aF aQW (rl [0] rfl) (bp abr hk hs (ak abr.o rfl) fun a ae h3=>t2 ae hs hd h0 h2 fun hs hd h0 h2=>?_)));refine al (bg aQ2 (aF aQX (rl [0] rfl) (bp abu hk hs (ak abu.o rfl) fun a ae h4=>t3 ae hs hd h0 h2 h3 fun hs hd h0 h2 h3=>?_)));refine al (bg aQ1 (aF aQY (rl [0] rfl) (bp abw hk hs (ak abw.o rfl) fun a ae h5=>t4 ae hs hd h0 h2 h3 h4 fun hs hd h0 h2 h3 h4=>?_)));refine al (bg aQ0 (aF aQZ (rl [0,1,2,3,4] rfl) (bp aby hk hs (af aby.o h0) fun a ae aM=>t5 ae hs hd h0 h2 h3 h4 h5 fun hs hd h0 h2 h3 h4 h5=>?_)));refine bp abz hk hs (bE abz.o aM) fun a ae aH=>t5 ae hs hd h0 h2 h3 h4 h5 fun hs hd h0 h2 h3 h4 h5=>?_;refine bp abA hk hs (aB abA.o aH underlying56 rfl sizeOf21 (by decide) rfl) fun a ae aJ=>t5 ae hs hd h0 h2 h3 h4 h5 fun hs hd h0 h2 h3 h4 h5=>?_
 refine di _ rfl fun w₁ hr=>At.fold (tS ⟨by simp,by omega⟩ (by simp) hV gU zj.a zj.f hk (by rw [qY];exact rq) zj.d (by rw [hs];decide) zj.o aJ fun wd sm ht=>⟨_,_,.ld,?_⟩)
 intro a au an ah aK;replace hs:=au.trans hs;replace hd:=an.trans hd;replace h0:=(ah 0 (by decide)).trans h0;replace h2:=(ah 2 (by decide)).trans h2;replace h3:=(ah 3 (by decide)).trans h3;replace h4:=(ah 4 (by decide)).trans h4;replace h5:=(ah 5 (by decide)).trans h5
 clear au an ah;refine bp abB hk hs (ak abB.o aK) fun a ae h6=>t5 ae hs hd h0 h2 h3 h4 h5 fun hs hd h0 h2 h3 h4 h5=>?_;refine al (bg aGl (tQ aGk (anr aGj (bf.mono (fun t V' g w h=>h.elim (fun h=>aRi hk qY hV gU nl h) id) (zA (e:=e) (f:=f) hk (hB.rely hr) (K.rely hr) ht.n31 ⟨by simp,by simp,by omega⟩ (it:=0) ⟨hs,hd,h0,h2,h3,h4,h5,h6⟩)))))
theorem aY3(hk:b.kind≠.early)(hV:V.deaf=0)(gU:k<Γ.ns)(nl:dB Γ k V)(hB:HB Γ k w)(hs:a.tmps.size=13)(hd:a.defers=[])(h0:a.eval (.tmp 0)=.pointer (some (eC Γ k)))(K:iw Γ k e f V w fun q V' w₁=>kF Γ q V' b cs w₁):
  bf (At Γ) (fun t=>t=⟨e,f,.lk k .yJ⟩) V (G (b.at a (.code OJ::[])) cs) w:=by
 refine bg aQK (aF aQC (rl [0] rfl) (mY .disable 1 (.inl ⟨rfl,by rw [hV]⟩) za.a za.f hk za.d za.o func37 NQ NR NS NU fun a au an ah=>?_))
 replace hs:=au.trans hs;replace hd:=an.trans hd;replace h0:=(ah 0 (by decide)).trans h0
 clear au an ah;refine al (bg aQJ (bg aQI (aF aQD (rl [0,1,2,3] rfl) (bp aaZ hk hs (af aaZ.o h0) fun a ae h3=>t1 ae hs hd h0 fun hs hd h0=>?_))));refine bp aa0 hk hs (bE aa0.o h3) fun a ae h4=>t1 ae hs hd h0 fun hs hd h0=>?_;refine bp aa1 hk hs (aB aa1.o h4 underlying56 rfl sizeOf21 (by decide) rfl) fun a ae h5=>t1 ae hs hd h0 fun hs hd h0=>?_
 refine di _ rfl fun fU gb=>At.fold ?_;replace K:=K.rely (show aP V w fU from⟨gb.tape,gb.output,gb.os,gb.size,gb.kind,gb.own,gb.cell⟩)
 replace hB:=hB.rely gb;refine Hh (p:=.yJ) (old:=⟨false,false,false,0⟩) (new:=⟨true,false,false,0⟩) trivial (by simp) rfl gU (nl.hears 1) zb.a zb.f hk zb.d (by rw [hs];decide) zb.o h5 rfl rfl (fun sm _=>⟨_,_,.BH,?_⟩) (fun wd sm cM _=>⟨_,_,.qQ cM,?_⟩)
 ·intro a au an ah h6;replace hs:=au.trans hs;replace hd:=an.trans hd;replace h0:=(ah 0 (by decide)).trans h0
  clear au an ah;refine al (fH aBh h6 (bg aQH (fH aQG rfl (bg aQF (aF aQE (rl [0] rfl) (mY .enable 0 (.inr ⟨rfl,rfl⟩) zc.a zc.f hk zc.d zc.o func38 Fx Fy FA FB fun a au an ah=>?_))))));replace hs:=au.trans hs;replace hd:=an.trans hd;replace h0:=(ah 0 (by decide)).trans h0
  clear au an ah;rw [pa,s0 hV];refine al (aF aEU (rl [0,1,2] rfl) (bp aa7 hk hs (af aa7.o h0) fun a ae h8=>t1 ae hs hd h0 fun hs hd h0=>?_));obtain⟨c,ty,fr,hb1,yn⟩:=hB;refine bp aa8 hk hs (jm aa8.o h8 underlying160 underlying96 Xp hb1 yn rfl) fun a ae h9=>t1 ae hs hd h0 fun hs hd h0=>?_;refine di _ rfl fun w₁ hr=>At.fold (apa hV gU zd.a zd.g hk zd.d zd.o (by simp;exact h9) fun fy γ VK q1 q2 q3 q4 q5 a' s' d'=>al (dg aEW fun todo=>K fy γ VK (hr.trans q1) q2 q3 q4 q5 a' todo (d'.trans hd)))
 ·intro a au an ah h6;replace hs:=au.trans hs;replace hd:=an.trans hd;replace h0:=(ah 0 (by decide)).trans h0
  clear au an ah;refine al (eo aBh h6 (eZ aEX (aF aEY (rl [0,1] rfl) (bp aa9 hk hs (af aa9.o h0) fun a ae aH=>t0 ae hs hd fun hs hd=>?_))));refine lS uj.a uj.f hk uj.o func98 (by kernel_rfl) aGm (Loc.mono ?_ (aY2 (e:=e) (f:=f) (b:=base 98) (by decide) rfl rfl gU (nl.hears 1) hB (by simp [show Tryz.f98.ntmps=139 from rfl]) rfl (by simpa [Act.eval]using aH) ?_))
  ·rintro V g w ⟨t,rfl,h⟩;exact⟨_,⟨_,rfl,rfl⟩,h⟩
  ·unfold LkK;rw [pa,s0 hV];exact K.mono fun q V' w₁ h a' todo aV=>jg rfl aV func98 rfl uj.a uj.d fun a au an ah=>al (rX (h a [] (an.trans hd)))
theorem Gb(hk:b.kind≠.early)(hV:V.deaf=0)(gU:k<Γ.ns)(nl:dB Γ k V)(hB:HB Γ k w)(hs:a.tmps.size=6)(hd:a.defers=[])(h0:a.eval (.tmp 0)=.pointer (some (eC Γ k)))(K:iw Γ k e f V w fun q V' w₁=>kF Γ q V' b cs w₁):
  bf (At Γ) (fun t=>t=⟨e,f,.lk k .yJ⟩) V (G (b.at a (.code aaP::[])) cs) w:=by
 refine aF aQA (rl [0,1,2,3] rfl) (bp aaQ hk hs (af aaQ.o h0) fun a ae h2=>t0 ae hs hd fun hs hd=>?_);refine bp aaR hk hs (bE aaR.o h2) fun a ae h3=>t0 ae hs hd fun hs hd=>?_;refine bp aaS hk hs (aB aaS.o h3 underlying58 rfl sizeOf56 (by decide) rfl) fun a ae h4=>t0 ae hs hd fun hs hd=>?_
 have h4:a.eval (.tmp 4)=.pointer (some (eC Γ k)):=h4;exact lS uh.a uh.f hk uh.o func87 (by kernel_rfl) aEZ (aY3 (b:=base 87) (by decide) hV gU nl hB (by simp [show Tryz.f87.ntmps=13 from rfl]) rfl (by simpa [Act.eval]using h4) (K.mono fun q V' w₁ h a' todo aV=>jg rfl aV func87 rfl uh.a uh.d fun a au an ah=>al (rX (h a [] (an.trans hd)))))
end
noncomputable section
set_option maxRecDepth 20000
def Gc:=(Tryz.f51.body).getD .skip
def apl:=aN Gc
def aBv:=aA apl
theorem aRj:apl=.region 0 aBv false:=rfl
theorem acb:K1 aBv 0 (.assign (.const (.slice none 0 0))) 6:=rfl
def acd:=aO Gc
def apm:=aN acd
def QR:=aA apm
theorem aRk:apm=.region 1 QR false:=rfl
theorem ace:K1 QR 0 (.move (.tmp 0)) 9:=rfl
theorem acf:K1 QR 1 (.nilCheck (.tmp 9)) 10:=rfl
theorem acg:K1 QR 2 (.fieldAddr 61 (.tmp 10) 2) 11:=rfl
theorem vt:K1 QR 3 (.call {callee:=.value (.func 74),args:=#[.tmp 11],argTypes:=#[58]}) 12:=rfl
def Gd:=aO acd
def apn:=aN Gd
def nW:=aA apn
theorem aRl:apn=.region 2 nW false:=rfl
theorem ach:K1 nW 0 (.move (.tmp 0)) 14:=rfl
theorem aci:K1 nW 1 (.nilCheck (.tmp 14)) 15:=rfl
theorem acj:K1 nW 2 (.fieldAddr 61 (.tmp 15) 3) 16:=rfl
theorem ack:K1 nW 3 (.load 59 (.tmp 16)) 17:=rfl
theorem acm:K1 nW 4 (.move (.tmp 1)) 18:=rfl
theorem acn:K1 nW 5 (.lookup 59 (.tmp 17) (.tmp 18) true) 19:=rfl
theorem aco:K1 nW 6 (.move (.tmp 19)) 13:=rfl
theorem acp:K1 nW 7 (.extract (.tmp 13) 0) 20:=rfl
theorem acr:K1 nW 8 (.extract (.tmp 13) 1) 21:=rfl
theorem acs:K1 nW 9 (.assign (.tmp 20)) 7:=rfl
theorem QS:K1 nW 10 (.assign (.tmp 21)) 8:=rfl
def vu:=aO Gd
def acu:=aN vu
def apo:=aN acu
def acv:=aA apo
theorem aBw:apo=.region 3 acv false:=rfl
theorem aBx:List.range acv.size=[0,1]:=rfl
theorem zB:K1 acv 0 (.move (.tmp 8)) 22:=rfl
theorem zC:K1 acv 1 (.unOp .not 4 (.tmp 22)) 23:=rfl
def acw:=aO acu
def I9:=eb acw
def Xz:=aN I9
def QT:=aA Xz
theorem aG4:Xz=.region 4 QT false:=rfl
theorem zD:K1 QT 0 (.makeChan 78 (.const (.int .i64 0))) 24:=rfl
theorem acx:K1 QT 1 (.build 136 #[(0,.tmp 24)]) 25:=rfl
theorem zE:K1 QT 2 (.box 136 (.tmp 25)) 26:=rfl
theorem acy:K1 QT 3 (.assign (.tmp 26)) 7:=rfl
def XA:=aO I9
def yw:=aA XA
theorem aG5:XA=.region 5 yw false:=rfl
theorem acz:K1 yw 0 (.move (.tmp 0)) 27:=rfl
theorem acA:K1 yw 1 (.nilCheck (.tmp 27)) 28:=rfl
theorem acB:K1 yw 2 (.fieldAddr 61 (.tmp 28) 3) 29:=rfl
theorem acC:K1 yw 3 (.load 59 (.tmp 29)) 30:=rfl
theorem acD:K1 yw 4 (.move (.tmp 1)) 31:=rfl
theorem acE:K1 yw 5 (.move (.tmp 7)) 32:=rfl
theorem zF:KO yw 6 (.mapUpdate 59 (.tmp 30) (.tmp 31) (.tmp 32)) none none:=rfl
theorem aG6:I9=.seq Xz XA:=rfl
def apq:=ee acw
theorem aG7:apq=.skip:=rfl
theorem aBy:acw=.cond (.tmp 23) I9 apq:=rfl
theorem aBz:acu=.seq apo acw:=rfl
def s9:=aO vu
def XB:=aN s9
def QU:=aA XB
theorem aG8:XB=.region 6 QU false:=rfl
theorem acF:K1 QU 0 (.move (.tmp 0)) 33:=rfl
theorem acG:K1 QU 1 (.nilCheck (.tmp 33)) 34:=rfl
theorem acH:K1 QU 2 (.fieldAddr 61 (.tmp 34) 2) 35:=rfl
theorem vv:K1 QU 3 (.call {callee:=.value (.func 75),args:=#[.tmp 35],argTypes:=#[58]}) 36:=rfl
def ta:=aO s9
def Ja:=aN ta
def XC:=aN Ja
def acI:=aA XC
theorem apr:XC=.region 7 acI false:=rfl
theorem aBA:List.range acI.size=[0,1]:=rfl
theorem zG:K1 acI 0 (.move (.tmp 8)) 37:=rfl
theorem zH:K1 acI 1 (.unOp .not 4 (.tmp 37)) 38:=rfl
def Jc:=aO Ja
def XD:=eb Jc
def QV:=aA XD
theorem aG9:XD=.region 8 QV false:=rfl
theorem acJ:K1 QV 0 (.move (.tmp 0)) 39:=rfl
theorem acK:K1 QV 1 (.move (.tmp 1)) 40:=rfl
theorem acL:K1 QV 2 (.move (.tmp 7)) 41:=rfl
theorem vx:K1 QV 3 (.call {callee:=.value (.func 76),args:=#[.tmp 39,.tmp 40,.tmp 41],argTypes:=#[51,2,133]}) 42:=rfl
def aps:=ee Jc
theorem aHa:aps=.skip:=rfl
theorem apt:Jc=.cond (.tmp 38) XD aps:=rfl
theorem apu:Ja=.seq XC Jc:=rfl
def pk:=aO ta
def Jd:=aN pk
def XE:=aN Jd
def QW:=aA XE
theorem aHb:XE=.region 9 QW false:=rfl
theorem acM:K1 QW 0 (.move (.tmp 7)) 43:=rfl
theorem acN:K1 QW 1 (.nilCheck (.tmp 43)) 44:=rfl
theorem acO:K1 QW 2 (.fieldAddr 136 (.tmp 44) 0) 45:=rfl
theorem acP:K1 QW 3 (.load 78 (.tmp 45)) 46:=rfl
def XF:=aO Jd
def apv:=aA XF
theorem aHc:XF=.region 10 apv false:=rfl
theorem QX:K1 apv 0 (.move (.tmp 2)) 47:=rfl
theorem aHd:Jd=.seq XE XF:=rfl
def Je:=aO pk
def XG:=aN Je
def pn:=aA XG
theorem aHe:XG=.region 11 pn false:=rfl
theorem mq:K1 pn 0 (.select #[{chan:=.tmp 46,send:=none,elem:=52},{chan:=.tmp 47,send:=none,elem:=52}] true) 48:=rfl
theorem QY:K1 pn 1 (.extract (.tmp 48) 0) 49:=rfl
theorem QZ:K1 pn 2 (.binOp .eql 3 (.tmp 49) (.const (.int .i64 0)) 3) 50:=rfl
theorem Q0:K1 pn 3 (.binOp .eql 3 (.tmp 49) (.const (.int .i64 1)) 3) 51:=rfl
def XH:=aO Je
def Jf:=kB XH
def Jg:=eb Jf
def XI:=aN Jg
def xL:=aA XI
theorem aHf:XI=.region 12 xL false:=rfl
theorem Q2:K1 xL 0 (.move (.tmp 7)) 52:=rfl
theorem Q3:K1 xL 1 (.nilCheck (.tmp 52)) 53:=rfl
theorem Q4:K1 xL 2 (.fieldAddr 136 (.tmp 53) 1) 54:=rfl
theorem Q5:K1 xL 3 (.load 25 (.tmp 54)) 55:=rfl
theorem Q6:K1 xL 4 (.assign (.tmp 55)) 6:=rfl
def apw:=aO Jg
theorem aHg:apw=.ret:=rfl
theorem aHh:Jg=.seq XI apw:=rfl
def aHi:=ee Jf
theorem aHj:Jf=.cond (.tmp 50) Jg aHi:=rfl
theorem aHk:XH=.block 0 Jf:=rfl
theorem aHl:Je=.seq XG XH:=rfl
theorem aHm:pk=.seq Jd Je:=rfl
theorem apx:ta=.seq Ja pk:=rfl
theorem aHn:s9=.seq XB ta:=rfl
theorem aBB:vu=.seq acu s9:=rfl
theorem aRm:Gd=.seq apn vu:=rfl
theorem aRn:acd=.seq apm Gd:=rfl
theorem aRo:Gc=.seq apl acd:=rfl
theorem aHo:Tryz.f51.body=some Gc:=rfl
def Ge:=(Tryz.f76.body).getD .skip
def apy:=aN Ge
def Gf:=aA apy
theorem aRp:apy=.region 0 Gf false:=rfl
theorem acQ:K1 Gf 0 (.move (.tmp 2)) 7:=rfl
theorem acR:K1 Gf 1 (.nilCheck (.tmp 7)) 8:=rfl
theorem acS:K1 Gf 2 (.fieldAddr 136 (.tmp 8) 0) 9:=rfl
theorem acT:K1 Gf 3 (.load 78 (.tmp 9)) 10:=rfl
theorem zI:KO Gf 4 (.defer {callee:=.builtin .close,args:=#[.tmp 10],argTypes:=#[78]}) none none:=rfl
def acU:=aO Ge
def acV:=aN acU
def lC:=aA acV
theorem aRq:acV=.region 1 lC true:=rfl
theorem Jh:K1 lC 0 (.move (.tmp 1)) 11:=rfl
theorem Ji:K1 lC 1 (.move (.tmp 0)) 12:=rfl
theorem Jj:K1 lC 2 (.nilCheck (.tmp 12)) 13:=rfl
theorem Jk:K1 lC 3 (.fieldAddr 61 (.tmp 13) 1) 14:=rfl
theorem Jl:K1 lC 4 (.load 2 (.tmp 14)) 15:=rfl
theorem Jm:K1 lC 5 (.move (.tmp 0)) 16:=rfl
theorem Jn:K1 lC 6 (.nilCheck (.tmp 16)) 17:=rfl
theorem Jo:K1 lC 7 (.fieldAddr 61 (.tmp 17) 0) 18:=rfl
theorem Jp:K1 lC 8 (.load 25 (.tmp 18)) 19:=rfl
theorem Jq:K1 lC 9 (.call {callee:=.builtin .len,args:=#[.tmp 19],argTypes:=#[25]}) 20:=rfl
theorem po:K1 lC 10 (.call {callee:=.value (.func 89),args:=#[.tmp 11,.tmp 15,.tmp 20],argTypes:=#[2,2,2]}) 21:=rfl
theorem pq:K1 lC 11 (.alloc 32) 6:=rfl
theorem pr:KO lC 12 (.store 32 (.tmp 6) (.tmp 21)) none none:=rfl
def acW:=aO acU
def acX:=aN acW
def kK:=aA acX
theorem aRr:acX=.region 2 kK true:=rfl
theorem Jr:K1 kK 0 (.move (.tmp 2)) 22:=rfl
theorem Js:K1 kK 1 (.move (.tmp 0)) 23:=rfl
theorem Jt:K1 kK 2 (.nilCheck (.tmp 23)) 24:=rfl
theorem Ju:K1 kK 3 (.fieldAddr 61 (.tmp 24) 0) 25:=rfl
theorem Jv:K1 kK 4 (.load 25 (.tmp 25)) 26:=rfl
theorem Jw:K1 kK 5 (.fieldAddr 32 (.tmp 6) 0) 27:=rfl
theorem Jx:K1 kK 6 (.load 2 (.tmp 27)) 28:=rfl
theorem Jy:K1 kK 7 (.fieldAddr 32 (.tmp 6) 1) 29:=rfl
theorem Jz:K1 kK 8 (.load 2 (.tmp 29)) 30:=rfl
theorem JA:K1 kK 9 (.slice 25 (.tmp 26) (some (.tmp 28)) (some (.tmp 30)) none) 31:=rfl
theorem pt:K1 kK 10 (.call {callee:=.builtin .append,args:=#[.const (.slice none 0 0),.tmp 31],argTypes:=#[25,25]}) 32:=rfl
theorem C4:K1 kK 11 (.nilCheck (.tmp 22)) 33:=rfl
theorem C5:K1 kK 12 (.fieldAddr 136 (.tmp 33) 1) 34:=rfl
theorem pv:KO kK 13 (.store 25 (.tmp 34) (.tmp 32)) none none:=rfl
def Gg:=aO acW
def apz:=aN Gg
def Q7:=aA apz
theorem aRs:apz=.region 3 Q7 false:=rfl
theorem acY:K1 Q7 0 (.move (.tmp 0)) 35:=rfl
theorem acZ:K1 Q7 1 (.nilCheck (.tmp 35)) 36:=rfl
theorem ac0:K1 Q7 2 (.fieldAddr 61 (.tmp 36) 2) 37:=rfl
theorem vy:K1 Q7 3 (.call {callee:=.value (.func 74),args:=#[.tmp 37],argTypes:=#[58]}) 38:=rfl
def C6:=aO Gg
def apA:=aN C6
def Q8:=aA apA
theorem aRt:apA=.region 4 Q8 false:=rfl
theorem ac1:K1 Q8 0 (.move (.tmp 0)) 39:=rfl
theorem ac2:K1 Q8 1 (.nilCheck (.tmp 39)) 40:=rfl
theorem ac3:K1 Q8 2 (.fieldAddr 61 (.tmp 40) 2) 41:=rfl
theorem zJ:KO Q8 3 (.defer {callee:=.value (.func 75),args:=#[.tmp 41],argTypes:=#[58]}) none none:=rfl
def JB:=aO C6
def JC:=aN JB
def iK:=aA JC
theorem aHp:JC=.region 5 iK true:=rfl
theorem JD:K1 iK 0 (.move (.tmp 0)) 42:=rfl
theorem JE:K1 iK 1 (.nilCheck (.tmp 42)) 43:=rfl
theorem JF:K1 iK 2 (.fieldAddr 61 (.tmp 43) 5) 44:=rfl
theorem JG:K1 iK 3 (.load 2 (.tmp 44)) 45:=rfl
theorem JH:K1 iK 4 (.move (.tmp 0)) 46:=rfl
theorem JI:K1 iK 5 (.nilCheck (.tmp 46)) 47:=rfl
theorem JJ:K1 iK 6 (.fieldAddr 61 (.tmp 47) 4) 48:=rfl
theorem JK:K1 iK 7 (.load 39 (.tmp 48)) 49:=rfl
theorem JL:K1 iK 8 (.load 32 (.tmp 6)) 50:=rfl
theorem vz:K1 iK 9 (.buildSlice 37 1 #[(0,.tmp 50)]) 51:=rfl
theorem pw:K1 iK 10 (.call {callee:=.value (.func 9),args:=#[.tmp 51],argTypes:=#[37]}) 52:=rfl
theorem px:K1 iK 11 (.call {callee:=.value (.func 90),args:=#[.tmp 49,.tmp 52],argTypes:=#[39,39]}) 53:=rfl
theorem py:K1 iK 12 (.call {callee:=.value (.func 91),args:=#[.tmp 53],argTypes:=#[39]}) 54:=rfl
theorem C7:K1 iK 13 (.binOp .add 2 (.tmp 45) (.tmp 54) 2) 55:=rfl
theorem C8:K1 iK 14 (.nilCheck (.tmp 42)) 56:=rfl
theorem C9:K1 iK 15 (.fieldAddr 61 (.tmp 56) 5) 57:=rfl
theorem pz:KO iK 16 (.store 2 (.tmp 57) (.tmp 55)) none none:=rfl
def JM:=aO JB
def mw:=aA JM
theorem aHq:JM=.region 6 mw true:=rfl
theorem JN:K1 mw 0 (.move (.tmp 0)) 58:=rfl
theorem JO:K1 mw 1 (.move (.tmp 0)) 59:=rfl
theorem JP:K1 mw 2 (.nilCheck (.tmp 59)) 60:=rfl
theorem JQ:K1 mw 3 (.fieldAddr 61 (.tmp 60) 4) 61:=rfl
theorem JR:K1 mw 4 (.load 39 (.tmp 61)) 62:=rfl
theorem JS:K1 mw 5 (.load 32 (.tmp 6)) 63:=rfl
theorem vA:K1 mw 6 (.buildSlice 37 1 #[(0,.tmp 63)]) 64:=rfl
theorem vB:K1 mw 7 (.call {callee:=.value (.func 9),args:=#[.tmp 64],argTypes:=#[37]}) 65:=rfl
theorem vC:K1 mw 8 (.call {callee:=.value (.func 6),args:=#[.tmp 62,.tmp 65],argTypes:=#[39,39]}) 66:=rfl
theorem JU:K1 mw 9 (.nilCheck (.tmp 58)) 67:=rfl
theorem Da:K1 mw 10 (.fieldAddr 61 (.tmp 67) 4) 68:=rfl
theorem pA:KO mw 11 (.store 39 (.tmp 68) (.tmp 66)) none none:=rfl
theorem aHr:JB=.seq JC JM:=rfl
theorem aRu:C6=.seq apA JB:=rfl
theorem aRv:Gg=.seq apz C6:=rfl
theorem aRw:acW=.seq acX Gg:=rfl
theorem aRx:acU=.seq acV acW:=rfl
theorem aRy:Ge=.seq apy acU:=rfl
theorem aHs:Tryz.f76.body=some Ge:=rfl
def Q9:=(Tryz.f25.body).getD .skip
def apB:=aN Q9
def aBC:=aA apB
theorem aRz:apB=.region 0 aBC false:=rfl
theorem zK:KO aBC 0 (.defer {callee:=.value (.func 26),args:=#[.tmp 0],argTypes:=#[85]}) none none:=rfl
def ac4:=aO Q9
def iL:=aA ac4
theorem aRA:ac4=.region 1 iL true:=rfl
theorem vD:K1 iL 0 (.load 26 (.tmp 4)) 6:=rfl
theorem vE:K1 iL 1 (.load 3 (.tmp 5)) 7:=rfl
theorem vF:K1 iL 2 (.load 48 (.tmp 1)) 8:=rfl
theorem vG:K1 iL 3 (.fieldAddr 34 (.tmp 2) 0) 9:=rfl
theorem vH:K1 iL 4 (.load 3 (.tmp 9)) 10:=rfl
theorem vI:K1 iL 5 (.indexAddr 48 (.tmp 8) (.tmp 10)) 11:=rfl
theorem vJ:K1 iL 6 (.load 51 (.tmp 11)) 12:=rfl
theorem vK:K1 iL 7 (.load 34 (.tmp 2)) 13:=rfl
theorem vL:K1 iL 8 (.load 78 (.tmp 3)) 14:=rfl
theorem rr:K1 iL 9 (.call {callee:=.value (.func 27),args:=#[.tmp 12,.tmp 13,.tmp 14],argTypes:=#[51,34,106]}) 15:=rfl
theorem pB:K1 iL 10 (.indexAddr 26 (.tmp 6) (.tmp 7)) 16:=rfl
theorem my:KO iL 11 (.store 36 (.tmp 16) (.tmp 15)) none none:=rfl
theorem aRB:Q9=.seq apB ac4:=rfl
theorem aHt:Tryz.f25.body=some Q9:=rfl
def ac5:=(Tryz.f26.body).getD .skip
def Ra:=aA ac5
theorem aRC:ac5=.region 0 Ra false:=rfl
theorem zL:K1 Ra 0 (.move (.tmp 0)) 2:=rfl
theorem JV:K1 Ra 1 (.call {callee:=.value (.func 24),args:=#[.tmp 2,.const (.int .i64 (-1))],argTypes:=#[94,3]}) 3:=rfl
theorem aHu:Tryz.f26.body=some ac5:=rfl
def Db:=(Tryz.f24.body).getD .skip
def ac6:=aN Db
def ac7:=eb ac6
def ac8:=aN ac7
def apC:=aN ac8
def ac9:=aA apC
theorem aBD:apC=.region 0 ac9 false:=rfl
theorem aBE:List.range ac9.size=[0,1]:=rfl
theorem ru:K1 ac9 0 (.move (.tmp 1)) 9:=rfl
theorem rv:K1 ac9 1 (.binOp .lss 3 (.tmp 9) (.const (.int .i64 0)) 3) 10:=rfl
def ada:=aO ac8
def apD:=eb ada
def Gi:=aA apD
theorem aRD:apD=.region 1 Gi false:=rfl
theorem zM:K1 Gi 0 (.move (.tmp 0)) 11:=rfl
theorem vM:K1 Gi 1 (.convert 94 96 (.tmp 11)) 12:=rfl
theorem JW:K1 Gi 2 (.call {callee:=.value (.func 36),args:=#[.tmp 12],argTypes:=#[96]}) 13:=rfl
def aBF:=ee ada
theorem aRE:aBF=.skip:=rfl
theorem aBG:ada=.cond (.tmp 10) apD aBF:=rfl
theorem aBH:ac8=.seq apC ada:=rfl
def adb:=aO ac7
def apE:=aN adb
def apF:=aA apE
theorem aBI:apE=.region 2 apF false:=rfl
theorem aBJ:List.range apF.size=[0]:=rfl
theorem nE:K1 apF 0 (.call {callee:=.value (.func 37),args:=#[],argTypes:=#[]}) 14:=rfl
def XJ:=aO adb
def aBK:=aA XJ
theorem aHv:XJ=.region 3 aBK false:=rfl
theorem zN:KO aBK 0 (.defer {callee:=.value (.func 38),args:=#[],argTypes:=#[]}) none none:=rfl
theorem aBL:adb=.seq apE XJ:=rfl
theorem aBM:ac7=.seq ac8 adb:=rfl
def aHw:=ee ac6
theorem aBN:ac6=.cond (.const (.bool true)) ac7 aHw:=rfl
def JX:=aO Db
def XK:=aN JX
def aBO:=aA XK
theorem aHx:XK=.region 4 aBO false:=rfl
theorem ade:K1 aBO 0 (.assign (.const (.bool false))) 4:=rfl
def JY:=aO JX
def JZ:=aN JY
def XL:=aN JZ
def aBP:=aA XL
theorem aHy:XL=.region 5 aBP false:=rfl
theorem zO:K1 aBP 0 (.call {callee:=.value (.func 39),args:=#[],argTypes:=#[]}) 15:=rfl
def J0:=aO JZ
def aHz:=eb J0
def apG:=ee J0
theorem aHA:apG=.skip:=rfl
theorem aHB:J0=.cond (.tmp 15) aHz apG:=rfl
theorem aHC:JZ=.seq XL J0:=rfl
def J1:=aO JY
def XM:=aN J1
def kM:=aA XM
theorem aHD:XM=.region 15 kM false:=rfl
theorem Rb:K1 kM 0 (.move (.tmp 0)) 37:=rfl
theorem Re:K1 kM 1 (.nilCheck (.tmp 37)) 38:=rfl
theorem Rf:K1 kM 2 (.fieldAddr 85 (.tmp 38) 1) 39:=rfl
theorem Rh:K1 kM 3 (.move (.tmp 1)) 40:=rfl
theorem Ri:K1 kM 4 (.convert 3 81 (.tmp 40)) 41:=rfl
theorem Rj:K1 kM 5 (.binOp .shl 81 (.tmp 41) (.const (.int .u64 32)) 90) 42:=rfl
theorem pC:K1 kM 6 (.call {callee:=.value (.func 43),args:=#[.tmp 39,.tmp 42],argTypes:=#[83,81]}) 43:=rfl
theorem Rl:K1 kM 7 (.assign (.tmp 43)) 6:=rfl
def tc:=aO J1
def J2:=aN tc
def XN:=aN J2
def pD:=aA XN
theorem aHE:XN=.region 16 pD false:=rfl
theorem Rm:K1 pD 0 (.move (.tmp 6)) 44:=rfl
theorem Rn:K1 pD 1 (.binOp .and 81 (.tmp 44) (.const (.int .u64 2147483648)) 81) 45:=rfl
theorem Ro:K1 pD 2 (.binOp .neq 81 (.tmp 45) (.const (.int .u64 0)) 81) 46:=rfl
theorem Rp:K1 pD 3 (.move (.tmp 46)) 47:=rfl
theorem Dc:KO pD 4 (.move (.tmp 4)) (some 48) (some (3,true)):=rfl
theorem De:KO pD 5 (.unOp .not 4 (.tmp 48)) (some 49) (some (3,true)):=rfl
theorem Rq:K1 pD 6 (.pick (.tmp 47) (.tmp 49) (.const (.bool false))) 50:=rfl
def J3:=aO J2
def aHF:=eb J3
def apH:=ee J3
theorem aHG:apH=.skip:=rfl
theorem aHH:J3=.cond (.tmp 50) aHF apH:=rfl
theorem aHI:J2=.seq XN J3:=rfl
def J4:=aO tc
def XO:=aN J4
def Df:=aA XO
theorem aHJ:XO=.region 18 Df false:=rfl
theorem Rr:K1 Df 0 (.move (.tmp 6)) 52:=rfl
theorem Rs:K1 Df 1 (.binOp .shr 81 (.tmp 52) (.const (.int .u64 32)) 90) 53:=rfl
theorem Rt:K1 Df 2 (.convert 81 21 (.tmp 53)) 54:=rfl
theorem Ru:K1 Df 3 (.assign (.tmp 54)) 7:=rfl
def J5:=aO J4
def XP:=aN J5
def Dg:=aA XP
theorem aHK:XP=.region 19 Dg false:=rfl
theorem Rv:K1 Dg 0 (.move (.tmp 6)) 55:=rfl
theorem Rw:K1 Dg 1 (.binOp .and 81 (.tmp 55) (.const (.int .u64 2147483647)) 81) 56:=rfl
theorem Rx:K1 Dg 2 (.convert 81 54 (.tmp 56)) 57:=rfl
theorem Ry:K1 Dg 3 (.assign (.tmp 57)) 8:=rfl
def J6:=aO J5
def J7:=aN J6
def XQ:=aN J7
def kN:=aA XQ
theorem aHL:XQ=.region 20 kN false:=rfl
theorem Rz:K1 kN 0 (.move (.const (.bool true))) 58:=rfl
theorem RA:KO kN 1 (.move (.tmp 1)) (some 59) (some (0,true)):=rfl
theorem RB:KO kN 2 (.binOp .gtr 3 (.tmp 59) (.const (.int .i64 0)) 3) (some 60) (some (0,true)):=rfl
theorem RE:K1 kN 3 (.pick (.tmp 58) (.tmp 60) (.const (.bool false))) 61:=rfl
theorem RF:K1 kN 4 (.move (.tmp 61)) 62:=rfl
theorem RG:KO kN 5 (.move (.tmp 7)) (some 63) (some (4,true)):=rfl
theorem RH:KO kN 6 (.move (.tmp 1)) (some 64) (some (4,true)):=rfl
theorem RI:KO kN 7 (.convert 3 21 (.tmp 64)) (some 65) (some (4,true)):=rfl
theorem RJ:KO kN 8 (.binOp .eql 21 (.tmp 63) (.tmp 65) 21) (some 66) (some (4,true)):=rfl
theorem RL:K1 kN 9 (.pick (.tmp 62) (.tmp 66) (.const (.bool false))) 67:=rfl
def J8:=aO J7
def XR:=eb J8
def nF:=aA XR
theorem aHM:XR=.region 21 nF false:=rfl
theorem RN:K1 nF 0 (.move (.tmp 0)) 68:=rfl
theorem RO:K1 nF 1 (.nilCheck (.tmp 68)) 69:=rfl
theorem RP:K1 nF 2 (.fieldAddr 85 (.tmp 69) 2) 70:=rfl
theorem RQ:K1 nF 3 (.convert 101 96 (.tmp 70)) 71:=rfl
theorem Dh:K1 nF 4 (.call {callee:=.value (.func 44),args:=#[.tmp 71],argTypes:=#[96]}) 72:=rfl
def apI:=ee J8
theorem aHN:apI=.skip:=rfl
theorem apJ:J8=.cond (.tmp 67) XR apI:=rfl
theorem aHO:J7=.seq XQ J8:=rfl
def pE:=aO J6
def J9:=aN pE
def XS:=aN J9
def XT:=aA XS
theorem aHP:XS=.region 22 XT false:=rfl
theorem RR:K1 XT 0 (.move (.tmp 7)) 73:=rfl
theorem RS:K1 XT 1 (.binOp .lss 21 (.tmp 73) (.const (.int .i32 0)) 21) 74:=rfl
def Ka:=aO J9
def aHQ:=eb Ka
def apK:=ee Ka
theorem aHR:apK=.skip:=rfl
theorem aHS:Ka=.cond (.tmp 74) aHQ apK:=rfl
theorem aHT:J9=.seq XS Ka:=rfl
def Kb:=aO pE
def Kc:=aN Kb
def XU:=aN Kc
def iW:=aA XU
theorem aHU:XU=.region 24 iW false:=rfl
theorem RU:K1 iW 0 (.move (.tmp 8)) 76:=rfl
theorem RV:K1 iW 1 (.binOp .neq 54 (.tmp 76) (.const (.int .u32 0)) 54) 77:=rfl
theorem RX:K1 iW 2 (.move (.tmp 77)) 78:=rfl
theorem Di:KO iW 3 (.move (.tmp 1)) (some 79) (some (2,true)):=rfl
theorem Dj:KO iW 4 (.binOp .gtr 3 (.tmp 79) (.const (.int .i64 0)) 3) (some 80) (some (2,true)):=rfl
theorem RY:K1 iW 5 (.pick (.tmp 78) (.tmp 80) (.const (.bool false))) 81:=rfl
theorem RZ:K1 iW 6 (.move (.tmp 81)) 82:=rfl
theorem Dk:KO iW 7 (.move (.tmp 7)) (some 83) (some (6,true)):=rfl
theorem Dl:KO iW 8 (.move (.tmp 1)) (some 84) (some (6,true)):=rfl
theorem Dm:KO iW 9 (.convert 3 21 (.tmp 84)) (some 85) (some (6,true)):=rfl
theorem xM:KO iW 10 (.binOp .eql 21 (.tmp 83) (.tmp 85) 21) (some 86) (some (6,true)):=rfl
theorem Gj:K1 iW 11 (.pick (.tmp 82) (.tmp 86) (.const (.bool false))) 87:=rfl
def Kd:=aO Kc
def aHV:=eb Kd
def apM:=ee Kd
theorem aHW:apM=.skip:=rfl
theorem aHX:Kd=.cond (.tmp 87) aHV apM:=rfl
theorem aHY:Kc=.seq XU Kd:=rfl
def Ke:=aO Kb
def Kf:=aN Ke
def XV:=aN Kf
def td:=aA XV
theorem aHZ:XV=.region 26 td false:=rfl
theorem R0:K1 td 0 (.move (.tmp 7)) 89:=rfl
theorem R3:K1 td 1 (.binOp .gtr 21 (.tmp 89) (.const (.int .i32 0)) 21) 90:=rfl
theorem R5:K1 td 2 (.move (.tmp 90)) 91:=rfl
theorem Dn:KO td 3 (.move (.tmp 8)) (some 92) (some (2,false)):=rfl
theorem Dp:KO td 4 (.binOp .eql 54 (.tmp 92) (.const (.int .u32 0)) 54) (some 93) (some (2,false)):=rfl
theorem R9:K1 td 5 (.pick (.tmp 91) (.const (.bool true)) (.tmp 93)) 94:=rfl
def Kg:=aO Kf
def apN:=eb Kg
theorem aH0:apN=.ret:=rfl
def aH1:=ee Kg
theorem aH2:Kg=.cond (.tmp 94) apN aH1:=rfl
theorem aH3:Kf=.seq XV Kg:=rfl
def aH4:=aO Ke
theorem aH5:Ke=.seq Kf aH4:=rfl
theorem aH6:Kb=.seq Kc Ke:=rfl
theorem aH7:pE=.seq J9 Kb:=rfl
theorem aH8:J6=.seq J7 pE:=rfl
theorem aH9:J5=.seq XP J6:=rfl
theorem aIa:J4=.seq XO J5:=rfl
theorem aIb:tc=.seq J2 J4:=rfl
theorem aIc:J1=.seq XM tc:=rfl
theorem aId:JY=.seq JZ J1:=rfl
theorem aIe:JX=.seq XK JY:=rfl
theorem aBQ:Db=.seq ac6 JX:=rfl
theorem XW:Tryz.f24.body=some Db:=rfl
def Sa:=(Tryz.f50.body).getD .skip
def apO:=aN Sa
def adf:=aA apO
theorem aRF:apO=.region 0 adf false:=rfl
theorem zP:K1 adf 0 (.box 32 (.tmp 0)) 2:=rfl
theorem zQ:K1 adf 1 (.box 2 (.tmp 1)) 3:=rfl
theorem adg:K1 adf 2 (.assign (.const .nilFunc)) 4:=rfl
def adh:=aO Sa
def apQ:=aN adh
def apR:=aA apQ
theorem aRG:apQ=.region 1 apR false:=rfl
theorem adi:K1 apR 0 (.makeFunc (Go.Fn.func 73) #[] #[.tmp 2,.tmp 3]) 5:=rfl
theorem adj:K1 apR 1 (.assign (.tmp 5)) 4:=rfl
def aBR:=aO adh
theorem aRH:aBR=.ret:=rfl
theorem aRI:adh=.seq apQ aBR:=rfl
theorem aRJ:Sa=.seq apO adh:=rfl
theorem aIf:Tryz.f50.body=some Sa:=rfl
def Sb:=(Tryz.f73.body).getD .skip
def adk:=aN Sb
def apT:=aN adk
def vN:=aA apT
theorem aRK:apT=.region 0 vN false:=rfl
theorem adl:K1 vN 0 (.load 32 (.tmp 1)) 7:=rfl
theorem zR:K1 vN 1 (.call {callee:=.value (.func 15),args:=#[.tmp 7],argTypes:=#[32]}) 8:=rfl
theorem adm:K1 vN 2 (.unOp .not 4 (.tmp 8)) 9:=rfl
theorem adn:K1 vN 3 (.move (.tmp 9)) 10:=rfl
theorem ado:KO vN 4 (.load 2 (.tmp 2)) (some 11) (some (3,false)):=rfl
theorem zS:KO vN 5 (.call {callee:=.value (.func 35),args:=#[.tmp 11],argTypes:=#[2]}) (some 12) (some (3,false)):=rfl
theorem adp:KO vN 6 (.unOp .not 4 (.tmp 12)) (some 13) (some (3,false)):=rfl
theorem adq:K1 vN 7 (.pick (.tmp 10) (.const (.bool true)) (.tmp 13)) 14:=rfl
def adr:=aO adk
def aRL:=eb adr
def aBS:=ee adr
theorem aRM:aBS=.skip:=rfl
theorem aRN:adr=.cond (.tmp 14) aRL aBS:=rfl
theorem aRO:adk=.seq apT adr:=rfl
def ads:=aO Sb
def apU:=aN ads
def adt:=aA apU
theorem aRP:apU=.region 1 adt false:=rfl
theorem adu:K1 adt 0 (.fieldAddr 32 (.tmp 1) 0) 15:=rfl
theorem adv:K1 adt 1 (.load 2 (.tmp 15)) 16:=rfl
theorem adw:K1 adt 2 (.assign (.tmp 16)) 4:=rfl
def apV:=aO ads
def apW:=kB apV
def kO:=kL apW
def Ki:=aN kO
def XX:=aN Ki
def Gk:=aA XX
theorem apX:XX=.region 2 Gk false:=rfl
theorem aBT:List.range Gk.size=[0,1,2,3]:=rfl
theorem zT:K1 Gk 0 (.move (.tmp 4)) 17:=rfl
theorem zU:K1 Gk 1 (.fieldAddr 32 (.tmp 1) 1) 18:=rfl
theorem zV:K1 Gk 2 (.load 2 (.tmp 18)) 19:=rfl
theorem zW:K1 Gk 3 (.binOp .lss 2 (.tmp 17) (.tmp 19) 2) 20:=rfl
def Kj:=aO Ki
def apY:=eb Kj
theorem aIg:apY=.skip:=rfl
def apZ:=ee Kj
theorem aIh:apZ=.exit 0:=rfl
theorem ap0:Kj=.cond (.tmp 20) apY apZ:=rfl
theorem ap1:Ki=.seq XX Kj:=rfl
def XY:=aO kO
def Kk:=kB XY
def XZ:=aN Kk
def Sc:=aA XZ
theorem aIi:XZ=.region 3 Sc false:=rfl
theorem adx:K1 Sc 0 (.move (.tmp 4)) 21:=rfl
theorem ady:K1 Sc 1 (.load 2 (.tmp 2)) 22:=rfl
theorem adz:K1 Sc 2 (.binOp .quo 2 (.tmp 21) (.tmp 22) 2) 23:=rfl
theorem adA:K1 Sc 3 (.assign (.tmp 23)) 5:=rfl
def Kl:=aO Kk
def X0:=aN Kl
def vO:=aA X0
theorem aIj:X0=.region 4 vO false:=rfl
theorem adB:K1 vO 0 (.move (.tmp 5)) 24:=rfl
theorem adC:K1 vO 1 (.binOp .add 2 (.tmp 24) (.const (.int .i64 1)) 2) 25:=rfl
theorem adD:K1 vO 2 (.load 2 (.tmp 2)) 26:=rfl
theorem adE:K1 vO 3 (.binOp .mul 2 (.tmp 25) (.tmp 26) 2) 27:=rfl
theorem adF:K1 vO 4 (.fieldAddr 32 (.tmp 1) 1) 28:=rfl
theorem adG:K1 vO 5 (.load 2 (.tmp 28)) 29:=rfl
theorem adH:K1 vO 6 (.call {callee:=.builtin .min,args:=#[.tmp 27,.tmp 29],argTypes:=#[2,2]}) 30:=rfl
theorem adI:K1 vO 7 (.assign (.tmp 30)) 6:=rfl
def Kn:=aO Kl
def Ko:=aN Kn
def X4:=aN Ko
def pF:=aA X4
theorem aIk:X4=.region 5 pF false:=rfl
theorem adJ:K1 pF 0 (.move (.tmp 0)) 31:=rfl
theorem adK:K1 pF 1 (.move (.tmp 5)) 32:=rfl
theorem adL:K1 pF 2 (.move (.tmp 4)) 33:=rfl
theorem adM:K1 pF 3 (.move (.tmp 6)) 34:=rfl
theorem adN:K1 pF 4 (.build 32 #[(0,.tmp 33),(1,.tmp 34)]) 35:=rfl
theorem Kp:K1 pF 5 (.call {callee:=.value (.tmp 31),args:=#[.tmp 32,.tmp 35],argTypes:=#[2,32]}) 36:=rfl
theorem adO:K1 pF 6 (.unOp .not 4 (.tmp 36)) 37:=rfl
def Kq:=aO Ko
def aIl:=eb Kq
def ap2:=ee Kq
theorem aIm:ap2=.skip:=rfl
theorem aIn:Kq=.cond (.tmp 37) aIl ap2:=rfl
theorem aIo:Ko=.seq X4 Kq:=rfl
def X5:=aO Kn
def ap3:=aA X5
theorem aIp:X5=.region 6 ap3 false:=rfl
theorem adP:K1 ap3 0 (.move (.tmp 6)) 38:=rfl
theorem adQ:K1 ap3 1 (.assign (.tmp 38)) 4:=rfl
theorem aIq:Kn=.seq Ko X5:=rfl
theorem aIr:Kl=.seq X0 Kn:=rfl
theorem aIs:Kk=.seq XZ Kl:=rfl
theorem aIt:XY=.block 1 Kk:=rfl
theorem ap4:kO=.seq Ki XY:=rfl
theorem aRQ:apW=.loop kO:=rfl
theorem aRR:apV=.block 0 apW:=rfl
theorem aRS:ads=.seq apU apV:=rfl
theorem aRT:Sb=.seq adk ads:=rfl
theorem aIu:Tryz.f73.body=some Sb:=rfl
def Gl:=(Tryz.f27.body).getD .skip
def ap5:=aN Gl
def Sd:=aA ap5
theorem aRU:ap5=.region 0 Sd false:=rfl
theorem zX:K1 Sd 0 (.box 51 (.tmp 0)) 3:=rfl
theorem zY:K1 Sd 1 (.box 34 (.tmp 1)) 4:=rfl
theorem zZ:K1 Sd 2 (.box 106 (.tmp 2)) 5:=rfl
theorem z8:K1 Sd 3 (.alloc 36) 6:=rfl
def Gm:=aO Gl
def ap6:=aN Gm
def jP:=aA ap6
theorem aRV:ap6=.region 1 jP true:=rfl
theorem Kr:K1 jP 0 (.fieldAddr 34 (.tmp 4) 1) 16:=rfl
theorem Ks:K1 jP 1 (.load 32 (.tmp 16)) 17:=rfl
theorem Kt:K1 jP 2 (.load 51 (.tmp 3)) 18:=rfl
theorem Ku:K1 jP 3 (.nilCheck (.tmp 18)) 19:=rfl
theorem Kv:K1 jP 4 (.fieldAddr 61 (.tmp 19) 0) 20:=rfl
theorem Kw:K1 jP 5 (.load 25 (.tmp 20)) 21:=rfl
theorem Kx:K1 jP 6 (.call {callee:=.builtin .len,args:=#[.tmp 21],argTypes:=#[25]}) 22:=rfl
theorem Ky:K1 jP 7 (.build 32 #[(1,.tmp 22)]) 23:=rfl
theorem vP:K1 jP 8 (.call {callee:=.value (.func 49),args:=#[.tmp 17,.tmp 23],argTypes:=#[32,32]}) 24:=rfl
theorem Kz:K1 jP 9 (.move (.tmp 24)) 15:=rfl
theorem Dq:K1 jP 10 (.extract (.tmp 15) 0) 25:=rfl
theorem jE:K1 jP 11 (.extract (.tmp 15) 1) 26:=rfl
theorem pG:K1 jP 12 (.alloc 32) 7:=rfl
theorem pH:KO jP 13 (.store 32 (.tmp 7) (.tmp 25)) none none:=rfl
theorem pI:K1 jP 14 (.assign (.tmp 26)) 8:=rfl
def Dr:=aO Gm
def adR:=aN Dr
def ap7:=aN adR
def adS:=aA ap7
theorem aBU:ap7=.region 2 adS false:=rfl
theorem aBV:List.range adS.size=[0,1]:=rfl
theorem Aa:K1 adS 0 (.move (.tmp 8)) 27:=rfl
theorem Ab:K1 adS 1 (.unOp .not 4 (.tmp 27)) 28:=rfl
def adT:=aO adR
def adU:=eb adT
def ap8:=aN adU
def ap9:=aA ap8
theorem aRW:ap8=.region 3 ap9 false:=rfl
theorem adV:K1 ap9 0 (.build 36 #[(1,.const (.bool true))]) 29:=rfl
theorem Ac:KO ap9 1 (.store 36 (.tmp 6) (.tmp 29)) none none:=rfl
def aqa:=aO adU
theorem aIv:aqa=.ret:=rfl
theorem aRX:adU=.seq ap8 aqa:=rfl
def aqb:=ee adT
theorem aIw:aqb=.skip:=rfl
theorem aBW:adT=.cond (.tmp 28) adU aqb:=rfl
theorem aBX:adR=.seq ap7 adT:=rfl
def KA:=aO Dr
def X6:=aN KA
def adW:=aA X6
theorem aIx:X6=.region 4 adW false:=rfl
theorem adX:K1 adW 0 (.load 32 (.tmp 7)) 30:=rfl
theorem Ad:K1 adW 1 (.alloc 32) 9:=rfl
theorem Ae:KO adW 2 (.store 32 (.tmp 9) (.tmp 30)) none none:=rfl
def KB:=aO KA
def KC:=aN KB
def X7:=aN KC
def adY:=aA X7
theorem aIy:X7=.region 5 adY false:=rfl
theorem adZ:K1 adY 0 (.fieldAddr 34 (.tmp 4) 2) 31:=rfl
theorem ad0:K1 adY 1 (.load 2 (.tmp 31)) 32:=rfl
theorem ad1:K1 adY 2 (.binOp .neq 2 (.tmp 32) (.const (.int .i64 (-1))) 2) 33:=rfl
def KD:=aO KC
def X8:=eb KD
def jF:=aA X8
theorem aIz:X8=.region 6 jF false:=rfl
theorem ad2:K1 jF 0 (.fieldAddr 32 (.tmp 9) 1) 34:=rfl
theorem ad3:K1 jF 1 (.load 2 (.tmp 34)) 35:=rfl
theorem ad4:K1 jF 2 (.fieldAddr 32 (.tmp 9) 0) 36:=rfl
theorem ad5:K1 jF 3 (.load 2 (.tmp 36)) 37:=rfl
theorem ad6:K1 jF 4 (.fieldAddr 34 (.tmp 4) 2) 38:=rfl
theorem ad7:K1 jF 5 (.load 2 (.tmp 38)) 39:=rfl
theorem ad8:K1 jF 6 (.fieldAddr 32 (.tmp 9) 1) 40:=rfl
theorem ad9:K1 jF 7 (.load 2 (.tmp 40)) 41:=rfl
theorem aea:K1 jF 8 (.fieldAddr 32 (.tmp 9) 0) 42:=rfl
theorem aeb:K1 jF 9 (.load 2 (.tmp 42)) 43:=rfl
theorem Se:K1 jF 10 (.binOp .sub 2 (.tmp 41) (.tmp 43) 2) 44:=rfl
theorem Sf:K1 jF 11 (.call {callee:=.builtin .min,args:=#[.tmp 39,.tmp 44],argTypes:=#[2,2]}) 45:=rfl
theorem Sg:K1 jF 12 (.binOp .add 2 (.tmp 37) (.tmp 45) 2) 46:=rfl
theorem Si:K1 jF 13 (.call {callee:=.builtin .min,args:=#[.tmp 35,.tmp 46],argTypes:=#[2,2]}) 47:=rfl
theorem Sj:K1 jF 14 (.fieldAddr 32 (.tmp 9) 1) 48:=rfl
theorem vQ:KO jF 15 (.store 2 (.tmp 48) (.tmp 47)) none none:=rfl
def aqc:=ee KD
theorem aIA:aqc=.skip:=rfl
theorem aqd:KD=.cond (.tmp 33) X8 aqc:=rfl
theorem aIB:KC=.seq X7 KD:=rfl
def xN:=aO KB
def X9:=aN xN
def aBY:=aA X9
theorem aIC:X9=.region 7 aBY false:=rfl
theorem Af:K1 aBY 0 (.alloc 25) 10:=rfl
def KE:=aO xN
def KF:=aN KE
def Ya:=aN KF
def Dt:=aA Ya
theorem aID:Ya=.region 8 Dt true:=rfl
theorem KG:K1 Dt 0 (.load 32 (.tmp 9)) 49:=rfl
theorem KH:K1 Dt 1 (.load 51 (.tmp 3)) 50:=rfl
theorem KI:K1 Dt 2 (.nilCheck (.tmp 50)) 51:=rfl
theorem KJ:K1 Dt 3 (.fieldAddr 61 (.tmp 51) 1) 52:=rfl
theorem KL:K1 Dt 4 (.load 2 (.tmp 52)) 53:=rfl
theorem ry:K1 Dt 5 (.call {callee:=.value (.func 50),args:=#[.tmp 49,.tmp 53],argTypes:=#[32,2]}) 54:=rfl
def KM:=aO KF
def KP:=kB KM
def te:=kFa KP
def Yb:=aN te
def aBZ:=aA Yb
theorem aIE:Yb=.region 9 aBZ false:=rfl
theorem aec:K1 aBZ 0 (.assign (.tmp 55)) 11:=rfl
def Yc:=aO te
def Yd:=aA Yc
theorem aIF:Yc=.region 10 Yd false:=rfl
theorem vR:K1 Yd 0 (.alloc 32) 12:=rfl
theorem vS:KO Yd 1 (.store 32 (.tmp 12) (.tmp 56)) none none:=rfl
theorem aIG:te=.seq Yb Yc:=rfl
def xO:=kFb KP
def xP:=kB xO
def Ye:=aN xP
def xQ:=aA Ye
theorem aIH:Ye=.region 11 xQ false:=rfl
theorem Sk:K1 xQ 0 (.load 51 (.tmp 3)) 57:=rfl
theorem Sl:K1 xQ 1 (.move (.tmp 11)) 58:=rfl
theorem Sm:K1 xQ 2 (.load 106 (.tmp 5)) 59:=rfl
theorem pJ:K1 xQ 3 (.call {callee:=.value (.func 51),args:=#[.tmp 57,.tmp 58,.tmp 59],argTypes:=#[51,2,106]}) 60:=rfl
theorem Sn:K1 xQ 4 (.assign (.tmp 60)) 13:=rfl
def xR:=aO xP
def Yf:=aN xR
def pK:=aA Yf
theorem aII:Yf=.region 12 pK false:=rfl
theorem Sq:K1 pK 0 (.move (.tmp 11)) 61:=rfl
theorem Sr:K1 pK 1 (.load 51 (.tmp 3)) 62:=rfl
theorem Ss:K1 pK 2 (.nilCheck (.tmp 62)) 63:=rfl
theorem Su:K1 pK 3 (.fieldAddr 61 (.tmp 63) 1) 64:=rfl
theorem Sv:K1 pK 4 (.load 2 (.tmp 64)) 65:=rfl
theorem Sw:K1 pK 5 (.binOp .mul 2 (.tmp 61) (.tmp 65) 2) 66:=rfl
theorem Sy:K1 pK 6 (.assign (.tmp 66)) 14:=rfl
def KQ:=aO xR
def KR:=aN KQ
def Yg:=aN KR
def pL:=aA Yg
theorem aIJ:Yg=.region 13 pL false:=rfl
theorem Sz:K1 pL 0 (.move (.tmp 13)) 67:=rfl
theorem SA:K1 pL 1 (.call {callee:=.builtin .len,args:=#[.tmp 67],argTypes:=#[25]}) 68:=rfl
theorem SB:K1 pL 2 (.fieldAddr 32 (.tmp 12) 1) 69:=rfl
theorem SC:K1 pL 3 (.load 2 (.tmp 69)) 70:=rfl
theorem SD:K1 pL 4 (.move (.tmp 14)) 71:=rfl
theorem SE:K1 pL 5 (.binOp .sub 2 (.tmp 70) (.tmp 71) 2) 72:=rfl
theorem SF:K1 pL 6 (.binOp .lss 2 (.tmp 68) (.tmp 72) 2) 73:=rfl
def KS:=aO KR
def aIK:=eb KS
def aqe:=ee KS
theorem aIL:aqe=.skip:=rfl
theorem aIM:KS=.cond (.tmp 73) aIK aqe:=rfl
theorem aIN:KR=.seq Yg KS:=rfl
def Du:=aO KQ
def ix:=aA Du
theorem aIO:Du=.region 15 ix true:=rfl
theorem Dv:K1 ix 0 (.load 25 (.tmp 10)) 76:=rfl
theorem Dw:K1 ix 1 (.move (.tmp 13)) 77:=rfl
theorem Dx:K1 ix 2 (.fieldAddr 32 (.tmp 12) 0) 78:=rfl
theorem Dy:K1 ix 3 (.load 2 (.tmp 78)) 79:=rfl
theorem Dz:K1 ix 4 (.move (.tmp 14)) 80:=rfl
theorem DC:K1 ix 5 (.binOp .sub 2 (.tmp 79) (.tmp 80) 2) 81:=rfl
theorem DD:K1 ix 6 (.fieldAddr 32 (.tmp 12) 1) 82:=rfl
theorem DF:K1 ix 7 (.load 2 (.tmp 82)) 83:=rfl
theorem DG:K1 ix 8 (.move (.tmp 14)) 84:=rfl
theorem DI:K1 ix 9 (.binOp .sub 2 (.tmp 83) (.tmp 84) 2) 85:=rfl
theorem xS:K1 ix 10 (.slice 25 (.tmp 77) (some (.tmp 81)) (some (.tmp 85)) none) 86:=rfl
theorem mz:K1 ix 11 (.call {callee:=.builtin .append,args:=#[.tmp 76,.tmp 86],argTypes:=#[25,25]}) 87:=rfl
theorem mA:KO ix 12 (.store 25 (.tmp 10) (.tmp 87)) none none:=rfl
theorem aIP:KQ=.seq KR Du:=rfl
theorem aIQ:xR=.seq Yf KQ:=rfl
theorem aIR:xP=.seq Ye xR:=rfl
theorem aIS:xO=.block 1 xP:=rfl
theorem aIT:KP=.rangeFunc (.tmp 54) #[55,56] te xO:=rfl
theorem aIU:KM=.block 0 KP:=rfl
theorem aIV:KF=.seq Ya KM:=rfl
def pM:=aO KE
def Yh:=aN pM
def tf:=aA Yh
theorem aIW:Yh=.region 16 tf true:=rfl
theorem DJ:K1 tf 0 (.load 25 (.tmp 10)) 88:=rfl
theorem DK:K1 tf 1 (.load 32 (.tmp 9)) 89:=rfl
theorem DL:K1 tf 2 (.load 32 (.tmp 7)) 90:=rfl
theorem DN:K1 tf 3 (.binOp .eql 32 (.tmp 89) (.tmp 90) 32) 91:=rfl
theorem DO:K1 tf 4 (.build 36 #[(0,.tmp 88),(1,.tmp 91)]) 92:=rfl
theorem pN:KO tf 5 (.store 36 (.tmp 6) (.tmp 92)) none none:=rfl
def aqf:=aO pM
theorem aIX:aqf=.ret:=rfl
theorem aIY:pM=.seq Yh aqf:=rfl
theorem aIZ:KE=.seq KF pM:=rfl
theorem aI0:xN=.seq X9 KE:=rfl
theorem aI1:KB=.seq KC xN:=rfl
theorem aI2:KA=.seq X6 KB:=rfl
theorem aB0:Dr=.seq adR KA:=rfl
theorem aRY:Gm=.seq ap6 Dr:=rfl
theorem aRZ:Gl=.seq ap5 Gm:=rfl
theorem aI3:Tryz.f27.body=some Gl:=rfl
end
noncomputable section
set_option maxRecDepth 20000
def Gn:=(Tryz.f12.body).getD .skip
def aqg:=aN Gn
def aqh:=aA aqg
theorem aR0:aqg=.region 0 aqh false:=rfl
theorem aed:K1 aqh 0 (.assign (.const (.slice none 0 0))) 6:=rfl
theorem aee:K1 aqh 1 (.assign (.const (.slice none 0 0))) 7:=rfl
def aef:=aO Gn
def aqi:=aN aef
def Gp:=aA aqi
theorem aR1:aqi=.region 1 Gp false:=rfl
theorem aeg:K1 Gp 0 (.move (.tmp 0)) 16:=rfl
theorem aeh:K1 Gp 1 (.call {callee:=.builtin .len,args:=#[.tmp 16],argTypes:=#[22]}) 17:=rfl
theorem Ah:K1 Gp 2 (.makeSlice 48 (.tmp 17) (.tmp 17)) 18:=rfl
theorem Ai:K1 Gp 3 (.alloc 48) 8:=rfl
theorem Aj:KO Gp 4 (.store 48 (.tmp 8) (.tmp 18)) none none:=rfl
def aei:=aO aef
def aej:=aN aei
def aqj:=aN aej
def aek:=aA aqj
theorem aR2:aqj=.region 2 aek false:=rfl
theorem ael:K1 aek 0 (.move (.tmp 0)) 19:=rfl
theorem aem:K1 aek 1 (.call {callee:=.builtin .len,args:=#[.tmp 19],argTypes:=#[22]}) 20:=rfl
theorem aen:K1 aek 2 (.move (.const (.int .i64 0))) 21:=rfl
def aqk:=aO aej
def aql:=kB aqk
def DR:=kL aql
def Yi:=aN DR
def aqm:=aA Yi
theorem aqn:Yi=.region 3 aqm false:=rfl
theorem aB1:List.range aqm.size=[0]:=rfl
theorem Ak:K1 aqm 0 (.binOp .lss 3 (.tmp 21) (.tmp 20) 3) 22:=rfl
def KT:=aO DR
def KU:=aN KT
def aqo:=eb KU
theorem aI4:aqo=.skip:=rfl
def aqp:=ee KU
theorem aI5:aqp=.exit 0:=rfl
theorem aqq:KU=.cond (.tmp 22) aqo aqp:=rfl
def KV:=aO KT
def Yj:=aN KV
def KW:=kB Yj
def Yk:=aN KW
def Gq:=aA Yk
theorem aI6:Yk=.region 4 Gq false:=rfl
theorem aeo:K1 Gq 0 (.move (.tmp 21)) 23:=rfl
theorem aep:K1 Gq 1 (.indexAddr 22 (.tmp 19) (.tmp 21)) 24:=rfl
theorem aeq:K1 Gq 2 (.load 25 (.tmp 24)) 25:=rfl
theorem aer:K1 Gq 3 (.assign (.tmp 23)) 9:=rfl
theorem aes:K1 Gq 4 (.assign (.tmp 25)) 10:=rfl
def Ym:=aO KW
def sg:=aA Ym
theorem aI7:Ym=.region 5 sg false:=rfl
theorem aet:K1 sg 0 (.load 48 (.tmp 8)) 26:=rfl
theorem aeu:K1 sg 1 (.move (.tmp 9)) 27:=rfl
theorem aev:K1 sg 2 (.move (.tmp 10)) 28:=rfl
theorem aew:K1 sg 3 (.move (.tmp 2)) 29:=rfl
theorem Al:K1 sg 4 (.makeMap 59 none) 30:=rfl
theorem aex:K1 sg 5 (.build 61 #[(0,.tmp 28),(1,.tmp 29),(3,.tmp 30)]) 31:=rfl
theorem Am:K1 sg 6 (.box 61 (.tmp 31)) 32:=rfl
theorem aey:K1 sg 7 (.indexAddr 48 (.tmp 26) (.tmp 27)) 33:=rfl
theorem An:KO sg 8 (.store 51 (.tmp 33) (.tmp 32)) none none:=rfl
theorem aI8:KW=.seq Yk Ym:=rfl
theorem aI9:Yj=.block 1 KW:=rfl
def Yn:=aO KV
def aqr:=aA Yn
theorem aJa:Yn=.region 6 aqr false:=rfl
theorem aez:K1 aqr 0 (.binOp .add 3 (.tmp 21) (.const (.int .i64 1)) 3) 34:=rfl
theorem aeA:K1 aqr 1 (.move (.tmp 34)) 21:=rfl
theorem aJb:KV=.seq Yj Yn:=rfl
theorem aqs:KT=.seq KU KV:=rfl
theorem aB2:DR=.seq Yi KT:=rfl
theorem aR3:aql=.loop DR:=rfl
theorem aR4:aqk=.block 0 aql:=rfl
theorem aR5:aej=.seq aqj aqk:=rfl
def KX:=aO aei
def Yo:=aN KX
def Gr:=aA Yo
theorem aJc:Yo=.region 7 Gr false:=rfl
theorem aeB:K1 Gr 0 (.move (.tmp 1)) 35:=rfl
theorem aeC:K1 Gr 1 (.call {callee:=.builtin .len,args:=#[.tmp 35],argTypes:=#[23]}) 36:=rfl
theorem Ao:K1 Gr 2 (.makeSlice 26 (.tmp 36) (.tmp 36)) 37:=rfl
theorem Ap:K1 Gr 3 (.alloc 26) 11:=rfl
theorem Aq:KO Gr 4 (.store 26 (.tmp 11) (.tmp 37)) none none:=rfl
def KY:=aO KX
def Yp:=aN KY
def aeD:=aA Yp
theorem aJd:Yp=.region 8 aeD false:=rfl
theorem Ar:K1 aeD 0 (.makeChan 78 (.const (.int .i64 0))) 38:=rfl
theorem As:K1 aeD 1 (.alloc 78) 12:=rfl
theorem Au:KO aeD 2 (.store 78 (.tmp 12) (.tmp 38)) none none:=rfl
def KZ:=aO KY
def Yq:=aN KZ
def aqt:=aA Yq
theorem aJe:Yq=.region 9 aqt false:=rfl
theorem aeE:K1 aqt 0 (.load 78 (.tmp 12)) 39:=rfl
theorem Av:KO aqt 1 (.defer {callee:=.builtin .close,args:=#[.tmp 39],argTypes:=#[78]}) none none:=rfl
def K3:=aO KZ
def Yr:=aN K3
def aqu:=aA Yr
theorem aJf:Yr=.region 10 aqu false:=rfl
theorem vT:K1 aqu 0 (.alloc 85) 13:=rfl
def xT:=aO K3
def K5:=aN xT
def Ys:=aN K5
def K6:=aA Ys
theorem aJg:Ys=.region 11 K6 false:=rfl
theorem SG:K1 K6 0 (.move (.tmp 1)) 40:=rfl
theorem SH:K1 K6 1 (.call {callee:=.builtin .len,args:=#[.tmp 40],argTypes:=#[23]}) 41:=rfl
theorem SI:K1 K6 2 (.move (.const (.int .i64 0))) 42:=rfl
def Yt:=aO K5
def Yu:=kB Yt
def pO:=kL Yu
def Yv:=aN pO
def Yw:=aA Yv
theorem aqv:Yv=.region 12 Yw false:=rfl
theorem aqw:List.range Yw.size=[0]:=rfl
theorem vU:K1 Yw 0 (.binOp .lss 3 (.tmp 42) (.tmp 41) 3) 43:=rfl
def K9:=aO pO
def La:=aN K9
def aqx:=eb La
theorem aJh:aqx=.skip:=rfl
def aqy:=ee La
theorem aJi:aqy=.exit 2:=rfl
theorem aqz:La=.cond (.tmp 43) aqx aqy:=rfl
def Lb:=aO K9
def Yx:=aN Lb
def Lc:=kB Yx
def Yy:=aN Lc
def pP:=aA Yy
theorem aJj:Yy=.region 13 pP false:=rfl
theorem SJ:K1 pP 0 (.move (.tmp 42)) 44:=rfl
theorem SL:K1 pP 1 (.indexAddr 23 (.tmp 40) (.tmp 42)) 45:=rfl
theorem SM:K1 pP 2 (.load 34 (.tmp 45)) 46:=rfl
theorem vV:K1 pP 3 (.alloc 3) 14:=rfl
theorem vW:K1 pP 4 (.alloc 34) 15:=rfl
theorem vX:KO pP 5 (.store 3 (.tmp 14) (.tmp 44)) none none:=rfl
theorem vY:KO pP 6 (.store 34 (.tmp 15) (.tmp 46)) none none:=rfl
def DT:=aO Lc
def Yz:=aN DT
def aqA:=aA Yz
theorem aJk:Yz=.region 14 aqA false:=rfl
theorem pQ:K1 aqA 0 (.call {callee:=.value (.func 24),args:=#[.tmp 13,.const (.int .i64 1)],argTypes:=#[85,3]}) 47:=rfl
def YA:=aO DT
def pR:=aA YA
theorem aJl:YA=.region 15 pR false:=rfl
theorem vZ:K1 pR 0 (.makeFunc (Go.Fn.func 25) #[] #[.tmp 13,.tmp 8,.tmp 15,.tmp 12,.tmp 11,.tmp 14]) 48:=rfl
theorem pS:KO pR 1 (.go {callee:=.value (.tmp 48),args:=#[],argTypes:=#[]}) none none:=rfl
theorem aJm:DT=.seq Yz YA:=rfl
theorem aJn:Lc=.seq Yy DT:=rfl
theorem aJo:Yx=.block 3 Lc:=rfl
def DU:=aO Lb
def YB:=aA DU
theorem aJp:DU=.region 16 YB false:=rfl
theorem wa:K1 YB 0 (.binOp .add 3 (.tmp 42) (.const (.int .i64 1)) 3) 49:=rfl
theorem wb:K1 YB 1 (.move (.tmp 49)) 42:=rfl
theorem aJq:Lb=.seq Yx DU:=rfl
theorem aqB:K9=.seq La Lb:=rfl
theorem aqC:pO=.seq Yv K9:=rfl
theorem aJr:Yu=.loop pO:=rfl
theorem aJs:Yt=.block 2 Yu:=rfl
theorem aJt:K5=.seq Ys Yt:=rfl
def xU:=aO xT
def YC:=aN xU
def aqD:=aA YC
theorem aJu:YC=.region 17 aqD false:=rfl
theorem pT:K1 aqD 0 (.call {callee:=.value (.func 28),args:=#[.tmp 13],argTypes:=#[85]}) 50:=rfl
def xV:=aO xU
def YD:=aN xV
def DV:=aA YD
theorem aJv:YD=.region 18 DV true:=rfl
theorem DW:K1 DV 0 (.load 26 (.tmp 11)) 51:=rfl
theorem DX:K1 DV 1 (.load 48 (.tmp 8)) 52:=rfl
theorem DY:K1 DV 2 (.assign (.tmp 51)) 6:=rfl
theorem pU:K1 DV 3 (.assign (.tmp 52)) 7:=rfl
def aqE:=aO xV
theorem aJw:aqE=.ret:=rfl
theorem aJx:xV=.seq YD aqE:=rfl
theorem aJy:xU=.seq YC xV:=rfl
theorem aJz:xT=.seq K5 xU:=rfl
theorem aJA:K3=.seq Yr xT:=rfl
theorem aJB:KZ=.seq Yq K3:=rfl
theorem aJC:KY=.seq Yp KZ:=rfl
theorem aJD:KX=.seq Yo KY:=rfl
theorem aR6:aei=.seq aej KX:=rfl
theorem aR7:aef=.seq aqi aei:=rfl
theorem aR8:Gn=.seq aqg aef:=rfl
theorem aqF:Tryz.f12.body=some Gn:=rfl
def SN:=(Tryz.f28.body).getD .skip
def aeF:=aN SN
def aqG:=eb aeF
def aB3:=aA aqG
theorem aR9:aqG=.region 0 aB3 false:=rfl
theorem Aw:K1 aB3 0 (.call {callee:=.value (.func 37),args:=#[],argTypes:=#[]}) 7:=rfl
def aSa:=ee aeF
theorem aSb:aeF=.cond (.const (.bool true)) aqG aSa:=rfl
def aqH:=aO SN
def aqI:=kB aqH
def Gs:=kL aqI
def aeG:=kB Gs
def aqJ:=aN aeG
def we:=aA aqJ
theorem aSc:aqJ=.region 1 we false:=rfl
theorem aeH:K1 we 0 (.move (.tmp 0)) 8:=rfl
theorem aeI:K1 we 1 (.nilCheck (.tmp 8)) 9:=rfl
theorem aeJ:K1 we 2 (.fieldAddr 85 (.tmp 9) 1) 10:=rfl
theorem wi:K1 we 3 (.call {callee:=.value (.func 45),args:=#[.tmp 10],argTypes:=#[83]}) 11:=rfl
theorem aeK:K1 we 4 (.assign (.tmp 11)) 2:=rfl
def DZ:=aO aeG
def YE:=aN DZ
def SO:=aA YE
theorem aJE:YE=.region 2 SO false:=rfl
theorem aeL:K1 SO 0 (.move (.tmp 2)) 12:=rfl
theorem aeM:K1 SO 1 (.binOp .shr 81 (.tmp 12) (.const (.int .u64 32)) 90) 13:=rfl
theorem aeN:K1 SO 2 (.convert 81 21 (.tmp 13)) 14:=rfl
theorem aeO:K1 SO 3 (.assign (.tmp 14)) 3:=rfl
def Ld:=aO DZ
def YF:=aN Ld
def SP:=aA YF
theorem aJF:YF=.region 3 SP false:=rfl
theorem aeP:K1 SP 0 (.move (.tmp 2)) 15:=rfl
theorem aeQ:K1 SP 1 (.binOp .and 81 (.tmp 15) (.const (.int .u64 2147483647)) 81) 16:=rfl
theorem aeR:K1 SP 2 (.convert 81 54 (.tmp 16)) 17:=rfl
theorem aeS:K1 SP 3 (.assign (.tmp 17)) 4:=rfl
def Lf:=aO Ld
def Lg:=aN Lf
def YG:=aN Lg
def aqK:=aA YG
theorem aJG:YG=.region 4 aqK false:=rfl
theorem aeT:K1 aqK 0 (.move (.tmp 3)) 18:=rfl
theorem aeU:K1 aqK 1 (.binOp .eql 21 (.tmp 18) (.const (.int .i32 0)) 21) 19:=rfl
def Lh:=aO Lg
def Li:=eb Lh
def Lj:=aN Li
def Ll:=eb Lj
def YH:=aN Ll
def aB4:=aA YH
theorem aJH:YH=.region 5 aB4 false:=rfl
theorem Ax:K1 aB4 0 (.call {callee:=.value (.func 38),args:=#[],argTypes:=#[]}) 20:=rfl
def YI:=aO Ll
def D1:=aA YI
theorem aJI:YI=.region 6 D1 false:=rfl
theorem aeV:K1 D1 0 (.move (.tmp 0)) 21:=rfl
theorem aeW:K1 D1 1 (.convert 94 96 (.tmp 21)) 22:=rfl
theorem Lm:K1 D1 2 (.call {callee:=.value (.func 52),args:=#[.tmp 22],argTypes:=#[96]}) 23:=rfl
theorem aJJ:Ll=.seq YH YI:=rfl
def aJK:=ee Lj
theorem aJL:Lj=.cond (.const (.bool true)) Ll aJK:=rfl
def th:=aO Li
def Ln:=aN th
def YJ:=aN Ln
def nX:=aA YJ
theorem aJM:YJ=.region 7 nX false:=rfl
theorem aeX:K1 nX 0 (.move (.tmp 4)) 24:=rfl
theorem aeY:K1 nX 1 (.binOp .eql 54 (.tmp 24) (.const (.int .u32 0)) 54) 25:=rfl
theorem aeZ:K1 nX 2 (.move (.tmp 25)) 26:=rfl
theorem ae0:KO nX 3 (.move (.tmp 2)) (some 27) (some (2,true)):=rfl
theorem ae1:KO nX 4 (.binOp .and 81 (.tmp 27) (.const (.int .u64 2147483648)) 81) (some 28) (some (2,true)):=rfl
theorem ae2:KO nX 5 (.binOp .neq 81 (.tmp 28) (.const (.int .u64 0)) 81) (some 29) (some (2,true)):=rfl
theorem ae3:K1 nX 6 (.pick (.tmp 26) (.tmp 29) (.const (.bool false))) 30:=rfl
theorem ae4:K1 nX 7 (.move (.tmp 30)) 31:=rfl
theorem Lo:KO nX 8 (.move (.tmp 0)) (some 32) (some (7,true)):=rfl
theorem Lp:KO nX 9 (.call {callee:=.value (.func 53),args:=#[.tmp 32],argTypes:=#[94]}) (some 33) (some (7,true)):=rfl
theorem SQ:K1 nX 10 (.pick (.tmp 31) (.tmp 33) (.const (.bool false))) 34:=rfl
def Lq:=aO Ln
def aJN:=eb Lq
def aqL:=ee Lq
theorem aJO:aqL=.skip:=rfl
theorem aJP:Lq=.cond (.tmp 34) aJN aqL:=rfl
theorem aJQ:Ln=.seq YJ Lq:=rfl
def aqM:=aO th
theorem aJR:aqM=.ret:=rfl
theorem aJS:th=.seq Ln aqM:=rfl
theorem aJT:Li=.seq Lj th:=rfl
def aqN:=ee Lh
theorem aJU:aqN=.skip:=rfl
theorem aqO:Lh=.cond (.tmp 19) Li aqN:=rfl
theorem aJV:Lg=.seq YG Lh:=rfl
def D3:=aO Lf
def YK:=aN D3
def kP:=aA YK
theorem aJW:YK=.region 10 kP false:=rfl
theorem SR:K1 kP 0 (.move (.tmp 0)) 42:=rfl
theorem SS:K1 kP 1 (.nilCheck (.tmp 42)) 43:=rfl
theorem SU:K1 kP 2 (.fieldAddr 85 (.tmp 43) 1) 44:=rfl
theorem SV:K1 kP 3 (.move (.tmp 2)) 45:=rfl
theorem SX:K1 kP 4 (.move (.tmp 2)) 46:=rfl
theorem SY:K1 kP 5 (.binOp .add 81 (.tmp 46) (.const (.int .u64 1)) 81) 47:=rfl
theorem kR:K1 kP 6 (.call {callee:=.value (.func 54),args:=#[.tmp 44,.tmp 45,.tmp 47],argTypes:=#[83,81,81]}) 48:=rfl
def tj:=aO D3
def Lr:=eb tj
def Ls:=aN Lr
def YL:=aN Ls
def D4:=aA YL
theorem aJX:YL=.region 11 D4 false:=rfl
theorem SZ:K1 D4 0 (.move (.const (.bool true))) 49:=rfl
theorem S0:KO D4 1 (.move (.tmp 4)) (some 50) (some (0,true)):=rfl
theorem S3:KO D4 2 (.binOp .eql 54 (.tmp 50) (.const (.int .u32 0)) 54) (some 51) (some (0,true)):=rfl
theorem S5:K1 D4 3 (.pick (.tmp 49) (.tmp 51) (.const (.bool false))) 52:=rfl
def Lu:=aO Ls
def YM:=eb Lu
def lW:=aA YM
theorem aJY:YM=.region 12 lW false:=rfl
theorem S6:K1 lW 0 (.move (.tmp 0)) 53:=rfl
theorem S7:K1 lW 1 (.nilCheck (.tmp 53)) 54:=rfl
theorem S8:K1 lW 2 (.fieldAddr 85 (.tmp 54) 2) 55:=rfl
theorem S9:K1 lW 3 (.convert 101 96 (.tmp 55)) 56:=rfl
theorem D5:K1 lW 4 (.call {callee:=.value (.func 55),args:=#[.tmp 56],argTypes:=#[96]}) 57:=rfl
def aJZ:=ee Lu
theorem aJ0:Lu=.cond (.tmp 52) YM aJZ:=rfl
theorem aJ1:Ls=.seq YL Lu:=rfl
def tk:=aO Lr
def YN:=aN tk
def aqP:=aA YN
theorem aJ2:YN=.region 13 aqP false:=rfl
theorem Ta:K1 aqP 0 (.assign (.const (.bool false))) 5:=rfl
def Lv:=aO tk
def Lw:=aN Lv
def YO:=aN Lw
def tl:=aA YO
theorem aJ3:YO=.region 14 tl false:=rfl
theorem Tb:K1 tl 0 (.move (.tmp 2)) 58:=rfl
theorem Tc:K1 tl 1 (.binOp .and 81 (.tmp 58) (.const (.int .u64 2147483648)) 81) 59:=rfl
theorem Td:K1 tl 2 (.binOp .neq 81 (.tmp 59) (.const (.int .u64 0)) 81) 60:=rfl
theorem Te:K1 tl 3 (.move (.tmp 60)) 61:=rfl
theorem D6:KO tl 4 (.call {callee:=.value (.func 39),args:=#[],argTypes:=#[]}) (some 62) (some (3,true)):=rfl
theorem Tf:K1 tl 5 (.pick (.tmp 61) (.tmp 62) (.const (.bool false))) 63:=rfl
def Lx:=aO Lw
def aJ4:=eb Lx
def aqQ:=ee Lx
theorem aJ5:aqQ=.skip:=rfl
theorem aJ6:Lx=.cond (.tmp 63) aJ4 aqQ:=rfl
theorem aJ7:Lw=.seq YO Lx:=rfl
def Ly:=aO Lv
def YP:=aN Ly
def lX:=aA YP
theorem aJ8:YP=.region 19 lX false:=rfl
theorem Tg:K1 lX 0 (.move (.tmp 0)) 68:=rfl
theorem Ti:K1 lX 1 (.nilCheck (.tmp 68)) 69:=rfl
theorem Tj:K1 lX 2 (.fieldAddr 85 (.tmp 69) 2) 70:=rfl
theorem Tk:K1 lX 3 (.move (.tmp 5)) 71:=rfl
theorem mC:K1 lX 4 (.call {callee:=.value (.func 56),args:=#[.tmp 70,.tmp 71],argTypes:=#[101,4]}) 72:=rfl
def pV:=aO Ly
def YQ:=aN pV
def lY:=aA YQ
theorem aJ9:YQ=.region 20 lY false:=rfl
theorem Tl:K1 lY 0 (.move (.tmp 0)) 73:=rfl
theorem Tn:K1 lY 1 (.nilCheck (.tmp 73)) 74:=rfl
theorem Tp:K1 lY 2 (.fieldAddr 85 (.tmp 74) 1) 75:=rfl
theorem pW:K1 lY 3 (.call {callee:=.value (.func 45),args:=#[.tmp 75],argTypes:=#[83]}) 76:=rfl
theorem Tq:K1 lY 4 (.binOp .neq 81 (.tmp 76) (.const (.int .u64 0)) 81) 77:=rfl
theorem Tr:K1 lY 5 (.assign (.tmp 77)) 6:=rfl
def tn:=aO pV
def Lz:=aN tn
def LA:=eb Lz
def YR:=aN LA
def aqR:=aA YR
theorem aKa:YR=.region 21 aqR false:=rfl
theorem wj:K1 aqR 0 (.call {callee:=.value (.func 38),args:=#[],argTypes:=#[]}) 78:=rfl
def YS:=aO LA
def tq:=aA YS
theorem aKb:YS=.region 22 tq false:=rfl
theorem Ts:K1 tq 0 (.move (.tmp 0)) 79:=rfl
theorem Tt:K1 tq 1 (.convert 94 96 (.tmp 79)) 80:=rfl
theorem D7:K1 tq 2 (.call {callee:=.value (.func 52),args:=#[.tmp 80],argTypes:=#[96]}) 81:=rfl
theorem aKc:LA=.seq YR YS:=rfl
def aKd:=ee Lz
theorem aKe:Lz=.cond (.const (.bool true)) LA aKd:=rfl
def tr:=aO tn
def LB:=aN tr
def YT:=aN LB
def aqS:=aA YT
theorem aKf:YT=.region 23 aqS false:=rfl
theorem Tu:K1 aqS 0 (.move (.tmp 6)) 82:=rfl
def LC:=aO LB
def aKg:=eb LC
def aqT:=ee LC
theorem aKh:aqT=.skip:=rfl
theorem aKi:LC=.cond (.tmp 82) aKg aqT:=rfl
theorem aKj:LB=.seq YT LC:=rfl
def aqU:=aO tr
theorem aKk:aqU=.ret:=rfl
theorem aKl:tr=.seq LB aqU:=rfl
theorem aKm:tn=.seq Lz tr:=rfl
theorem aKn:pV=.seq YQ tn:=rfl
theorem aKo:Ly=.seq YP pV:=rfl
theorem aKp:Lv=.seq Lw Ly:=rfl
theorem aKq:tk=.seq YN Lv:=rfl
theorem aKr:Lr=.seq Ls tk:=rfl
def aqV:=ee tj
theorem aKs:aqV=.skip:=rfl
theorem aqW:tj=.cond (.tmp 48) Lr aqV:=rfl
theorem aKt:D3=.seq YK tj:=rfl
theorem aKu:Lf=.seq Lg D3:=rfl
theorem aKv:Ld=.seq YF Lf:=rfl
theorem aSd:DZ=.seq YE Ld:=rfl
theorem aSe:aeG=.seq aqJ DZ:=rfl
theorem aSf:Gs=.block 1 aeG:=rfl
theorem aSg:aqI=.loop Gs:=rfl
theorem aSh:aqH=.block 0 aqI:=rfl
theorem aSi:SN=.seq aeF aqH:=rfl
theorem aKw:Tryz.f28.body=some SN:=rfl
def aqX:=(Tryz.f5.body).getD .skip
def aKx:=aN aqX
def azd:=aA aKx
theorem aY4:aKx=.region 0 azd false:=rfl
theorem aqY:K1 azd 0 (.assign (.const (.slice none 0 0))) 6:=rfl
theorem aqZ:K1 azd 1 (.assign (.const (.slice none 0 0))) 7:=rfl
theorem aq0:K1 azd 2 (.assign (.const (.int .i64 0))) 8:=rfl
def aze:=aO aqX
def azf:=aN aze
def aKy:=aN azf
def alF:=aA aKy
theorem aY5:aKy=.region 1 alF false:=rfl
theorem aq1:K1 alF 0 (.move (.tmp 0)) 15:=rfl
theorem aq2:K1 alF 1 (.move (.tmp 1)) 16:=rfl
theorem aq3:K1 alF 2 (.move (.tmp 2)) 17:=rfl
theorem D8:K1 alF 3 (.call {callee:=.value (.func 11),args:=#[.tmp 15,.tmp 16,.tmp 17],argTypes:=#[22,23,2]}) 18:=rfl
theorem aq4:K1 alF 4 (.assign (.tmp 18)) 9:=rfl
def azg:=aO azf
def aKz:=aN azg
def aKA:=aA aKz
theorem aY6:aKz=.region 2 aKA false:=rfl
theorem aq5:K1 aKA 0 (.move (.tmp 9)) 19:=rfl
theorem aq6:K1 aKA 1 (.binOp .neq 28 (.tmp 19) (.const (.int .i64 0)) 28) 20:=rfl
def azh:=aO azg
def azi:=eb azh
def aKB:=aN azi
def aq7:=aA aKB
theorem aY7:aKB=.region 3 aq7 false:=rfl
theorem aq8:K1 aq7 0 (.move (.tmp 9)) 21:=rfl
theorem aq9:K1 aq7 1 (.assign (.const (.slice none 0 0))) 6:=rfl
theorem ara:K1 aq7 2 (.assign (.const (.slice none 0 0))) 7:=rfl
theorem arb:K1 aq7 3 (.assign (.tmp 21)) 8:=rfl
def aB5:=aO azi
theorem aSj:aB5=.ret:=rfl
theorem aY8:azi=.seq aKB aB5:=rfl
def aB6:=ee azh
theorem aSk:aB6=.skip:=rfl
theorem aSl:azh=.cond (.tmp 20) azi aB6:=rfl
theorem aY9:azg=.seq aKz azh:=rfl
theorem aZa:azf=.seq aKy azg:=rfl
def ae5:=aO aze
def arc:=aN ae5
def Fh:=aA arc
theorem aSm:arc=.region 4 Fh false:=rfl
theorem ard:K1 Fh 0 (.move (.tmp 0)) 23:=rfl
theorem arf:K1 Fh 1 (.move (.tmp 1)) 24:=rfl
theorem arh:K1 Fh 2 (.move (.tmp 2)) 25:=rfl
theorem D9:K1 Fh 3 (.call {callee:=.value (.func 12),args:=#[.tmp 23,.tmp 24,.tmp 25],argTypes:=#[22,23,2]}) 26:=rfl
theorem ari:K1 Fh 4 (.move (.tmp 26)) 22:=rfl
theorem arj:K1 Fh 5 (.extract (.tmp 22) 0) 27:=rfl
theorem ark:K1 Fh 6 (.extract (.tmp 22) 1) 28:=rfl
theorem arl:K1 Fh 7 (.assign (.tmp 27)) 10:=rfl
theorem arn:K1 Fh 8 (.assign (.tmp 28)) 11:=rfl
def ae6:=aO ae5
def aro:=aN ae6
def arp:=aA aro
theorem aSn:aro=.region 5 arp false:=rfl
theorem arq:K1 arp 0 (.move (.tmp 11)) 29:=rfl
theorem ars:K1 arp 1 (.call {callee:=.builtin .len,args:=#[.tmp 29],argTypes:=#[48]}) 30:=rfl
theorem LD:K1 arp 2 (.makeSlice 27 (.tmp 30) (.tmp 30)) 31:=rfl
theorem art:K1 arp 3 (.assign (.tmp 31)) 12:=rfl
def ae7:=aO ae6
def ae8:=aN ae7
def aru:=aN ae8
def azj:=aA aru
theorem aSo:aru=.region 6 azj false:=rfl
theorem arv:K1 azj 0 (.move (.tmp 11)) 32:=rfl
theorem arw:K1 azj 1 (.call {callee:=.builtin .len,args:=#[.tmp 32],argTypes:=#[48]}) 33:=rfl
theorem arx:K1 azj 2 (.move (.const (.int .i64 0))) 34:=rfl
def ary:=aO ae8
def arz:=kB ary
def Gt:=kL arz
def arA:=aN Gt
def aKC:=aA arA
theorem aB7:arA=.region 7 aKC false:=rfl
theorem aSp:List.range aKC.size=[0]:=rfl
theorem LF:K1 aKC 0 (.binOp .lss 3 (.tmp 34) (.tmp 33) 3) 35:=rfl
def ae9:=aO Gt
def afa:=aN ae9
def aB8:=eb afa
theorem aSq:aB8=.skip:=rfl
def aB9:=ee afa
theorem aSr:aB9=.exit 0:=rfl
theorem aCa:afa=.cond (.tmp 35) aB8 aB9:=rfl
def afb:=aO ae9
def arB:=aN afb
def afc:=kB arB
def arC:=aN afc
def alG:=aA arC
theorem aSs:arC=.region 8 alG false:=rfl
theorem arD:K1 alG 0 (.move (.tmp 34)) 36:=rfl
theorem arE:K1 alG 1 (.indexAddr 48 (.tmp 32) (.tmp 34)) 37:=rfl
theorem arF:K1 alG 2 (.load 51 (.tmp 37)) 38:=rfl
theorem arG:K1 alG 3 (.assign (.tmp 36)) 13:=rfl
theorem arH:K1 alG 4 (.assign (.tmp 38)) 14:=rfl
def arI:=aO afc
def LG:=aA arI
theorem aSt:arI=.region 9 LG false:=rfl
theorem arJ:K1 LG 0 (.move (.tmp 12)) 39:=rfl
theorem arK:K1 LG 1 (.move (.tmp 13)) 40:=rfl
theorem arL:K1 LG 2 (.move (.tmp 14)) 41:=rfl
theorem arM:K1 LG 3 (.nilCheck (.tmp 41)) 42:=rfl
theorem arN:K1 LG 4 (.fieldAddr 61 (.tmp 42) 4) 43:=rfl
theorem arO:K1 LG 5 (.load 39 (.tmp 43)) 44:=rfl
theorem arP:K1 LG 6 (.indexAddr 27 (.tmp 39) (.tmp 40)) 45:=rfl
theorem LH:KO LG 7 (.store 39 (.tmp 45) (.tmp 44)) none none:=rfl
theorem aSu:afc=.seq arC arI:=rfl
theorem aSv:arB=.block 1 afc:=rfl
def arQ:=aO afb
def arR:=aA arQ
theorem aSw:arQ=.region 10 arR false:=rfl
theorem afd:K1 arR 0 (.binOp .add 3 (.tmp 34) (.const (.int .i64 1)) 3) 46:=rfl
theorem afe:K1 arR 1 (.move (.tmp 46)) 34:=rfl
theorem aSx:afb=.seq arB arQ:=rfl
theorem aCb:ae9=.seq afa afb:=rfl
theorem aCc:Gt=.seq arA ae9:=rfl
theorem aSy:arz=.loop Gt:=rfl
theorem aSz:ary=.block 0 arz:=rfl
theorem aSA:ae8=.seq aru ary:=rfl
def aff:=aO ae7
def arS:=aN aff
def Gu:=aA arS
theorem aSB:arS=.region 11 Gu false:=rfl
theorem afg:K1 Gu 0 (.move (.tmp 10)) 47:=rfl
theorem afh:K1 Gu 1 (.move (.tmp 12)) 48:=rfl
theorem afi:K1 Gu 2 (.assign (.tmp 47)) 6:=rfl
theorem afj:K1 Gu 3 (.assign (.tmp 48)) 7:=rfl
theorem afk:K1 Gu 4 (.assign (.const (.int .i64 0))) 8:=rfl
def aCd:=aO aff
theorem aSC:aCd=.ret:=rfl
theorem aSD:aff=.seq arS aCd:=rfl
theorem aSE:ae7=.seq ae8 aff:=rfl
theorem aSF:ae6=.seq aro ae7:=rfl
theorem aSG:ae5=.seq arc ae6:=rfl
theorem aZb:aze=.seq azf ae5:=rfl
theorem aZc:aqX=.seq aKx aze:=rfl
theorem aCe:Tryz.f5.body=some aqX:=rfl
def arT:=(Tryz.f8.body).getD .skip
def aKD:=aN arT
def aKE:=aA aKD
theorem aZd:aKD=.region 0 aKE false:=rfl
theorem arU:K1 aKE 0 (.assign (.const (.int .i64 0))) 6:=rfl
theorem arV:K1 aKE 1 (.assign (.const (.int .i64 0))) 7:=rfl
def azk:=aO arT
def azl:=aN azk
def aKF:=aN azl
def alH:=aA aKF
theorem aZe:aKF=.region 1 alH false:=rfl
theorem arW:K1 alH 0 (.move (.tmp 0)) 14:=rfl
theorem arX:K1 alH 1 (.move (.tmp 1)) 15:=rfl
theorem arY:K1 alH 2 (.move (.tmp 2)) 16:=rfl
theorem Ea:K1 alH 3 (.call {callee:=.value (.func 11),args:=#[.tmp 14,.tmp 15,.tmp 16],argTypes:=#[22,23,2]}) 17:=rfl
theorem arZ:K1 alH 4 (.assign (.tmp 17)) 8:=rfl
def azm:=aO azl
def aKG:=aN azm
def aKH:=aA aKG
theorem aZf:aKG=.region 2 aKH false:=rfl
theorem ar0:K1 aKH 0 (.move (.tmp 8)) 18:=rfl
theorem ar4:K1 aKH 1 (.binOp .neq 28 (.tmp 18) (.const (.int .i64 0)) 28) 19:=rfl
def azn:=aO azm
def aZg:=eb azn
def aCf:=ee azn
theorem aSH:aCf=.skip:=rfl
theorem aZh:azn=.cond (.tmp 19) aZg aCf:=rfl
theorem aZi:azm=.seq aKG azn:=rfl
theorem aZj:azl=.seq aKF azm:=rfl
def afl:=aO azk
def ar5:=aN afl
def Fi:=aA ar5
theorem aSI:ar5=.region 4 Fi false:=rfl
theorem ar6:K1 Fi 0 (.move (.tmp 0)) 22:=rfl
theorem ar7:K1 Fi 1 (.move (.tmp 1)) 23:=rfl
theorem ar8:K1 Fi 2 (.move (.tmp 2)) 24:=rfl
theorem Eb:K1 Fi 3 (.call {callee:=.value (.func 12),args:=#[.tmp 22,.tmp 23,.tmp 24],argTypes:=#[22,23,2]}) 25:=rfl
theorem ar9:K1 Fi 4 (.move (.tmp 25)) 21:=rfl
theorem asa:K1 Fi 5 (.extract (.tmp 21) 0) 26:=rfl
theorem asb:K1 Fi 6 (.extract (.tmp 21) 1) 27:=rfl
theorem asc:K1 Fi 7 (.assign (.tmp 26)) 9:=rfl
theorem asd:K1 Fi 8 (.assign (.tmp 27)) 10:=rfl
def afm:=aO afl
def ase:=aN afm
def aSJ:=aA ase
theorem aSK:ase=.region 5 aSJ false:=rfl
theorem asf:K1 aSJ 0 (.assign (.const (.int .i64 0))) 11:=rfl
def afn:=aO afm
def afo:=aN afn
def asg:=aN afo
def azo:=aA asg
theorem aSL:asg=.region 6 azo false:=rfl
theorem ash:K1 azo 0 (.move (.tmp 10)) 28:=rfl
theorem asi:K1 azo 1 (.call {callee:=.builtin .len,args:=#[.tmp 28],argTypes:=#[48]}) 29:=rfl
theorem asj:K1 azo 2 (.move (.const (.int .i64 0))) 30:=rfl
def asl:=aO afo
def asm:=kB asl
def Gv:=kL asm
def asn:=aN Gv
def aKI:=aA asn
theorem aCg:asn=.region 7 aKI false:=rfl
theorem aSM:List.range aKI.size=[0]:=rfl
theorem LI:K1 aKI 0 (.binOp .lss 3 (.tmp 30) (.tmp 29) 3) 31:=rfl
def afp:=aO Gv
def afq:=aN afp
def aCh:=eb afq
theorem aSN:aCh=.skip:=rfl
def aCi:=ee afq
theorem aSO:aCi=.exit 0:=rfl
theorem aCj:afq=.cond (.tmp 31) aCh aCi:=rfl
def afr:=aO afp
def aso:=aN afr
def afs:=kB aso
def asp:=aN afs
def azp:=aA asp
theorem aSP:asp=.region 8 azp false:=rfl
theorem asq:K1 azp 0 (.indexAddr 48 (.tmp 28) (.tmp 30)) 32:=rfl
theorem asr:K1 azp 1 (.load 51 (.tmp 32)) 33:=rfl
theorem ass:K1 azp 2 (.assign (.tmp 33)) 13:=rfl
def ast:=aO afs
def Tv:=aA ast
theorem aSQ:ast=.region 9 Tv false:=rfl
theorem asu:K1 Tv 0 (.move (.tmp 11)) 34:=rfl
theorem asv:K1 Tv 1 (.move (.tmp 13)) 35:=rfl
theorem asw:K1 Tv 2 (.nilCheck (.tmp 35)) 36:=rfl
theorem asx:K1 Tv 3 (.fieldAddr 61 (.tmp 36) 5) 37:=rfl
theorem asy:K1 Tv 4 (.load 2 (.tmp 37)) 38:=rfl
theorem asz:K1 Tv 5 (.binOp .add 2 (.tmp 34) (.tmp 38) 2) 39:=rfl
theorem asA:K1 Tv 6 (.assign (.tmp 39)) 11:=rfl
theorem aSR:afs=.seq asp ast:=rfl
theorem aSS:aso=.block 1 afs:=rfl
def asB:=aO afr
def asC:=aA asB
theorem aST:asB=.region 10 asC false:=rfl
theorem afu:K1 asC 0 (.binOp .add 3 (.tmp 30) (.const (.int .i64 1)) 3) 40:=rfl
theorem afv:K1 asC 1 (.move (.tmp 40)) 30:=rfl
theorem aSU:afr=.seq aso asB:=rfl
theorem aCk:afp=.seq afq afr:=rfl
theorem aCl:Gv=.seq asn afp:=rfl
theorem aSV:asm=.loop Gv:=rfl
theorem aSW:asl=.block 0 asm:=rfl
theorem aSX:afo=.seq asg asl:=rfl
def afw:=aO afn
def asD:=aN afw
def afx:=aA asD
theorem aSY:asD=.region 11 afx false:=rfl
theorem afy:K1 afx 0 (.move (.tmp 11)) 41:=rfl
theorem afz:K1 afx 1 (.assign (.tmp 41)) 6:=rfl
theorem afA:K1 afx 2 (.assign (.const (.int .i64 0))) 7:=rfl
def aCm:=aO afw
theorem aSZ:aCm=.ret:=rfl
theorem aS0:afw=.seq asD aCm:=rfl
theorem aS1:afn=.seq afo afw:=rfl
theorem aS2:afm=.seq ase afn:=rfl
theorem aS3:afl=.seq ar5 afm:=rfl
theorem aZk:azk=.seq azl afl:=rfl
theorem aZl:arT=.seq aKD azk:=rfl
theorem aS4:Tryz.f8.body=some arT:=rfl
def YU:=(Tryz.f3.body).getD .skip
def aKJ:=aN YU
def aS5:=aA aKJ
theorem aZm:aKJ=.region 0 aS5 false:=rfl
theorem asE:K1 aS5 0 (.assign (.const (.bool false))) 6:=rfl
def azq:=aO YU
def azr:=aN azq
def aKK:=aN azr
def LJ:=aA aKK
theorem aZn:aKK=.region 1 LJ false:=rfl
theorem asF:K1 LJ 0 (.move (.tmp 0)) 23:=rfl
theorem asG:K1 LJ 1 (.call {callee:=.builtin .len,args:=#[.tmp 23],argTypes:=#[22]}) 24:=rfl
theorem asH:K1 LJ 2 (.binOp .gtr 3 (.tmp 24) (.const (.int .i64 4)) 3) 25:=rfl
theorem asI:K1 LJ 3 (.move (.tmp 25)) 26:=rfl
theorem Ec:KO LJ 4 (.move (.tmp 1)) (some 27) (some (3,false)):=rfl
theorem Ed:KO LJ 5 (.call {callee:=.builtin .len,args:=#[.tmp 27],argTypes:=#[23]}) (some 28) (some (3,false)):=rfl
theorem Ee:KO LJ 6 (.binOp .gtr 3 (.tmp 28) (.const (.int .i64 20)) 3) (some 29) (some (3,false)):=rfl
theorem xW:K1 LJ 7 (.pick (.tmp 26) (.const (.bool true)) (.tmp 29)) 30:=rfl
def azs:=aO azr
def asJ:=eb azs
def aKL:=aN asJ
def aKM:=aA aKL
theorem aZo:aKL=.region 2 aKM false:=rfl
theorem Ef:K1 aKM 0 (.call {callee:=.value (.func 4),args:=#[],argTypes:=#[]}) 31:=rfl
theorem asK:K1 aKM 1 (.assign (.tmp 31)) 6:=rfl
def aS6:=aO asJ
theorem aZp:aS6=.ret:=rfl
theorem aZq:asJ=.seq aKL aS6:=rfl
def aS7:=ee azs
theorem aZr:aS7=.skip:=rfl
theorem aKN:azs=.cond (.tmp 30) asJ aS7:=rfl
theorem aZs:azr=.seq aKK azs:=rfl
def afB:=aO azq
def afC:=aN afB
def asL:=aN afC
def azt:=aA asL
theorem aS8:asL=.region 3 azt false:=rfl
theorem asM:K1 azt 0 (.move (.tmp 0)) 32:=rfl
theorem asN:K1 azt 1 (.call {callee:=.builtin .len,args:=#[.tmp 32],argTypes:=#[22]}) 33:=rfl
theorem asO:K1 azt 2 (.move (.const (.int .i64 0))) 34:=rfl
def asP:=aO afC
def asQ:=kB asP
def Gw:=kL asQ
def asR:=aN Gw
def aKO:=aA asR
theorem aCn:asR=.region 4 aKO false:=rfl
theorem aS9:List.range aKO.size=[0]:=rfl
theorem LK:K1 aKO 0 (.binOp .lss 3 (.tmp 34) (.tmp 33) 3) 35:=rfl
def afD:=aO Gw
def afE:=aN afD
def aCo:=eb afE
theorem aTa:aCo=.skip:=rfl
def aCp:=ee afE
theorem aTb:aCp=.exit 0:=rfl
theorem aCq:afE=.cond (.tmp 35) aCo aCp:=rfl
def afF:=aO afD
def asS:=aN afF
def afG:=kB asS
def asT:=aN afG
def azu:=aA asT
theorem aTc:asT=.region 5 azu false:=rfl
theorem asU:K1 azu 0 (.indexAddr 22 (.tmp 32) (.tmp 34)) 36:=rfl
theorem asV:K1 azu 1 (.load 25 (.tmp 36)) 37:=rfl
theorem asW:K1 azu 2 (.assign (.tmp 37)) 8:=rfl
def afH:=aO afG
def asX:=aN afH
def azv:=aA asX
theorem aTd:asX=.region 6 azv false:=rfl
theorem asY:K1 azv 0 (.move (.tmp 8)) 38:=rfl
theorem asZ:K1 azv 1 (.call {callee:=.builtin .len,args:=#[.tmp 38],argTypes:=#[25]}) 39:=rfl
theorem as0:K1 azv 2 (.binOp .gtr 3 (.tmp 39) (.const (.int .i64 60)) 3) 40:=rfl
def afI:=aO afH
def Tw:=eb afI
def as1:=aN Tw
def aKP:=aA as1
theorem aTe:as1=.region 7 aKP false:=rfl
theorem Eg:K1 aKP 0 (.call {callee:=.value (.func 4),args:=#[],argTypes:=#[]}) 41:=rfl
theorem as2:K1 aKP 1 (.assign (.tmp 41)) 6:=rfl
def aCr:=aO Tw
theorem aTf:aCr=.ret:=rfl
theorem aTg:Tw=.seq as1 aCr:=rfl
def aCs:=ee afI
theorem aTh:aCs=.skip:=rfl
theorem aCt:afI=.cond (.tmp 40) Tw aCs:=rfl
theorem aTi:afH=.seq asX afI:=rfl
theorem aTj:afG=.seq asT afH:=rfl
theorem aTk:asS=.block 1 afG:=rfl
def as3:=aO afF
def aKQ:=aA as3
theorem aTl:as3=.region 8 aKQ false:=rfl
theorem as4:K1 aKQ 0 (.binOp .add 3 (.tmp 34) (.const (.int .i64 1)) 3) 42:=rfl
theorem as5:K1 aKQ 1 (.move (.tmp 42)) 34:=rfl
theorem aTm:afF=.seq asS as3:=rfl
theorem aCu:afD=.seq afE afF:=rfl
theorem aCv:Gw=.seq asR afD:=rfl
theorem aTn:asQ=.loop Gw:=rfl
theorem aTo:asP=.block 0 asQ:=rfl
theorem aTp:afC=.seq asL asP:=rfl
def Gx:=aO afB
def as6:=aN Gx
def as7:=aA as6
theorem aTq:as6=.region 9 as7 false:=rfl
theorem as8:K1 as7 0 (.move (.tmp 2)) 43:=rfl
theorem as9:K1 as7 1 (.binOp .rem 5 (.tmp 43) (.const (.int .u8 5)) 5) 44:=rfl
theorem ata:K1 as7 2 (.binOp .shl 2 (.const (.int .i64 1)) (.tmp 44) 5) 45:=rfl
theorem atb:K1 as7 3 (.assign (.tmp 45)) 9:=rfl
def afJ:=aO Gx
def atc:=aN afJ
def nY:=aA atc
theorem aTr:atc=.region 10 nY false:=rfl
theorem afK:K1 nY 0 (.move (.tmp 0)) 47:=rfl
theorem afL:K1 nY 1 (.move (.tmp 1)) 48:=rfl
theorem afM:K1 nY 2 (.move (.tmp 9)) 49:=rfl
theorem wm:K1 nY 3 (.call {callee:=.value (.func 5),args:=#[.tmp 47,.tmp 48,.tmp 49],argTypes:=#[22,23,2]}) 50:=rfl
theorem Ay:K1 nY 4 (.move (.tmp 50)) 46:=rfl
theorem Az:K1 nY 5 (.extract (.tmp 46) 0) 51:=rfl
theorem AB:K1 nY 6 (.extract (.tmp 46) 1) 52:=rfl
theorem AD:K1 nY 7 (.extract (.tmp 46) 2) 53:=rfl
theorem AE:K1 nY 8 (.assign (.tmp 51)) 10:=rfl
theorem AF:K1 nY 9 (.assign (.tmp 52)) 11:=rfl
theorem wo:K1 nY 10 (.assign (.tmp 53)) 12:=rfl
def afN:=aO afJ
def afO:=aN afN
def atd:=aN afO
def afP:=aA atd
theorem aCw:atd=.region 11 afP false:=rfl
theorem aCx:List.range afP.size=[0,1]:=rfl
theorem AG:K1 afP 0 (.move (.tmp 12)) 54:=rfl
theorem AH:K1 afP 1 (.binOp .neq 28 (.tmp 54) (.const (.int .i64 0)) 28) 55:=rfl
def afQ:=aO afO
def afR:=eb afQ
def ate:=aN afR
def mD:=aA ate
theorem aTs:ate=.region 12 mD false:=rfl
theorem afS:K1 mD 0 (.move (.tmp 10)) 56:=rfl
theorem afT:K1 mD 1 (.call {callee:=.builtin .len,args:=#[.tmp 56],argTypes:=#[26]}) 57:=rfl
theorem afU:K1 mD 2 (.binOp .eql 3 (.tmp 57) (.const (.int .i64 0)) 3) 58:=rfl
theorem afV:K1 mD 3 (.move (.tmp 58)) 59:=rfl
theorem afW:KO mD 4 (.move (.tmp 11)) (some 60) (some (3,true)):=rfl
theorem afX:KO mD 5 (.call {callee:=.builtin .len,args:=#[.tmp 60],argTypes:=#[27]}) (some 61) (some (3,true)):=rfl
theorem afY:KO mD 6 (.binOp .eql 3 (.tmp 61) (.const (.int .i64 0)) 3) (some 62) (some (3,true)):=rfl
theorem afZ:K1 mD 7 (.pick (.tmp 59) (.tmp 62) (.const (.bool false))) 63:=rfl
theorem af0:K1 mD 8 (.move (.tmp 63)) 64:=rfl
theorem wq:KO mD 9 (.call {callee:=.value (.func 4),args:=#[],argTypes:=#[]}) (some 65) (some (8,true)):=rfl
theorem Tx:K1 mD 10 (.pick (.tmp 64) (.tmp 65) (.const (.bool false))) 66:=rfl
theorem Ty:K1 mD 11 (.assign (.tmp 66)) 6:=rfl
def aCy:=aO afR
theorem aTt:aCy=.ret:=rfl
theorem aTu:afR=.seq ate aCy:=rfl
def aCz:=ee afQ
theorem aTv:aCz=.skip:=rfl
theorem aCA:afQ=.cond (.tmp 55) afR aCz:=rfl
theorem aCB:afO=.seq atd afQ:=rfl
def af1:=aO afN
def af2:=aN af1
def atf:=aN af2
def mE:=aA atf
theorem aTw:atf=.region 13 mE false:=rfl
theorem af3:K1 mE 0 (.move (.tmp 10)) 67:=rfl
theorem af4:K1 mE 1 (.call {callee:=.builtin .len,args:=#[.tmp 67],argTypes:=#[26]}) 68:=rfl
theorem af5:K1 mE 2 (.move (.tmp 1)) 69:=rfl
theorem af6:K1 mE 3 (.call {callee:=.builtin .len,args:=#[.tmp 69],argTypes:=#[23]}) 70:=rfl
theorem af7:K1 mE 4 (.binOp .neq 3 (.tmp 68) (.tmp 70) 3) 71:=rfl
theorem af8:K1 mE 5 (.move (.tmp 71)) 72:=rfl
theorem af9:KO mE 6 (.move (.tmp 11)) (some 73) (some (5,false)):=rfl
theorem aga:KO mE 7 (.call {callee:=.builtin .len,args:=#[.tmp 73],argTypes:=#[27]}) (some 74) (some (5,false)):=rfl
theorem agb:KO mE 8 (.move (.tmp 0)) (some 75) (some (5,false)):=rfl
theorem agc:KO mE 9 (.call {callee:=.builtin .len,args:=#[.tmp 75],argTypes:=#[22]}) (some 76) (some (5,false)):=rfl
theorem Tz:KO mE 10 (.binOp .neq 3 (.tmp 74) (.tmp 76) 3) (some 77) (some (5,false)):=rfl
theorem TA:K1 mE 11 (.pick (.tmp 72) (.const (.bool true)) (.tmp 77)) 78:=rfl
def agd:=aO af2
def aTx:=eb agd
def aCC:=ee agd
theorem aTy:aCC=.skip:=rfl
theorem aTz:agd=.cond (.tmp 78) aTx aCC:=rfl
theorem aTA:af2=.seq atf agd:=rfl
def age:=aO af1
def atg:=aN age
def TB:=aA atg
theorem aTB:atg=.region 15 TB false:=rfl
theorem agf:K1 TB 0 (.move (.tmp 0)) 79:=rfl
theorem agh:K1 TB 1 (.call {callee:=.builtin .len,args:=#[.tmp 79],argTypes:=#[22]}) 80:=rfl
theorem AJ:K1 TB 2 (.makeSlice 27 (.tmp 80) (.tmp 80)) 81:=rfl
theorem agi:K1 TB 3 (.assign (.tmp 81)) 13:=rfl
def agj:=aO age
def agk:=aN agj
def ath:=aN agk
def agl:=aA ath
theorem aTC:ath=.region 16 agl false:=rfl
theorem agm:K1 agl 0 (.move (.tmp 1)) 82:=rfl
theorem agn:K1 agl 1 (.call {callee:=.builtin .len,args:=#[.tmp 82],argTypes:=#[23]}) 83:=rfl
theorem ago:K1 agl 2 (.move (.const (.int .i64 0))) 84:=rfl
def ati:=aO agk
def atj:=kB ati
def wu:=kL atj
def atk:=aN wu
def atl:=aA atk
theorem aCD:atk=.region 17 atl false:=rfl
theorem aCE:List.range atl.size=[0]:=rfl
theorem AK:K1 atl 0 (.binOp .lss 3 (.tmp 84) (.tmp 83) 3) 85:=rfl
def agp:=aO wu
def agq:=aN agp
def aCF:=eb agq
theorem aTD:aCF=.skip:=rfl
def aCG:=ee agq
theorem aTE:aCG=.exit 2:=rfl
theorem aCH:agq=.cond (.tmp 85) aCF aCG:=rfl
def agr:=aO agp
def atm:=aN agr
def agt:=kB atm
def atn:=aN agt
def Eh:=aA atn
theorem aTF:atn=.region 18 Eh false:=rfl
theorem agu:K1 Eh 0 (.move (.tmp 84)) 86:=rfl
theorem agv:K1 Eh 1 (.indexAddr 23 (.tmp 82) (.tmp 84)) 87:=rfl
theorem agw:K1 Eh 2 (.load 34 (.tmp 87)) 88:=rfl
theorem AL:K1 Eh 3 (.alloc 34) 15:=rfl
theorem agx:K1 Eh 4 (.assign (.tmp 86)) 14:=rfl
theorem AM:KO Eh 5 (.store 34 (.tmp 15) (.tmp 88)) none none:=rfl
def agy:=aO agt
def ato:=aN agy
def mG:=aA ato
theorem aTG:ato=.region 19 mG false:=rfl
theorem agz:K1 mG 0 (.move (.tmp 0)) 90:=rfl
theorem agA:K1 mG 1 (.load 34 (.tmp 15)) 91:=rfl
theorem AN:K1 mG 2 (.buildSlice 23 1 #[(0,.tmp 91)]) 92:=rfl
theorem agB:K1 mG 3 (.move (.tmp 9)) 93:=rfl
theorem wv:K1 mG 4 (.call {callee:=.value (.func 5),args:=#[.tmp 90,.tmp 92,.tmp 93],argTypes:=#[22,23,2]}) 94:=rfl
theorem agC:K1 mG 5 (.move (.tmp 94)) 89:=rfl
theorem agD:K1 mG 6 (.extract (.tmp 89) 0) 95:=rfl
theorem agE:K1 mG 7 (.extract (.tmp 89) 1) 96:=rfl
theorem agF:K1 mG 8 (.extract (.tmp 89) 2) 97:=rfl
theorem agG:K1 mG 9 (.assign (.tmp 95)) 16:=rfl
theorem TC:K1 mG 10 (.assign (.tmp 96)) 17:=rfl
theorem TD:K1 mG 11 (.assign (.tmp 97)) 18:=rfl
def TE:=aO agy
def agH:=aN TE
def atp:=aN agH
def dm:=aA atp
theorem aTH:atp=.region 20 dm true:=rfl
theorem LM:K1 dm 0 (.move (.tmp 18)) 98:=rfl
theorem LN:K1 dm 1 (.binOp .neq 28 (.tmp 98) (.const (.int .i64 0)) 28) 99:=rfl
theorem LO:K1 dm 2 (.move (.tmp 99)) 100:=rfl
theorem wx:KO dm 3 (.move (.tmp 16)) (some 101) (some (2,false)):=rfl
theorem wy:KO dm 4 (.call {callee:=.builtin .len,args:=#[.tmp 101],argTypes:=#[26]}) (some 102) (some (2,false)):=rfl
theorem wA:KO dm 5 (.binOp .neq 3 (.tmp 102) (.const (.int .i64 1)) 3) (some 103) (some (2,false)):=rfl
theorem LQ:K1 dm 6 (.pick (.tmp 100) (.const (.bool true)) (.tmp 103)) 104:=rfl
theorem LS:K1 dm 7 (.move (.tmp 104)) 105:=rfl
theorem wB:KO dm 8 (.move (.tmp 16)) (some 106) (some (7,false)):=rfl
theorem wC:KO dm 9 (.indexAddr 26 (.tmp 106) (.const (.int .i64 0))) (some 107) (some (7,false)):=rfl
theorem pX:KO dm 10 (.fieldAddr 36 (.tmp 107) 0) (some 108) (some (7,false)):=rfl
theorem pY:KO dm 11 (.load 25 (.tmp 108)) (some 109) (some (7,false)):=rfl
theorem pZ:KO dm 12 (.convert 25 9 (.tmp 109)) (some 110) (some (7,false)):=rfl
theorem qa:KO dm 13 (.move (.tmp 10)) (some 111) (some (7,false)):=rfl
theorem qb:KO dm 14 (.move (.tmp 14)) (some 112) (some (7,false)):=rfl
theorem qc:KO dm 15 (.indexAddr 26 (.tmp 111) (.tmp 112)) (some 113) (some (7,false)):=rfl
theorem qe:KO dm 16 (.fieldAddr 36 (.tmp 113) 0) (some 114) (some (7,false)):=rfl
theorem qf:KO dm 17 (.load 25 (.tmp 114)) (some 115) (some (7,false)):=rfl
theorem qg:KO dm 18 (.convert 25 9 (.tmp 115)) (some 116) (some (7,false)):=rfl
theorem qh:KO dm 19 (.binOp .neq 9 (.tmp 110) (.tmp 116) 9) (some 117) (some (7,false)):=rfl
theorem Ei:K1 dm 20 (.pick (.tmp 105) (.const (.bool true)) (.tmp 117)) 118:=rfl
theorem Ej:K1 dm 21 (.move (.tmp 118)) 119:=rfl
theorem qi:KO dm 22 (.move (.tmp 16)) (some 120) (some (21,false)):=rfl
theorem qj:KO dm 23 (.indexAddr 26 (.tmp 120) (.const (.int .i64 0))) (some 121) (some (21,false)):=rfl
theorem qk:KO dm 24 (.fieldAddr 36 (.tmp 121) 1) (some 122) (some (21,false)):=rfl
theorem ql:KO dm 25 (.load 4 (.tmp 122)) (some 123) (some (21,false)):=rfl
theorem qm:KO dm 26 (.move (.tmp 10)) (some 124) (some (21,false)):=rfl
theorem qn:KO dm 27 (.move (.tmp 14)) (some 125) (some (21,false)):=rfl
theorem qo:KO dm 28 (.indexAddr 26 (.tmp 124) (.tmp 125)) (some 126) (some (21,false)):=rfl
theorem qp:KO dm 29 (.fieldAddr 36 (.tmp 126) 1) (some 127) (some (21,false)):=rfl
theorem qq:KO dm 30 (.load 4 (.tmp 127)) (some 128) (some (21,false)):=rfl
theorem qt:KO dm 31 (.binOp .neq 4 (.tmp 123) (.tmp 128) 4) (some 129) (some (21,false)):=rfl
theorem qu:K1 dm 32 (.pick (.tmp 119) (.const (.bool true)) (.tmp 129)) 130:=rfl
def agI:=aO agH
def aTI:=eb agI
def aCI:=ee agI
theorem aTJ:aCI=.skip:=rfl
theorem aTK:agI=.cond (.tmp 130) aTI aCI:=rfl
theorem aTL:agH=.seq atp agI:=rfl
def TF:=aO TE
def atq:=aN TF
def agJ:=aA atq
theorem aTM:atq=.region 22 agJ false:=rfl
theorem agK:K1 agJ 0 (.move (.tmp 13)) 131:=rfl
theorem agL:K1 agJ 1 (.call {callee:=.builtin .len,args:=#[.tmp 131],argTypes:=#[27]}) 132:=rfl
theorem agM:K1 agJ 2 (.move (.const (.int .i64 0))) 133:=rfl
def atr:=aO TF
def att:=kB atr
def Ek:=kL att
def atu:=aN Ek
def atv:=aA atu
theorem aCJ:atu=.region 23 atv false:=rfl
theorem aCK:List.range atv.size=[0]:=rfl
theorem AO:K1 atv 0 (.binOp .lss 3 (.tmp 133) (.tmp 132) 3) 134:=rfl
def agN:=aO Ek
def agO:=aN agN
def aCL:=eb agO
theorem aTN:aCL=.skip:=rfl
def aCM:=ee agO
theorem aTO:aCM=.exit 4:=rfl
theorem aCN:agO=.cond (.tmp 134) aCL aCM:=rfl
def agP:=aO agN
def atw:=aN agP
def agQ:=kB atw
def atx:=aN agQ
def aty:=aA atx
theorem aTP:atx=.region 24 aty false:=rfl
theorem agR:K1 aty 0 (.move (.tmp 133)) 135:=rfl
theorem agS:K1 aty 1 (.assign (.tmp 135)) 19:=rfl
def atz:=aO agQ
def lD:=aA atz
theorem aTQ:atz=.region 25 lD true:=rfl
theorem LU:K1 lD 0 (.move (.tmp 13)) 136:=rfl
theorem LV:K1 lD 1 (.move (.tmp 19)) 137:=rfl
theorem LW:K1 lD 2 (.move (.tmp 13)) 138:=rfl
theorem LX:K1 lD 3 (.move (.tmp 19)) 139:=rfl
theorem LY:K1 lD 4 (.indexAddr 27 (.tmp 138) (.tmp 139)) 140:=rfl
theorem LZ:K1 lD 5 (.load 39 (.tmp 140)) 141:=rfl
theorem L0:K1 lD 6 (.move (.tmp 17)) 142:=rfl
theorem L3:K1 lD 7 (.move (.tmp 19)) 143:=rfl
theorem L4:K1 lD 8 (.indexAddr 27 (.tmp 142) (.tmp 143)) 144:=rfl
theorem L5:K1 lD 9 (.load 39 (.tmp 144)) 145:=rfl
theorem qv:K1 lD 10 (.call {callee:=.value (.func 6),args:=#[.tmp 141,.tmp 145],argTypes:=#[39,39]}) 146:=rfl
theorem El:K1 lD 11 (.indexAddr 27 (.tmp 136) (.tmp 137)) 147:=rfl
theorem qw:KO lD 12 (.store 39 (.tmp 147) (.tmp 146)) none none:=rfl
theorem aTR:agQ=.seq atx atz:=rfl
theorem aTS:atw=.block 5 agQ:=rfl
def atA:=aO agP
def atB:=aA atA
theorem aTT:atA=.region 26 atB false:=rfl
theorem agT:K1 atB 0 (.binOp .add 3 (.tmp 133) (.const (.int .i64 1)) 3) 148:=rfl
theorem agU:K1 atB 1 (.move (.tmp 148)) 133:=rfl
theorem aTU:agP=.seq atw atA:=rfl
theorem aCO:agN=.seq agO agP:=rfl
theorem aCP:Ek=.seq atu agN:=rfl
theorem aTV:att=.loop Ek:=rfl
theorem aTW:atr=.block 4 att:=rfl
theorem aTX:TF=.seq atq atr:=rfl
theorem aTY:TE=.seq agH TF:=rfl
theorem aTZ:agy=.seq ato TE:=rfl
theorem aT0:agt=.seq atn agy:=rfl
theorem aT1:atm=.block 3 agt:=rfl
def atC:=aO agr
def atD:=aA atC
theorem aT2:atC=.region 27 atD false:=rfl
theorem agV:K1 atD 0 (.binOp .add 3 (.tmp 84) (.const (.int .i64 1)) 3) 149:=rfl
theorem agW:K1 atD 1 (.move (.tmp 149)) 84:=rfl
theorem aT3:agr=.seq atm atC:=rfl
theorem aCQ:agp=.seq agq agr:=rfl
theorem aCR:wu=.seq atk agp:=rfl
theorem aT4:atj=.loop wu:=rfl
theorem aT5:ati=.block 2 atj:=rfl
theorem aT6:agk=.seq ath ati:=rfl
def TG:=aO agj
def agX:=aN TG
def atE:=aN agX
def agY:=aA atE
theorem aT7:atE=.region 28 agY false:=rfl
theorem agZ:K1 agY 0 (.move (.tmp 13)) 150:=rfl
theorem ag0:K1 agY 1 (.call {callee:=.builtin .len,args:=#[.tmp 150],argTypes:=#[27]}) 151:=rfl
theorem ag1:K1 agY 2 (.move (.const (.int .i64 0))) 152:=rfl
def YV:=aO agX
def YW:=kB YV
def xX:=kL YW
def YX:=aN xX
def atF:=aA YX
theorem atG:YX=.region 29 atF false:=rfl
theorem aCS:List.range atF.size=[0]:=rfl
theorem AP:K1 atF 0 (.binOp .lss 3 (.tmp 152) (.tmp 151) 3) 153:=rfl
def L8:=aO xX
def L9:=aN L8
def atH:=eb L9
theorem aKR:atH=.skip:=rfl
def atI:=ee L9
theorem aKS:atI=.exit 6:=rfl
theorem atJ:L9=.cond (.tmp 153) atH atI:=rfl
def Ma:=aO L8
def YY:=aN Ma
def Mb:=kB YY
def YZ:=aN Mb
def Em:=aA YZ
theorem aKT:YZ=.region 30 Em false:=rfl
theorem ag2:K1 Em 0 (.move (.tmp 152)) 154:=rfl
theorem ag3:K1 Em 1 (.indexAddr 27 (.tmp 150) (.tmp 152)) 155:=rfl
theorem ag4:K1 Em 2 (.load 39 (.tmp 155)) 156:=rfl
theorem AQ:K1 Em 3 (.alloc 39) 21:=rfl
theorem ag5:K1 Em 4 (.assign (.tmp 154)) 20:=rfl
theorem AT:KO Em 5 (.store 39 (.tmp 21) (.tmp 156)) none none:=rfl
def Mc:=aO Mb
def Y0:=aN Mc
def yx:=aA Y0
theorem aKU:Y0=.region 31 yx true:=rfl
theorem Md:K1 yx 0 (.load 39 (.tmp 21)) 157:=rfl
theorem Me:K1 yx 1 (.move (.tmp 11)) 158:=rfl
theorem Mf:K1 yx 2 (.move (.tmp 20)) 159:=rfl
theorem Mg:K1 yx 3 (.indexAddr 27 (.tmp 158) (.tmp 159)) 160:=rfl
theorem Mh:K1 yx 4 (.load 39 (.tmp 160)) 161:=rfl
theorem rz:K1 yx 5 (.call {callee:=.value (.func 7),args:=#[.tmp 157,.tmp 161],argTypes:=#[39,39]}) 162:=rfl
theorem wD:K1 yx 6 (.unOp .not 4 (.tmp 162)) 163:=rfl
def Mi:=aO Mc
def aKV:=eb Mi
def atK:=ee Mi
theorem aKW:atK=.skip:=rfl
theorem aKX:Mi=.cond (.tmp 163) aKV atK:=rfl
theorem aKY:Mc=.seq Y0 Mi:=rfl
theorem aKZ:Mb=.seq YZ Mc:=rfl
theorem aK0:YY=.block 7 Mb:=rfl
def Y1:=aO Ma
def atL:=aA Y1
theorem aK1:Y1=.region 33 atL false:=rfl
theorem ag6:K1 atL 0 (.binOp .add 3 (.tmp 152) (.const (.int .i64 1)) 3) 164:=rfl
theorem ag7:K1 atL 1 (.move (.tmp 164)) 152:=rfl
theorem aK2:Ma=.seq YY Y1:=rfl
theorem atM:L8=.seq L9 Ma:=rfl
theorem atN:xX=.seq YX L8:=rfl
theorem aK3:YW=.loop xX:=rfl
theorem aK4:YV=.block 6 YW:=rfl
theorem aT8:agX=.seq atE YV:=rfl
def Eo:=aO TG
def Y2:=aN Eo
def si:=aA Y2
theorem aK5:Y2=.region 34 si false:=rfl
theorem ag8:K1 si 0 (.move (.tmp 0)) 166:=rfl
theorem ag9:K1 si 1 (.move (.tmp 1)) 167:=rfl
theorem aha:K1 si 2 (.move (.tmp 9)) 168:=rfl
theorem wF:K1 si 3 (.call {callee:=.value (.func 8),args:=#[.tmp 166,.tmp 167,.tmp 168],argTypes:=#[22,23,2]}) 169:=rfl
theorem ahb:K1 si 4 (.move (.tmp 169)) 165:=rfl
theorem ahc:K1 si 5 (.extract (.tmp 165) 0) 170:=rfl
theorem ahd:K1 si 6 (.extract (.tmp 165) 1) 171:=rfl
theorem ahe:K1 si 7 (.assign (.tmp 170)) 22:=rfl
theorem ahf:K1 si 8 (.assign (.tmp 171)) 12:=rfl
def Mj:=aO Eo
def Y3:=aN Mj
def qx:=aA Y3
theorem aK6:Y3=.region 35 qx false:=rfl
theorem ahg:K1 qx 0 (.move (.tmp 22)) 172:=rfl
theorem ahh:K1 qx 1 (.binOp .eql 2 (.tmp 172) (.const (.int .i64 0)) 2) 173:=rfl
theorem ahi:K1 qx 2 (.move (.tmp 173)) 174:=rfl
theorem ahj:KO qx 3 (.move (.tmp 12)) (some 175) (some (2,true)):=rfl
theorem ahk:KO qx 4 (.binOp .eql 28 (.tmp 175) (.const (.int .i64 0)) 28) (some 176) (some (2,true)):=rfl
theorem ahl:K1 qx 5 (.pick (.tmp 174) (.tmp 176) (.const (.bool false))) 177:=rfl
theorem ahm:K1 qx 6 (.move (.tmp 177)) 178:=rfl
theorem wG:KO qx 7 (.call {callee:=.value (.func 4),args:=#[],argTypes:=#[]}) (some 179) (some (6,true)):=rfl
theorem ahn:K1 qx 8 (.pick (.tmp 178) (.tmp 179) (.const (.bool false))) 180:=rfl
theorem aho:K1 qx 9 (.assign (.tmp 180)) 6:=rfl
def atO:=aO Mj
theorem aK7:atO=.ret:=rfl
theorem aK8:Mj=.seq Y3 atO:=rfl
theorem aK9:Eo=.seq Y2 Mj:=rfl
theorem aT9:TG=.seq agX Eo:=rfl
theorem aUa:agj=.seq agk TG:=rfl
theorem aUb:age=.seq atg agj:=rfl
theorem aUc:af1=.seq af2 age:=rfl
theorem aCT:afN=.seq afO af1:=rfl
theorem aUd:afJ=.seq atc afN:=rfl
theorem aUe:Gx=.seq as6 afJ:=rfl
theorem aUf:afB=.seq afC Gx:=rfl
theorem aZt:azq=.seq azr afB:=rfl
theorem aZu:YU=.seq aKJ azq:=rfl
theorem aUg:Tryz.f3.body=some YU:=rfl
def TH:=(Tryz.f11.body).getD .skip
def atP:=aN TH
def aCU:=aA atP
theorem aUh:atP=.region 0 aCU false:=rfl
theorem ahp:K1 aCU 0 (.assign (.const (.int .i64 0))) 6:=rfl
def ahq:=aO TH
def ahr:=aN ahq
def atQ:=aN ahr
def ahs:=aA atQ
theorem aUi:atQ=.region 1 ahs false:=rfl
theorem aht:K1 ahs 0 (.move (.tmp 2)) 9:=rfl
theorem wH:K1 ahs 1 (.call {callee:=.value (.func 23),args:=#[.const (.int .i64 0),.tmp 9],argTypes:=#[2,2]}) 10:=rfl
theorem ahu:K1 ahs 2 (.binOp .lss 2 (.tmp 10) (.const (.int .i64 0)) 2) 11:=rfl
def ahv:=aO ahr
def aUj:=eb ahv
def aCV:=ee ahv
theorem aUk:aCV=.skip:=rfl
theorem aUl:ahv=.cond (.tmp 11) aUj aCV:=rfl
theorem aUm:ahr=.seq atQ ahv:=rfl
def Mk:=aO ahq
def Ml:=aN Mk
def Y4:=aN Ml
def ahw:=aA Y4
theorem aLa:Y4=.region 3 ahw false:=rfl
theorem ahx:K1 ahw 0 (.move (.tmp 1)) 12:=rfl
theorem ahy:K1 ahw 1 (.call {callee:=.builtin .len,args:=#[.tmp 12],argTypes:=#[23]}) 13:=rfl
theorem ahz:K1 ahw 2 (.move (.const (.int .i64 0))) 14:=rfl
def Y5:=aO Ml
def Y6:=kB Y5
def xY:=kL Y6
def Y7:=aN xY
def atS:=aA Y7
theorem atT:Y7=.region 4 atS false:=rfl
theorem aCW:List.range atS.size=[0]:=rfl
theorem AU:K1 atS 0 (.binOp .lss 3 (.tmp 14) (.tmp 13) 3) 15:=rfl
def Mm:=aO xY
def Mn:=aN Mm
def atU:=eb Mn
theorem aLb:atU=.skip:=rfl
def atV:=ee Mn
theorem aLc:atV=.exit 0:=rfl
theorem atW:Mn=.cond (.tmp 15) atU atV:=rfl
def Mo:=aO Mm
def Y8:=aN Mo
def Mp:=kB Y8
def Y9:=aN Mp
def TI:=aA Y9
theorem aLd:Y9=.region 5 TI false:=rfl
theorem ahA:K1 TI 0 (.indexAddr 23 (.tmp 12) (.tmp 14)) 16:=rfl
theorem ahB:K1 TI 1 (.load 34 (.tmp 16)) 17:=rfl
theorem AW:K1 TI 2 (.alloc 34) 8:=rfl
theorem AX:KO TI 3 (.store 34 (.tmp 8) (.tmp 17)) none none:=rfl
def Mq:=aO Mp
def Za:=aN Mq
def dX:=aA Za
theorem aLe:Za=.region 6 dX false:=rfl
theorem ahC:K1 dX 0 (.fieldAddr 34 (.tmp 8) 0) 18:=rfl
theorem ahD:K1 dX 1 (.load 3 (.tmp 18)) 19:=rfl
theorem ahE:K1 dX 2 (.binOp .lss 3 (.tmp 19) (.const (.int .i64 0)) 3) 20:=rfl
theorem ahF:K1 dX 3 (.move (.tmp 20)) 21:=rfl
theorem wI:KO dX 4 (.fieldAddr 34 (.tmp 8) 0) (some 22) (some (3,false)):=rfl
theorem wJ:KO dX 5 (.load 3 (.tmp 22)) (some 23) (some (3,false)):=rfl
theorem wK:KO dX 6 (.move (.tmp 0)) (some 24) (some (3,false)):=rfl
theorem wL:KO dX 7 (.call {callee:=.builtin .len,args:=#[.tmp 24],argTypes:=#[22]}) (some 25) (some (3,false)):=rfl
theorem wM:KO dX 8 (.binOp .geq 3 (.tmp 23) (.tmp 25) 3) (some 26) (some (3,false)):=rfl
theorem AY:K1 dX 9 (.pick (.tmp 21) (.const (.bool true)) (.tmp 26)) 27:=rfl
theorem TJ:K1 dX 10 (.move (.tmp 27)) 28:=rfl
theorem qy:KO dX 11 (.fieldAddr 34 (.tmp 8) 1) (some 29) (some (10,false)):=rfl
theorem qz:KO dX 12 (.load 32 (.tmp 29)) (some 30) (some (10,false)):=rfl
theorem kS:KO dX 13 (.call {callee:=.value (.func 15),args:=#[.tmp 30],argTypes:=#[32]}) (some 31) (some (10,false)):=rfl
theorem qA:KO dX 14 (.unOp .not 4 (.tmp 31)) (some 32) (some (10,false)):=rfl
theorem wN:K1 dX 15 (.pick (.tmp 28) (.const (.bool true)) (.tmp 32)) 33:=rfl
theorem TK:K1 dX 16 (.move (.tmp 33)) 34:=rfl
theorem qB:KO dX 17 (.fieldAddr 34 (.tmp 8) 2) (some 35) (some (16,false)):=rfl
theorem qC:KO dX 18 (.load 2 (.tmp 35)) (some 36) (some (16,false)):=rfl
theorem qD:KO dX 19 (.binOp .lss 2 (.tmp 36) (.const (.int .i64 (-1))) 2) (some 37) (some (16,false)):=rfl
theorem wO:K1 dX 20 (.pick (.tmp 34) (.const (.bool true)) (.tmp 37)) 38:=rfl
def Mr:=aO Mq
def Mt:=eb Mr
def Zb:=aN Mt
def aCX:=aA Zb
theorem aLf:Zb=.region 7 aCX false:=rfl
theorem ahG:K1 aCX 0 (.assign (.const (.int .i64 1))) 6:=rfl
def atX:=aO Mt
theorem aLg:atX=.ret:=rfl
theorem aLh:Mt=.seq Zb atX:=rfl
def atY:=ee Mr
theorem aLi:atY=.skip:=rfl
theorem atZ:Mr=.cond (.tmp 38) Mt atY:=rfl
theorem aLj:Mq=.seq Za Mr:=rfl
theorem aLk:Mp=.seq Y9 Mq:=rfl
theorem aLl:Y8=.block 1 Mp:=rfl
def Zc:=aO Mo
def at0:=aA Zc
theorem aLm:Zc=.region 8 at0 false:=rfl
theorem ahH:K1 at0 0 (.binOp .add 3 (.tmp 14) (.const (.int .i64 1)) 3) 39:=rfl
theorem ahI:K1 at0 1 (.move (.tmp 39)) 14:=rfl
theorem aLn:Mo=.seq Y8 Zc:=rfl
theorem at1:Mm=.seq Mn Mo:=rfl
theorem at2:xY=.seq Y7 Mm:=rfl
theorem aLo:Y6=.loop xY:=rfl
theorem aLp:Y5=.block 0 Y6:=rfl
theorem aLq:Ml=.seq Y4 Y5:=rfl
def xZ:=aO Mk
def Mu:=aN xZ
def Zd:=aN Mu
def ahJ:=aA Zd
theorem aLr:Zd=.region 9 ahJ false:=rfl
theorem ahK:K1 ahJ 0 (.move (.tmp 1)) 40:=rfl
theorem ahL:K1 ahJ 1 (.call {callee:=.builtin .len,args:=#[.tmp 40],argTypes:=#[23]}) 41:=rfl
theorem ahM:K1 ahJ 2 (.binOp .gtr 3 (.tmp 41) (.const (.int .i64 200)) 3) 42:=rfl
def Mv:=aO Mu
def aLs:=eb Mv
def at3:=ee Mv
theorem aLt:at3=.skip:=rfl
theorem aLu:Mv=.cond (.tmp 42) aLs at3:=rfl
theorem aLv:Mu=.seq Zd Mv:=rfl
def Mw:=aO xZ
def Ze:=aN Mw
def at4:=aA Ze
theorem aLw:Ze=.region 11 at4 false:=rfl
theorem TL:K1 at4 0 (.assign (.const (.int .i64 0))) 6:=rfl
def at5:=aO Mw
theorem aLx:at5=.ret:=rfl
theorem aLy:Mw=.seq Ze at5:=rfl
theorem aLz:xZ=.seq Mu Mw:=rfl
theorem aLA:Mk=.seq Ml xZ:=rfl
theorem aUn:ahq=.seq ahr Mk:=rfl
theorem aUo:TH=.seq atP ahq:=rfl
theorem at6:Tryz.f11.body=some TH:=rfl
end
end Go.Proofs.YtmcddajniiaieaaGreatDoor
