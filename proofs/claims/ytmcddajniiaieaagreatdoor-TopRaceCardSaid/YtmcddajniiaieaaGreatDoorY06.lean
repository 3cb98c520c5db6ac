/- TopRace: a part of the proof that it holds for every input and every schedule. -/
import Derived.Test.YtmcddajniiaieaaGreatDoorY05
import Derived.Test.YtmcddajniiaieaaGreatDoorY04
import Derived.Test.YtmcddajniiaieaaGreatDoorY03
import Derived.Test.YtmcddajniiaieaaGreatDoorRows
import Derived.Below
import Derived.Laws.OwnMore
import Derived.Deep.AppendLies
import Derived.Deep.Draws
import Derived.Laws.Rows
import Derived.Maps.AppendAt
import Derived.RegionTactic
import Derived.OwnWalk
import Derived.Deep.QuietTactic
import Derived.BigQuiet
import Derived.WalkKit
import Derived.WalkSpells
import Derived.WalkLawsBesides
import Derived.Lib.Hide
import Derived.Lib.MinMax
import Derived.Recover
import Derived.IntWalk
import Derived.BigRegion
import Derived.Deep.Cut
import Derived.Deep.RegionHeld3
set_option linter.unusedVariables false
set_option linter.unusedSimpArgs false
namespace Go.Proofs.YtmcddajniiaieaaGreatDoor
open Go Go.Proofs.Tryz
noncomputable section
set_option maxRecDepth 20000
def ahN:=(Tryz.f43.body).getD .skip
def at7:=aN ahN
def aCY:=aA at7
theorem aUp:at7=.region 0 aCY false:=rfl
theorem AZ:K1 aCY 0 (.assign (.const (.int .u64 0))) 4:=rfl
def ahO:=aO ahN
def aua:=aN ahO
def wP:=aA aua
theorem aUq:aua=.region 1 wP false:=rfl
theorem A0:K1 wP 0 (.move (.tmp 0)) 5:=rfl
theorem A4:K1 wP 1 (.nilCheck (.tmp 5)) 6:=rfl
theorem A6:K1 wP 2 (.fieldAddr 83 (.tmp 6) 2) 7:=rfl
theorem A7:K1 wP 3 (.move (.tmp 1)) 8:=rfl
theorem Mx:K1 wP 4 (.call {callee:=.value (.func 70),args:=#[.tmp 7,.tmp 8],argTypes:=#[129,81]}) 9:=rfl
theorem A9:K1 wP 5 (.assign (.tmp 9)) 4:=rfl
def ahP:=aO ahO
theorem aUr:ahP=.ret:=rfl
theorem aUs:ahO=.seq aua ahP:=rfl
theorem aUt:ahN=.seq at7 ahO:=rfl
theorem aLB:Tryz.f43.body=some ahN:=rfl
def TM:=(Tryz.f45.body).getD .skip
def aub:=aN TM
def aCZ:=aA aub
theorem aUu:aub=.region 0 aCZ false:=rfl
theorem ahQ:K1 aCZ 0 (.assign (.const (.int .u64 0))) 2:=rfl
def ahR:=aO TM
def auc:=aN ahR
def lE:=aA auc
theorem aUv:auc=.region 1 lE false:=rfl
theorem ahS:K1 lE 0 (.move (.tmp 0)) 3:=rfl
theorem ahT:K1 lE 1 (.nilCheck (.tmp 3)) 4:=rfl
theorem ahU:K1 lE 2 (.fieldAddr 83 (.tmp 4) 2) 5:=rfl
theorem rA:K1 lE 3 (.call {callee:=.value (.func 71),args:=#[.tmp 5],argTypes:=#[129]}) 6:=rfl
theorem Ba:K1 lE 4 (.assign (.tmp 6)) 2:=rfl
def yy:=aO ahR
theorem aUw:yy=.ret:=rfl
theorem aUx:ahR=.seq auc yy:=rfl
theorem aUy:TM=.seq aub ahR:=rfl
theorem aud:Tryz.f45.body=some TM:=rfl
def TN:=(Tryz.f54.body).getD .skip
def aue:=aN TN
def aC0:=aA aue
theorem aUz:aue=.region 0 aC0 false:=rfl
theorem ahV:K1 aC0 0 (.assign (.const (.bool false))) 6:=rfl
def ahW:=aO TN
def auf:=aN ahW
def lF:=aA auf
theorem aUA:auf=.region 1 lF false:=rfl
theorem ahX:K1 lF 0 (.move (.tmp 0)) 7:=rfl
theorem ahY:K1 lF 1 (.nilCheck (.tmp 7)) 8:=rfl
theorem ahZ:K1 lF 2 (.fieldAddr 83 (.tmp 8) 2) 9:=rfl
theorem ah0:K1 lF 3 (.move (.tmp 1)) 10:=rfl
theorem ah1:K1 lF 4 (.move (.tmp 2)) 11:=rfl
theorem rB:K1 lF 5 (.call {callee:=.value (.func 77),args:=#[.tmp 9,.tmp 10,.tmp 11],argTypes:=#[129,81,81]}) 12:=rfl
theorem Bc:K1 lF 6 (.assign (.tmp 12)) 6:=rfl
def Gy:=aO ahW
theorem aUB:Gy=.ret:=rfl
theorem aUC:ahW=.seq auf Gy:=rfl
theorem aUD:TN=.seq aue ahW:=rfl
theorem aLC:Tryz.f54.body=some TN:=rfl
def TO:=(Tryz.f23.body).getD .skip
def aug:=aN TO
def aC1:=aA aug
theorem aUE:aug=.region 0 aC1 false:=rfl
theorem ah2:K1 aC1 0 (.assign (.const (.int .i64 0))) 4:=rfl
def ah3:=aO TO
def ah4:=aN ah3
def auh:=aN ah4
def yz:=aA auh
theorem aUF:auh=.region 1 yz false:=rfl
theorem ah5:K1 yz 0 (.move (.tmp 0)) 5:=rfl
theorem ah6:K1 yz 1 (.binOp .lss 2 (.tmp 5) (.const (.int .i64 0)) 2) 6:=rfl
theorem ah7:K1 yz 2 (.move (.tmp 6)) 7:=rfl
theorem ah8:KO yz 3 (.move (.tmp 1)) (some 8) (some (2,false)):=rfl
theorem Bd:KO yz 4 (.call {callee:=.value (.func 35),args:=#[.tmp 8],argTypes:=#[2]}) (some 9) (some (2,false)):=rfl
theorem ah9:KO yz 5 (.unOp .not 4 (.tmp 9)) (some 10) (some (2,false)):=rfl
theorem aia:K1 yz 6 (.pick (.tmp 7) (.const (.bool true)) (.tmp 10)) 11:=rfl
def aib:=aO ah4
def aUG:=eb aib
def aC2:=ee aib
theorem aUH:aC2=.skip:=rfl
theorem aUI:aib=.cond (.tmp 11) aUG aC2:=rfl
theorem aUJ:ah4=.seq auh aib:=rfl
def My:=aO ah3
def Zf:=aN My
def TP:=aA Zf
theorem aLD:Zf=.region 3 TP false:=rfl
theorem aic:K1 TP 0 (.move (.tmp 0)) 12:=rfl
theorem aid:K1 TP 1 (.move (.tmp 1)) 13:=rfl
theorem aie:K1 TP 2 (.binOp .quo 2 (.tmp 12) (.tmp 13) 2) 14:=rfl
theorem aif:K1 TP 3 (.assign (.tmp 14)) 4:=rfl
def aui:=aO My
theorem aLE:aui=.ret:=rfl
theorem aLF:My=.seq Zf aui:=rfl
theorem aUK:ah3=.seq ah4 My:=rfl
theorem aUL:TO=.seq aug ah3:=rfl
theorem aLG:Tryz.f23.body=some TO:=rfl
def auj:=(Tryz.f7.body).getD .skip
def aLH:=aN auj
def azw:=aA aLH
theorem aZv:aLH=.region 0 azw false:=rfl
theorem Mz:K1 azw 0 (.box 39 (.tmp 0)) 2:=rfl
theorem MA:K1 azw 1 (.box 39 (.tmp 1)) 3:=rfl
theorem auk:K1 azw 2 (.assign (.const (.bool false))) 4:=rfl
def azx:=aO auj
def aLI:=aN azx
def Zg:=aA aLI
theorem aZw:aLI=.region 1 Zg false:=rfl
theorem aul:K1 Zg 0 (.fieldAddr 39 (.tmp 2) 0) 5:=rfl
theorem aum:K1 Zg 1 (.load 37 (.tmp 5)) 6:=rfl
theorem aun:K1 Zg 2 (.fieldAddr 39 (.tmp 3) 0) 7:=rfl
theorem auo:K1 Zg 3 (.load 37 (.tmp 7)) 8:=rfl
theorem Ep:K1 Zg 4 (.call {callee:=.value (.func 14),args:=#[.tmp 6,.tmp 8],argTypes:=#[37,37]}) 9:=rfl
theorem aup:K1 Zg 5 (.assign (.tmp 9)) 4:=rfl
def aUM:=aO azx
theorem aZx:aUM=.ret:=rfl
theorem aZy:azx=.seq aLI aUM:=rfl
theorem aZz:auj=.seq aLH azx:=rfl
theorem aUN:Tryz.f7.body=some auj:=rfl
def TQ:=(Tryz.f14.body).getD .skip
def auq:=aN TQ
def aC3:=aA auq
theorem aUO:auq=.region 0 aC3 false:=rfl
theorem aih:K1 aC3 0 (.assign (.const (.bool false))) 4:=rfl
def aii:=aO TQ
def aij:=aN aii
def aur:=aN aij
def Gz:=aA aur
theorem aUP:aur=.region 1 Gz false:=rfl
theorem aik:K1 Gz 0 (.move (.tmp 0)) 6:=rfl
theorem ail:K1 Gz 1 (.call {callee:=.builtin .len,args:=#[.tmp 6],argTypes:=#[37]}) 7:=rfl
theorem aim:K1 Gz 2 (.move (.tmp 1)) 8:=rfl
theorem ain:K1 Gz 3 (.call {callee:=.builtin .len,args:=#[.tmp 8],argTypes:=#[37]}) 9:=rfl
theorem aio:K1 Gz 4 (.binOp .neq 3 (.tmp 7) (.tmp 9) 3) 10:=rfl
def aip:=aO aij
def aUQ:=eb aip
def aC4:=ee aip
theorem aUR:aC4=.skip:=rfl
theorem aUS:aip=.cond (.tmp 10) aUQ aC4:=rfl
theorem aUT:aij=.seq aur aip:=rfl
def MB:=aO aii
def MD:=aN MB
def Zh:=aN MD
def aiq:=aA Zh
theorem aLJ:Zh=.region 3 aiq false:=rfl
theorem air:K1 aiq 0 (.move (.tmp 0)) 11:=rfl
theorem ais:K1 aiq 1 (.call {callee:=.builtin .len,args:=#[.tmp 11],argTypes:=#[37]}) 12:=rfl
theorem ait:K1 aiq 2 (.move (.const (.int .i64 0))) 13:=rfl
def Zi:=aO MD
def Zj:=kB Zi
def x9:=kL Zj
def Zk:=aN x9
def aus:=aA Zk
theorem aut:Zk=.region 4 aus false:=rfl
theorem aC5:List.range aus.size=[0]:=rfl
theorem Be:K1 aus 0 (.binOp .lss 3 (.tmp 13) (.tmp 12) 3) 14:=rfl
def ME:=aO x9
def MF:=aN ME
def auu:=eb MF
theorem aLK:auu=.skip:=rfl
def auv:=ee MF
theorem aLL:auv=.exit 0:=rfl
theorem auw:MF=.cond (.tmp 14) auu auv:=rfl
def MG:=aO ME
def Zl:=aN MG
def MH:=kB Zl
def Zm:=aN MH
def auy:=aA Zm
theorem aLM:Zm=.region 5 auy false:=rfl
theorem aiu:K1 auy 0 (.move (.tmp 13)) 15:=rfl
theorem aiv:K1 auy 1 (.assign (.tmp 15)) 5:=rfl
def MI:=aO MH
def Zn:=aN MI
def sj:=aA Zn
theorem aLN:Zn=.region 6 sj true:=rfl
theorem MJ:K1 sj 0 (.move (.tmp 0)) 16:=rfl
theorem ML:K1 sj 1 (.move (.tmp 5)) 17:=rfl
theorem MM:K1 sj 2 (.indexAddr 37 (.tmp 16) (.tmp 17)) 18:=rfl
theorem MN:K1 sj 3 (.load 32 (.tmp 18)) 19:=rfl
theorem MO:K1 sj 4 (.move (.tmp 1)) 20:=rfl
theorem MP:K1 sj 5 (.move (.tmp 5)) 21:=rfl
theorem MQ:K1 sj 6 (.indexAddr 37 (.tmp 20) (.tmp 21)) 22:=rfl
theorem MS:K1 sj 7 (.load 32 (.tmp 22)) 23:=rfl
theorem wQ:K1 sj 8 (.binOp .neq 32 (.tmp 19) (.tmp 23) 32) 24:=rfl
def MT:=aO MI
def aLO:=eb MT
def auz:=ee MT
theorem aLP:auz=.skip:=rfl
theorem aLQ:MT=.cond (.tmp 24) aLO auz:=rfl
theorem aLR:MI=.seq Zn MT:=rfl
theorem aLS:MH=.seq Zm MI:=rfl
theorem aLT:Zl=.block 1 MH:=rfl
def Zo:=aO MG
def auA:=aA Zo
theorem aLU:Zo=.region 8 auA false:=rfl
theorem aiw:K1 auA 0 (.binOp .add 3 (.tmp 13) (.const (.int .i64 1)) 3) 25:=rfl
theorem aix:K1 auA 1 (.move (.tmp 25)) 13:=rfl
theorem aLV:MG=.seq Zl Zo:=rfl
theorem auB:ME=.seq MF MG:=rfl
theorem auC:x9=.seq Zk ME:=rfl
theorem aLW:Zj=.loop x9:=rfl
theorem aLX:Zi=.block 0 Zj:=rfl
theorem aLY:MD=.seq Zh Zi:=rfl
def ya:=aO MB
def Zp:=aN ya
def aC6:=aA Zp
theorem aLZ:Zp=.region 9 aC6 false:=rfl
theorem aiy:K1 aC6 0 (.assign (.const (.bool true))) 4:=rfl
def auD:=aO ya
theorem aL0:auD=.ret:=rfl
theorem aL1:ya=.seq Zp auD:=rfl
theorem aL2:MB=.seq MD ya:=rfl
theorem aUU:aii=.seq aij MB:=rfl
theorem aUV:TQ=.seq auq aii:=rfl
theorem aL3:Tryz.f14.body=some TQ:=rfl
def auE:=(Tryz.f4.body).getD .skip
def aL4:=aN auE
def aUW:=aA aL4
theorem aZA:aL4=.region 0 aUW false:=rfl
theorem auF:K1 aUW 0 (.assign (.const (.bool false))) 0:=rfl
def azy:=aO auE
def aL5:=aN azy
def TR:=aA aL5
theorem aZB:aL5=.region 1 TR false:=rfl
theorem auG:K1 TR 0 (.build 32 #[(0,.const (.int .i64 2)),(1,.const (.int .i64 4))]) 1:=rfl
theorem auH:K1 TR 1 (.build 32 #[(0,.const (.int .i64 4)),(1,.const (.int .i64 5))]) 2:=rfl
theorem MU:K1 TR 2 (.buildSlice 37 2 #[(0,.tmp 1),(1,.tmp 2)]) 3:=rfl
theorem MW:K1 TR 3 (.call {callee:=.value (.func 9),args:=#[.tmp 3],argTypes:=#[37]}) 4:=rfl
theorem Er:K1 TR 4 (.call {callee:=.value (.func 10),args:=#[.tmp 4],argTypes:=#[39]}) 5:=rfl
theorem auI:K1 TR 5 (.binOp .eql 9 (.tmp 5) (.const (.string {data:=#[50,45,53]})) 9) 6:=rfl
theorem auJ:K1 TR 6 (.assign (.tmp 6)) 0:=rfl
def aUX:=aO azy
theorem aZC:aUX=.ret:=rfl
theorem aZD:azy=.seq aL5 aUX:=rfl
theorem aZE:auE=.seq aL4 azy:=rfl
theorem aiz:Tryz.f4.body=some auE:=rfl
end
noncomputable section
set_option maxRecDepth 20000
def TS:=(Tryz.f10.body).getD .skip
def auK:=aN TS
def auL:=aA auK
theorem aUY:auK=.region 0 auL false:=rfl
theorem Bf:K1 auL 0 (.box 39 (.tmp 0)) 1:=rfl
theorem aiA:K1 auL 1 (.assign (.const (.string {data:=#[]}))) 2:=rfl
def aiB:=aO TS
def aiC:=aN aiB
def auM:=aN aiC
def TT:=aA auM
theorem aUZ:auM=.region 1 TT false:=rfl
theorem aiD:K1 TT 0 (.fieldAddr 39 (.tmp 1) 0) 6:=rfl
theorem aiE:K1 TT 1 (.load 37 (.tmp 6)) 7:=rfl
theorem aiF:K1 TT 2 (.call {callee:=.builtin .len,args:=#[.tmp 7],argTypes:=#[37]}) 8:=rfl
theorem aiG:K1 TT 3 (.binOp .eql 3 (.tmp 8) (.const (.int .i64 0)) 3) 9:=rfl
def aiH:=aO aiC
def aU0:=eb aiH
def aC7:=ee aiH
theorem aU1:aC7=.skip:=rfl
theorem aU2:aiH=.cond (.tmp 9) aU0 aC7:=rfl
theorem aU3:aiC=.seq auM aiH:=rfl
def MX:=aO aiB
def Zq:=aN MX
def aC8:=aA Zq
theorem aL6:Zq=.region 3 aC8 false:=rfl
theorem Bh:K1 aC8 0 (.alloc 70) 3:=rfl
def MY:=aO MX
def MZ:=aN MY
def Zr:=aN MZ
def TU:=aA Zr
theorem aL7:Zr=.region 4 TU false:=rfl
theorem aiI:K1 TU 0 (.fieldAddr 39 (.tmp 1) 0) 10:=rfl
theorem aiJ:K1 TU 1 (.load 37 (.tmp 10)) 11:=rfl
theorem aiK:K1 TU 2 (.call {callee:=.builtin .len,args:=#[.tmp 11],argTypes:=#[37]}) 12:=rfl
theorem aiL:K1 TU 3 (.move (.const (.int .i64 0))) 13:=rfl
def Zs:=aO MZ
def Zt:=kB Zs
def M0:=kL Zt
def Zu:=aN M0
def auN:=aA Zu
theorem auO:Zu=.region 5 auN false:=rfl
theorem aC9:List.range auN.size=[0]:=rfl
theorem Bi:K1 auN 0 (.binOp .lss 3 (.tmp 13) (.tmp 12) 3) 14:=rfl
def M1:=aO M0
def M3:=aN M1
def auP:=eb M3
theorem aL8:auP=.skip:=rfl
def auQ:=ee M3
theorem aL9:auQ=.exit 0:=rfl
theorem auR:M3=.cond (.tmp 14) auP auQ:=rfl
def M4:=aO M1
def Zv:=aN M4
def M5:=kB Zv
def Zw:=aN M5
def Es:=aA Zw
theorem aMa:Zw=.region 6 Es false:=rfl
theorem aiM:K1 Es 0 (.move (.tmp 13)) 15:=rfl
theorem aiN:K1 Es 1 (.indexAddr 37 (.tmp 11) (.tmp 13)) 16:=rfl
theorem aiO:K1 Es 2 (.load 32 (.tmp 16)) 17:=rfl
theorem Bj:K1 Es 3 (.alloc 32) 5:=rfl
theorem aiP:K1 Es 4 (.assign (.tmp 15)) 4:=rfl
theorem Bm:KO Es 5 (.store 32 (.tmp 5) (.tmp 17)) none none:=rfl
def M6:=aO M5
def M7:=aN M6
def Zx:=aN M7
def auS:=aA Zx
theorem aMb:Zx=.region 7 auS false:=rfl
theorem aiQ:K1 auS 0 (.move (.tmp 4)) 18:=rfl
theorem aiR:K1 auS 1 (.binOp .gtr 3 (.tmp 18) (.const (.int .i64 0)) 3) 19:=rfl
def M8:=aO M7
def aMc:=eb M8
def auT:=ee M8
theorem aMd:auT=.skip:=rfl
theorem aMe:M8=.cond (.tmp 19) aMc auT:=rfl
theorem aMf:M7=.seq Zx M8:=rfl
def Zy:=aO M6
def aiS:=aA Zy
theorem aMg:Zy=.region 9 aiS false:=rfl
theorem aiT:K1 aiS 0 (.load 32 (.tmp 5)) 21:=rfl
theorem wR:K1 aiS 1 (.call {callee:=.value (.func 21),args:=#[.tmp 21],argTypes:=#[32]}) 22:=rfl
theorem wS:K1 aiS 2 (.call {callee:=.value (.func 20),args:=#[.tmp 3,.tmp 22],argTypes:=#[70,9]}) 23:=rfl
theorem aMh:M6=.seq M7 Zy:=rfl
theorem aMi:M5=.seq Zw M6:=rfl
theorem aMj:Zv=.block 1 M5:=rfl
def Zz:=aO M4
def ZA:=aA Zz
theorem aMk:Zz=.region 10 ZA false:=rfl
theorem TV:K1 ZA 0 (.binOp .add 3 (.tmp 13) (.const (.int .i64 1)) 3) 24:=rfl
theorem TW:K1 ZA 1 (.move (.tmp 24)) 13:=rfl
theorem aMl:M4=.seq Zv Zz:=rfl
theorem auU:M1=.seq M3 M4:=rfl
theorem auV:M0=.seq Zu M1:=rfl
theorem aMm:Zt=.loop M0:=rfl
theorem aMn:Zs=.block 0 Zt:=rfl
theorem aMo:MZ=.seq Zr Zs:=rfl
def M9:=aO MY
def ZB:=aN M9
def ZC:=aA ZB
theorem aMp:ZB=.region 11 ZC false:=rfl
theorem qE:K1 ZC 0 (.call {callee:=.value (.func 22),args:=#[.tmp 3],argTypes:=#[70]}) 25:=rfl
theorem TX:K1 ZC 1 (.assign (.tmp 25)) 2:=rfl
def auW:=aO M9
theorem aMq:auW=.ret:=rfl
theorem aMr:M9=.seq ZB auW:=rfl
theorem aMs:MY=.seq MZ M9:=rfl
theorem aMt:MX=.seq Zq MY:=rfl
theorem aU4:aiB=.seq aiC MX:=rfl
theorem aU5:TS=.seq auK aiB:=rfl
theorem aMu:Tryz.f10.body=some TS:=rfl
def TY:=(Tryz.f20.body).getD .skip
def auX:=aN TY
def auY:=aA auX
theorem aU6:auX=.region 0 auY false:=rfl
theorem aiU:K1 auY 0 (.assign (.const (.int .i64 0))) 4:=rfl
theorem aiV:K1 auY 1 (.assign (.const .nilIface)) 5:=rfl
def aiW:=aO TY
def auZ:=aN aiW
def au0:=aA auZ
theorem aU7:auZ=.region 1 au0 false:=rfl
theorem aiX:K1 au0 0 (.move (.tmp 0)) 6:=rfl
theorem wT:K1 au0 1 (.call {callee:=.value (.func 32),args:=#[.tmp 6],argTypes:=#[68]}) 7:=rfl
def aiY:=aO aiW
def au1:=aN aiY
def qF:=aA au1
theorem aU8:au1=.region 2 qF false:=rfl
theorem aiZ:K1 qF 0 (.move (.tmp 0)) 8:=rfl
theorem ai0:K1 qF 1 (.move (.tmp 0)) 9:=rfl
theorem ai1:K1 qF 2 (.nilCheck (.tmp 9)) 10:=rfl
theorem ai2:K1 qF 3 (.fieldAddr 70 (.tmp 10) 1) 11:=rfl
theorem ai3:K1 qF 4 (.load 25 (.tmp 11)) 12:=rfl
theorem ai4:K1 qF 5 (.move (.tmp 1)) 13:=rfl
theorem Bn:K1 qF 6 (.call {callee:=.builtin .append,args:=#[.tmp 12,.tmp 13],argTypes:=#[25,9]}) 14:=rfl
theorem ai5:K1 qF 7 (.nilCheck (.tmp 8)) 15:=rfl
theorem ai6:K1 qF 8 (.fieldAddr 70 (.tmp 15) 1) 16:=rfl
theorem Bo:KO qF 9 (.store 25 (.tmp 16) (.tmp 14)) none none:=rfl
def ai7:=aO aiY
def au2:=aN ai7
def TZ:=aA au2
theorem aU9:au2=.region 3 TZ false:=rfl
theorem ai8:K1 TZ 0 (.move (.tmp 1)) 17:=rfl
theorem ai9:K1 TZ 1 (.call {callee:=.builtin .len,args:=#[.tmp 17],argTypes:=#[9]}) 18:=rfl
theorem aja:K1 TZ 2 (.assign (.tmp 18)) 4:=rfl
theorem ajb:K1 TZ 3 (.assign (.const .nilIface)) 5:=rfl
def aDa:=aO ai7
theorem aVa:aDa=.ret:=rfl
theorem aVb:ai7=.seq au2 aDa:=rfl
theorem aVc:aiY=.seq au1 ai7:=rfl
theorem aVd:aiW=.seq auZ aiY:=rfl
theorem aVe:TY=.seq auX aiW:=rfl
theorem aMv:Tryz.f20.body=some TY:=rfl
def T0:=(Tryz.f21.body).getD .skip
def au3:=aN T0
def au4:=aA au3
theorem aVf:au3=.region 0 au4 false:=rfl
theorem Bp:K1 au4 0 (.box 32 (.tmp 0)) 1:=rfl
theorem ajc:K1 au4 1 (.assign (.const (.string {data:=#[]}))) 2:=rfl
def ajd:=aO T0
def aje:=aN ajd
def au5:=aN aje
def ajf:=aA au5
theorem aVg:au5=.region 1 ajf false:=rfl
theorem ajg:K1 ajf 0 (.load 32 (.tmp 1)) 4:=rfl
theorem Bq:K1 ajf 1 (.call {callee:=.value (.func 15),args:=#[.tmp 4],argTypes:=#[32]}) 5:=rfl
theorem ajh:K1 ajf 2 (.unOp .not 4 (.tmp 5)) 6:=rfl
def aji:=aO aje
def aVh:=eb aji
def aDb:=ee aji
theorem aVi:aDb=.skip:=rfl
theorem aVj:aji=.cond (.tmp 6) aVh aDb:=rfl
theorem aVk:aje=.seq au5 aji:=rfl
def Na:=aO ajd
def ZD:=aN Na
def GA:=aA ZD
theorem aMw:ZD=.region 3 GA false:=rfl
theorem ajj:K1 GA 0 (.fieldAddr 32 (.tmp 1) 0) 7:=rfl
theorem ajk:K1 GA 1 (.load 2 (.tmp 7)) 8:=rfl
theorem wU:K1 GA 2 (.call {callee:=.value (.func 33),args:=#[.tmp 8,.const (.int .i64 10)],argTypes:=#[2,3]}) 9:=rfl
theorem ajl:K1 GA 3 (.binOp .add 9 (.tmp 9) (.const (.string {data:=#[45]})) 9) 10:=rfl
theorem ajm:K1 GA 4 (.assign (.tmp 10)) 3:=rfl
def Nb:=aO Na
def Nc:=aN Nb
def ZE:=aN Nc
def au6:=aA ZE
theorem aMx:ZE=.region 4 au6 false:=rfl
theorem ajn:K1 au6 0 (.load 32 (.tmp 1)) 11:=rfl
theorem Br:K1 au6 1 (.call {callee:=.value (.func 34),args:=#[.tmp 11],argTypes:=#[32]}) 12:=rfl
def Nd:=aO Nc
def aMy:=eb Nd
def au7:=ee Nd
theorem aMz:au7=.skip:=rfl
theorem aMA:Nd=.cond (.tmp 12) aMy au7:=rfl
theorem aMB:Nc=.seq ZE Nd:=rfl
def Nf:=aO Nb
def ZF:=aN Nf
def Et:=aA ZF
theorem aMC:ZF=.region 6 Et false:=rfl
theorem ajo:K1 Et 0 (.move (.tmp 3)) 14:=rfl
theorem ajp:K1 Et 1 (.fieldAddr 32 (.tmp 1) 1) 15:=rfl
theorem ajq:K1 Et 2 (.load 2 (.tmp 15)) 16:=rfl
theorem wV:K1 Et 3 (.call {callee:=.value (.func 33),args:=#[.tmp 16,.const (.int .i64 10)],argTypes:=#[2,3]}) 17:=rfl
theorem ajr:K1 Et 4 (.binOp .add 9 (.tmp 14) (.tmp 17) 9) 18:=rfl
theorem ajs:K1 Et 5 (.assign (.tmp 18)) 2:=rfl
def au8:=aO Nf
theorem aMD:au8=.ret:=rfl
theorem aME:Nf=.seq ZF au8:=rfl
theorem aMF:Nb=.seq Nc Nf:=rfl
theorem aMG:Na=.seq ZD Nb:=rfl
theorem aVl:ajd=.seq aje Na:=rfl
theorem aVm:T0=.seq au3 ajd:=rfl
theorem aMH:Tryz.f21.body=some T0:=rfl
def Ub:=(Tryz.f22.body).getD .skip
def au9:=aN Ub
def aDc:=aA au9
theorem aVn:au9=.region 0 aDc false:=rfl
theorem ajt:K1 aDc 0 (.assign (.const (.string {data:=#[]}))) 2:=rfl
def aju:=aO Ub
def ava:=aN aju
def mH:=aA ava
theorem aVo:ava=.region 1 mH true:=rfl
theorem Ng:K1 mH 0 (.move (.tmp 0)) 3:=rfl
theorem Nh:K1 mH 1 (.nilCheck (.tmp 3)) 4:=rfl
theorem Ni:K1 mH 2 (.fieldAddr 70 (.tmp 4) 1) 5:=rfl
theorem Nj:K1 mH 3 (.load 25 (.tmp 5)) 6:=rfl
theorem Nk:K1 mH 4 (.call {callee:=.builtin .unsafeSliceData,args:=#[.tmp 6],argTypes:=#[25]}) 7:=rfl
theorem Nl:K1 mH 5 (.move (.tmp 0)) 8:=rfl
theorem Nn:K1 mH 6 (.nilCheck (.tmp 8)) 9:=rfl
theorem Np:K1 mH 7 (.fieldAddr 70 (.tmp 9) 1) 10:=rfl
theorem Nq:K1 mH 8 (.load 25 (.tmp 10)) 11:=rfl
theorem Nr:K1 mH 9 (.call {callee:=.builtin .len,args:=#[.tmp 11],argTypes:=#[25]}) 12:=rfl
theorem qG:K1 mH 10 (.call {callee:=.builtin .unsafeString,args:=#[.tmp 7,.tmp 12],argTypes:=#[93,3]}) 13:=rfl
theorem qH:K1 mH 11 (.assign (.tmp 13)) 2:=rfl
def aDd:=aO aju
theorem aVp:aDd=.ret:=rfl
theorem aVq:aju=.seq ava aDd:=rfl
theorem aVr:Ub=.seq au9 aju:=rfl
theorem aMI:Tryz.f22.body=some Ub:=rfl
def Uc:=(Tryz.f33.body).getD .skip
def avb:=aN Uc
def aDe:=aA avb
theorem aVs:avb=.region 0 aDe false:=rfl
theorem ajv:K1 aDe 0 (.assign (.const (.string {data:=#[]}))) 4:=rfl
def ajw:=aO Uc
def avc:=aN ajw
def Ud:=aA avc
theorem aVt:avc=.region 1 Ud false:=rfl
theorem ajx:K1 Ud 0 (.move (.tmp 0)) 5:=rfl
theorem ajy:K1 Ud 1 (.move (.tmp 1)) 6:=rfl
theorem wW:K1 Ud 2 (.call {callee:=.value (.func 68),args:=#[.tmp 5,.tmp 6],argTypes:=#[2,3]}) 7:=rfl
theorem ajz:K1 Ud 3 (.assign (.tmp 7)) 4:=rfl
def aDf:=aO ajw
theorem aVu:aDf=.ret:=rfl
theorem aVv:ajw=.seq avc aDf:=rfl
theorem aVw:Uc=.seq avb ajw:=rfl
theorem avd:Tryz.f33.body=some Uc:=rfl
def Ue:=(Tryz.f68.body).getD .skip
def ave:=aN Ue
def aDg:=aA ave
theorem aVx:ave=.region 0 aDg false:=rfl
theorem ajA:K1 aDg 0 (.assign (.const (.string {data:=#[]}))) 4:=rfl
def ajB:=aO Ue
def ajC:=aN ajB
def avf:=aN ajC
def avg:=aA avf
theorem aVy:avf=.region 1 avg false:=rfl
theorem ajD:K1 avg 0 (.move (.tmp 1)) 10:=rfl
theorem ajE:K1 avg 1 (.binOp .eql 3 (.tmp 10) (.const (.int .i64 10)) 3) 11:=rfl
def ajF:=aO ajC
def ajG:=eb ajF
def ajH:=aN ajG
def avh:=aN ajH
def Eu:=aA avh
theorem aVz:avh=.region 2 Eu false:=rfl
theorem ajI:K1 Eu 0 (.move (.tmp 0)) 12:=rfl
theorem ajJ:K1 Eu 1 (.binOp .leq 2 (.const (.int .i64 0)) (.tmp 12) 2) 13:=rfl
theorem ajK:K1 Eu 2 (.move (.tmp 13)) 14:=rfl
theorem ajL:KO Eu 3 (.move (.tmp 0)) (some 15) (some (2,true)):=rfl
theorem ajM:KO Eu 4 (.binOp .lss 2 (.tmp 15) (.const (.int .i64 100)) 2) (some 16) (some (2,true)):=rfl
theorem ajN:K1 Eu 5 (.pick (.tmp 14) (.tmp 16) (.const (.bool false))) 17:=rfl
def ajO:=aO ajH
def Ns:=eb ajO
def ZG:=aN Ns
def ajP:=aA ZG
theorem aMJ:ZG=.region 3 ajP false:=rfl
theorem ajQ:K1 ajP 0 (.move (.tmp 0)) 18:=rfl
theorem wX:K1 ajP 1 (.call {callee:=.value (.func 83),args:=#[.tmp 18],argTypes:=#[3]}) 19:=rfl
theorem ajR:K1 ajP 2 (.assign (.tmp 19)) 4:=rfl
def avi:=aO Ns
theorem aMK:avi=.ret:=rfl
theorem aML:Ns=.seq ZG avi:=rfl
def aMM:=ee ajO
theorem aVA:ajO=.cond (.tmp 17) Ns aMM:=rfl
theorem aVB:ajH=.seq avh ajO:=rfl
def aMN:=aO ajG
theorem aVC:ajG=.seq ajH aMN:=rfl
def aMO:=ee ajF
theorem aVD:ajF=.cond (.tmp 11) ajG aMO:=rfl
theorem aVE:ajC=.seq avf ajF:=rfl
def aMP:=aO ajB
theorem aVF:ajB=.seq ajC aMP:=rfl
theorem aVG:Ue=.seq ave ajB:=rfl
theorem aMQ:Tryz.f68.body=some Ue:=rfl
def Uf:=(Tryz.f83.body).getD .skip
def avj:=aN Uf
def aDh:=aA avj
theorem aVH:avj=.region 0 aDh false:=rfl
theorem ajS:K1 aDh 0 (.assign (.const (.string {data:=#[]}))) 2:=rfl
def ajT:=aO Uf
def ajU:=aN ajT
def avk:=aN ajU
def avl:=aA avk
theorem aVI:avk=.region 1 avl false:=rfl
theorem ajV:K1 avl 0 (.move (.tmp 0)) 3:=rfl
theorem ajW:K1 avl 1 (.binOp .lss 3 (.tmp 3) (.const (.int .i64 10)) 3) 4:=rfl
def ajX:=aO ajU
def ajY:=eb ajX
def avm:=aN ajY
def GB:=aA avm
theorem aVJ:avm=.region 2 GB false:=rfl
theorem ajZ:K1 GB 0 (.move (.tmp 0)) 5:=rfl
theorem aj0:K1 GB 1 (.move (.tmp 0)) 6:=rfl
theorem aj1:K1 GB 2 (.binOp .add 3 (.tmp 6) (.const (.int .i64 1)) 3) 7:=rfl
theorem aj2:K1 GB 3 (.slice 9 (.const (.string {data:=#[48,49,50,51,52,53,54,55,56,57,97,98,99,100,101,102,103,104,105,106,107,108,109,110,111,112,113,114,115,116,117,118,119,120,121,122]})) (some (.tmp 5)) (some (.tmp 7)) none) 8:=rfl
theorem aj3:K1 GB 4 (.assign (.tmp 8)) 2:=rfl
def aDi:=aO ajY
theorem aVK:aDi=.ret:=rfl
theorem aVL:ajY=.seq avm aDi:=rfl
def aVM:=ee ajX
theorem aVN:ajX=.cond (.tmp 4) ajY aVM:=rfl
theorem aVO:ajU=.seq avk ajX:=rfl
def aMR:=aO ajT
theorem aVP:ajT=.seq ajU aMR:=rfl
theorem aVQ:Uf=.seq avj ajT:=rfl
theorem aMS:Tryz.f83.body=some Uf:=rfl
def Ug:=(Tryz.f32.body).getD .skip
def avn:=aN Ug
def GC:=aA avn
theorem aVR:avn=.region 0 GC false:=rfl
theorem aj4:K1 GC 0 (.move (.tmp 0)) 2:=rfl
theorem aj5:K1 GC 1 (.nilCheck (.tmp 2)) 3:=rfl
theorem aj6:K1 GC 2 (.fieldAddr 70 (.tmp 3) 0) 4:=rfl
theorem aj7:K1 GC 3 (.load 68 (.tmp 4)) 5:=rfl
theorem aj8:K1 GC 4 (.binOp .eql 68 (.tmp 5) (.const (.pointer none)) 68) 6:=rfl
def aj9:=aO Ug
def avo:=eb aj9
def wY:=aA avo
theorem aVS:avo=.region 1 wY false:=rfl
theorem aka:K1 wY 0 (.move (.tmp 0)) 7:=rfl
theorem akb:K1 wY 1 (.move (.tmp 0)) 8:=rfl
theorem akc:K1 wY 2 (.convert 68 96 (.tmp 8)) 9:=rfl
theorem Bs:K1 wY 3 (.call {callee:=.value (.func 67),args:=#[.tmp 9],argTypes:=#[96]}) 10:=rfl
theorem akd:K1 wY 4 (.convert 96 68 (.tmp 10)) 11:=rfl
theorem ake:K1 wY 5 (.nilCheck (.tmp 7)) 12:=rfl
theorem akf:K1 wY 6 (.fieldAddr 70 (.tmp 12) 0) 13:=rfl
theorem Bt:KO wY 7 (.store 68 (.tmp 13) (.tmp 11)) none none:=rfl
def aVT:=ee aj9
theorem aVU:aj9=.cond (.tmp 6) avo aVT:=rfl
theorem aVV:Ug=.seq avn aj9:=rfl
theorem aMT:Tryz.f32.body=some Ug:=rfl
end
end Go.Proofs.YtmcddajniiaieaaGreatDoor
namespace Go.Proofs.YtmcddajniiaieaaGreatDoor.Rg
open Go.RowKit
def Ext(w w':World):Prop:=Below w.heap.size w w'
theorem Ext.refl(w:World):Ext w w:=Below.refl _ _
theorem Ext.size{w w':World}(h:Ext w w'):w.heap.size<=w'.heap.size:=Below.size h
theorem Ext.trans{a b c:World}(h:Ext a b)(k:Ext b c):Ext a c:=Below.trans h (Below.mono k h.size)
theorem Ext.drew{a w:World}(h:Ext a w):Ext a w.drew:=Below.drew h
theorem Ext.drewN{a w:World}(h:Ext a w)(n:Nat):Ext a (w.drewN n):=⟨h.os,h.tape,h.output,h.size,h.block⟩
theorem Ext.alloc{a w:World}(h:Ext a w)(o:Obj):Ext a (w.alloc o):=Below.alloc h h.size o
theorem Ext.setCell{a w:World}(h:Ext a w){p:Addr}(hp:a.heap.size<=p.block)(u:Value):Ext a (w.setCell p u):=Below.setCell h hp u
theorem gz{w:World}{p:Addr}{u:Value}(h:w.cell? p=some u):p.block<w.heap.size:=by
 rcases Nat.lt_or_ge p.block w.heap.size with hl|hg
 ·exact hl
 ·unfold World.cell? at h;rw [Array.getElem?_eq_none hg]at h;cases h
theorem Ext.cell{w w':World}(h:Ext w w'){p:Addr}{u:Value}(hc:w.cell? p=some u):w'.cell? p=some u:=
 (Below.cell h (gz hc)).trans hc
theorem Ext.frozen{w w':World}(h:Ext w w'){p:Addr}(hp:p.block<w.heap.size):w'.frozen? p=w.frozen? p:=Below.frozen h hp
theorem Ext.block{w w':World}(h:Ext w w'){g:Nat}{o:Obj}(hg:w.heap[g]? =some o):w'.heap[g]? =some o:=by
 have aU:g<w.heap.size:=(Array.getElem?_eq_some_iff.1 hg).1;exact(Below.block h g aU).trans hg
theorem bW{P:Program}{id:Nat}{Q:Exit->Act->World->Prop}{a:Act}{w:World}{l:List Oper}(hm:P.follows .mixedOrders=true)(hB:Region.lexB .any l.toArray=true)
  (h:∀(X:Type) [Nonempty X] (g:X->World),(∀n,Ext w (g n))->(∀w',Ext w w'->∃n,w'=g n)->
   wpQuiet P l.toArray (fun w'=>∃n,w'=g n) (fun a'=>∀w',(∃n,w'=g n)->Q .normal a' w') l a):(Code.region id l.toArray true).wp P Q a w:=by
 have:Nonempty {w':World//Ext w w'}:=⟨⟨w,Ext.refl w⟩⟩;have h1:=h {w':World//Ext w w'} Subtype.val (fun n=>n.2) (fun w' hw=>⟨⟨w',hw⟩,rfl⟩);exact wp_region_quiet (C:=fun w'=>∃n:{w':World//Ext w w'},w'=n.val) hm hB ⟨⟨w.drew,(Ext.refl w).drew⟩,rfl⟩ (by simpa using h1)
theorem Nt{w w':World}(h:w.grownBy w' none):Ext w w':=⟨h.os,h.tape,h.output,h.size,fun k hk=>h.block k hk (by simp)⟩
def yA(w w':World)(v v':Value):Prop:=
 w.grownBy w' v.ownBlock/\(v'.ownBlock=v.ownBlock\/∃k,w.heap.size<=k/\v'.ownBlock=some k)
theorem bX{P:Program}(w:World){ops:Array Oper}{rest:List Oper}{o:Oper}{a:Act}{Q:Exit->Act->World->Prop}(fB:o.guard=none)(s x:Operand)(t:TypeId)
  (ho:o.op=.call {callee:=.builtin .append,args:=#[s,x],argTypes:=#[t,t]})
  (base:Nat)(e:TypeId)(z:Value)(size bytes:Nat)(ht:P.underlying t=some (.slice e))(hi:(P.info? e).map (fun i=>(i.zero,i.size,i.bytes))=some (some z,size,bytes))
  (hzs:z.cells.size=size)(fO:0<size)
  (v:Value)(n:Nat)(xs:List Value)(hs:a.eval s=v)(cd:w.ownsRow base e size v n xs)
  (m c nb:Nat)(hnb:nb=w.heap.size)(cs:Array Value)(hx:a.eval x=.slice (some ⟨nb,0,none⟩) m c)(hl:cs.size=m*size)(h1:∀u∈cs.toList,u.oneCell'=true)
  (CW:n+m<=maxLen)(kH:(n+m)*bytes<=140737488355328)(a2s:base<=w.heap.size)
  (h:∀v' w',w'.ownsRow base e size v' (n+m) (xs++cs.toList)->yA w w' v v'->wpList P ops Q rest (a.put o.dst v') w'):
  wpList P ops Q (o::rest) a (w.alloc (.cells cs e)):=by
 obtain⟨i,hi,hz0,hz1,hz2⟩:=info_parts hi;subst hnb;refine wpList_append_own_at (w.alloc (.cells cs e)) fB s x t ho base e i z size bytes ht hi hz0 hz1 hz2 hzs fO v n xs hs (cd.alloc _) ⟨w.heap.size,0,none⟩ m c cs.toList hx (by simpa using hl)
  (World.news_of_block (heap_alloc_new w _)) h1 CW kH (by simp;omega) ?_
 intro v' w' h2 h3 _ h4;refine h v' w' h2 ⟨(World.grownBy_alloc w _ _).trans h3,?_⟩;rcases h4 with h4|h4
 ·exact .inl h4
 ·exact .inr ⟨_,by simp,h4⟩
theorem ck{w w':World}{base:Nat}{e:TypeId}{size:Nat}{v:Value}{n:Nat}{xs:List Value}(h:w.ownsRow base e size v n xs)(hx:Ext w w'):w'.ownsRow base e size v n xs:=by
 refine⟨h.1,?_⟩;rcases h.2 with h2|⟨g,cap,cur,hv,hg,hh,r⟩
 ·exact .inl h2
 ·exact .inr ⟨g,cap,cur,hv,hg,hx.block hh,r⟩
theorem yA.ext{a b c:World}{v v':Value}(h:Ext a b)(k:yA b c v v'):yA a c v v':=
 ⟨⟨k.1.os.trans h.os,k.1.tape.trans h.tape,k.1.output.trans h.output,Nat.le_trans h.size k.1.size,fun i hi cM=>(k.1.block i (Nat.lt_of_lt_of_le hi h.size) cM).trans (Below.block h i hi)⟩,by
  rcases k.2 with e|⟨j,hj,e⟩
  ·exact .inl e
  ·exact .inr ⟨j,Nat.le_trans h.size hj,e⟩⟩
theorem yA.set{w0 w:World}{g i n c:Nat}(u:Value)(h:Ext w0 w):yA w0 (w.setCell ⟨g,i,none⟩ u) (.slice (some ⟨g,0,none⟩) n c) (.slice (some ⟨g,0,none⟩) n c):=
 ⟨⟨h.os,h.tape,h.output,by simpa [World.setCell]using h.size,fun k hk cM=>(Below.heap_setCell w ⟨g,i,none⟩ u k (fun e=>cM (by simp [Value.ownBlock,e]))).trans (Below.block h k hk)⟩,.inl rfl⟩
theorem iX{w:World}{base:Nat}{e:TypeId}{size:Nat}{v:Value}{n:Nat}{xs:List Value}(h:w.ownsRow base e size v n xs):∃A c,v=.slice A n c/\n<=c:=by
 rcases h.2 with ⟨h1,rfl⟩|⟨g,cap,cur,h1,_,_,hc,_⟩
 ·exact⟨_,_,h1,Nat.le_refl _⟩
 ·exact⟨_,_,h1,hc⟩
theorem wZ(a:Addr)(n:Nat):(a.add n).block=a.block:=by unfold Addr.add;split<;>rfl
theorem ZH(a:Addr)(i j:Nat):(a.add i).add j=a.add (i+j):=by
 unfold Addr.add;by_cases hi:i=0<;>by_cases hj:j=0<;>simp [hi,hj,Nat.add_assoc]
def Reads(w:World)(B size:Nat)(A:Option Addr)(n:Nat)(xs:List Value):Prop:=
 xs.length=n*size/\(0<n->∃ad,A=some ad/\ad.block<B/\∀j u,xs[j]? =some u->w.cell? (ad.add j)=some u)
section
variable {w w':World} {B size n:Nat} {A:Option Addr} {xs:List Value}
theorem Reads.none_:Reads w B size A 0 []:=⟨by simp,fun h=>absurd h (by omega)⟩
theorem Reads.at_{k:Nat}(h:Reads w B 1 A n xs)(hk:k<n):∃ad u,A=some ad/\ad.block<B/\xs[k]? =some u/\w.cell? (ad.add k)=some u:=by
 obtain⟨ad,e,hb,hc⟩:=h.2 (by omega)
 have hl:k<xs.length:=by have:=h.1;omega
 exact⟨ad,xs[k],e,hb,List.getElem?_eq_getElem hl,hc k _ (List.getElem?_eq_getElem hl)⟩
theorem Reads.keep(h:Reads w B size A n xs)(hk:∀p:Addr,p.block<B->w'.cell? p=w.cell? p):Reads w' B size A n xs:=
 ⟨h.1,fun hn=>by
  obtain⟨ad,e,hb,hc⟩:=h.2 hn;exact⟨ad,e,hb,fun j u hu=>(hk _ (by rw [wZ];exact hb)).trans (hc j u hu)⟩⟩
theorem Reads.drew(h:Reads w B size A n xs):Reads w.drew B size A n xs:=h
theorem Reads.drewN(h:Reads w B size A n xs)(k:Nat):Reads (w.drewN k) B size A n xs:=h
theorem Reads.alloc(h:Reads w B size A n xs)(hB:B<=w.heap.size)(o:Obj):Reads (w.alloc o) B size A n xs:=h.keep fun p hp=>World.cell?_alloc_lt w o p (by omega)
theorem Reads.setCell(h:Reads w B size A n xs){p:Addr}(hB:B<=p.block)(u:Value):Reads (w.setCell p u) B size A n xs:=
 h.keep fun q hq=>World.cell?_setCell_other w p q u (fun e=>by subst e;omega)
theorem Reads.grown(h:Reads w B size A n xs){row:Option Nat}(hg:w.grownBy w' row)(hB:B<=w.heap.size)(hr:∀g,row=some g->B<=g):Reads w' B size A n xs:=
 h.keep fun p hp=>World.cell?_of_block (hg.block p.block (by omega) (fun e=>by have:=hr _ e.symm;omega))
theorem Reads.cut(h:Reads w B size A n xs){k cap:Nat}(hk:k<=n)(hc:n<=cap):
  Reads w B size (if cap=k then A else A.map (·.add (k*size))) (n-k) (xs.drop (k*size)):=by
 refine⟨by rw [List.length_drop,h.1,Nat.sub_mul],fun hn=>?_⟩
 obtain⟨ad,rfl,hb,jz⟩:=h.2 (by omega)
 rw [if_neg (by omega)]
 refine⟨ad.add (k*size),rfl,by rw [wZ];exact hb,fun j u hu=>?_⟩
 rw [ZH];exact jz _ u (by rw [←hu,List.getElem?_drop])
end
section
variable (w:World)
end
theorem fX{w0 w w':World}{e:TypeId}{size n:Nat}{v v':Value}{xs:List Value}(h:Ext w0 w)(ho:w.ownsRow w0.heap.size e size v n xs)(hm:yA w w' v v'):Ext w0 w':=
 ⟨hm.1.os.trans h.os,hm.1.tape.trans h.tape,hm.1.output.trans h.output,Nat.le_trans h.size hm.1.size,fun k hk=>(hm.1.block k (Nat.lt_of_lt_of_le hk h.size) (fun e1=>by
  rcases ho.2 with ⟨rfl,_⟩|⟨g,cap,cur,rfl,hb,_,_⟩
  ·simp [Value.ownBlock]at e1
  ·simp [Value.ownBlock]at e1;omega)).trans (Below.block h k hk)⟩
theorem jG{w w':World}{base:Nat}{e:TypeId}{size n:Nat}{v v':Value}{xs:List Value}(ho:w.ownsRow base e size v n xs)(hm:yA w w' v v'){p:Addr}{u:Value}(hp:p.block<base)(hc:w.cell? p=some u):w'.cell? p=some u:=by
 refine(hm.1.cell_far p (gz hc) (fun e1=>?_)).trans hc;rcases ho.2 with ⟨rfl,_⟩|⟨g,cap,cur,rfl,hb,_,_⟩
 ·simp [Value.ownBlock]at e1
 ·simp [Value.ownBlock]at e1;omega
end Go.Proofs.YtmcddajniiaieaaGreatDoor.Rg
namespace Go.Proofs.YtmcddajniiaieaaGreatDoor
open Go Go.Conc Go.ConcM Go.Proofs.Tryz Sim
section
variable {F:FuncId->Bool} {U:Nat->Prop} {ρ:dF} {n:Nat}
theorem VR.same{v v' v'':Value}(h:VR F U ρ n v v'){db:dF}{n':Nat}(k:VR F U db n' v v'')(hn:n<=n')(e:∀r,r<n->db r=ρ r):v''=v':=by
 induction h generalizing v'' with
 |bool b=>cases k;rfl
 |int a b=>cases k;rfl
 |string s=>cases k;rfl
 |gZ=>cases k;rfl
 |ptr a ha=>cases k with|ptr _ hb=>unfold ra;rw [e _ ha.1]
 |dU l c=>cases k;rfl
 |slice a l c ha=>cases k with|slice _ _ _ hb=>unfold ra;rw [e _ ha.1]
 |func f hf=>cases k;rfl
 |nilFunc=>cases k;rfl
 |agg cs cL hs _ ih=>
  cases k with
  |agg _ cs2 hs2 h2=>
   congr 1;apply Array.ext (hs2.symm.trans hs);intro i h1 h3;have:=ih i (by omega) (h2 i (by omega))
   simpa [Array.getD_eq_getD_getElem?,Array.getElem?_eq_getElem h1,Array.getElem?_eq_getElem h3]using this
 |tuple cs cL hs _ ih=>
  cases k with
  |tuple _ cs2 hs2 h2=>
   congr 1;apply Array.ext (hs2.symm.trans hs);intro i h1 h3;have:=ih i (by omega) (h2 i (by omega))
   simpa [Array.getD_eq_getD_getElem?,Array.getElem?_eq_getElem h1,Array.getElem?_eq_getElem h3]using this
theorem AR.same{c c' c'':Array Value}(h:AR F U ρ n c c'){db:dF}{n':Nat}(k:AR F U db n' c c'')(hn:n<=n')(e:∀r,r<n->db r=ρ r):c''=c':=by
 apply Array.ext (k.size.symm.trans h.size);intro i h1 h3;have:=VR.same (h.at_ i (by have:=h.size;omega)) (k.at_ i (by have:=h.size;omega)) hn e
 simpa [Array.getD_eq_getD_getElem?,Array.getElem?_eq_getElem h1,Array.getElem?_eq_getElem h3]using this
end
section
variable {main:Bool} {Stop:View->Goroutine->World->Prop} {V:View} {w:World} {S:Act->List Item->Frame} {a:Act} {k:List Item} {cs:List Frame} {ops:Array Oper} {i d:Nat} {rest:List Nat} {o:Oper}
structure Closed(V:View)(w:World)(X:Nat->Prop):Prop where
 tt:∀b,X b->prog.globals.size<=b
 at_:∀b,X b->V.own b/\∃o,w.heap[b]? =some o/\OR Fw X (fun r=>r) w.heap.size o o
instance {V:View} {w:World} {X:Nat->Prop}:CoeFun (Closed V w X) (fun _=>∀b,X b->V.own b/\∃o,w.heap[b]? =some o/\OR Fw X (fun r=>r) w.heap.size o o):=⟨Closed.at_⟩
theorem VR.gF{X Y:Nat->Prop}{m m':Nat}{v v':Value}(h:VR Fw X (fun r=>r) m v v')(hXY:∀b,X b->Y b)(hm:m<=m'):VR Fw Y (fun r=>r) m' v v':=by
 induction h with
 |bool b=>exact .bool b
 |int k x=>exact .int k x
 |string s=>exact .string s
 |gZ=>exact .gZ
 |ptr a h=>exact .ptr a ⟨Nat.lt_of_lt_of_le h.1 hm,hXY _ h.2⟩
 |dU l c=>exact .dU l c
 |slice a l c h=>exact .slice a l c ⟨Nat.lt_of_lt_of_le h.1 hm,hXY _ h.2⟩
 |func f h=>exact .func f h
 |nilFunc=>exact .nilFunc
 |agg cs cL hs _ ih=>exact .agg cs cL hs ih
 |tuple cs cL hs _ ih=>exact .tuple cs cL hs ih
theorem AR.gF{X Y:Nat->Prop}{m m':Nat}{c c':Array Value}(h:AR Fw X (fun r=>r) m c c')(hXY:∀b,X b->Y b)(hm:m<=m'):AR Fw Y (fun r=>r) m' c c':=⟨h.size,fun i hi=>VR.gF (h.at_ i hi) hXY hm⟩
theorem OR.gF{X Y:Nat->Prop}{m m':Nat}{o o':Obj}(h:OR Fw X (fun r=>r) m o o')(hXY:∀b,X b->Y b)(hm:m<=m'):OR Fw Y (fun r=>r) m' o o':=by
 cases h with
 |cells c c' e fr eF h hf=>exact .cells c c' e fr eF ⟨h.size,fun i hi=>VR.gF (h.at_ i hi) hXY hm⟩ hf
 |number a l h=>exact .number a l ⟨Nat.lt_of_lt_of_le h.1 hm,hXY _ h.2⟩
theorem VR.image{U:Nat->Prop}{ρ:dF}{n m:Nat}{v v':Value}(h:VR Fw U ρ n v v')(hm:∀r,r<n->U r->ρ r<m):VR Fw (fun b=>∃r,r<n/\U r/\ρ r=b) (fun r=>r) m v' v':=by
 induction h with
 |bool b=>exact .bool b
 |int k x=>exact .int k x
 |string s=>exact .string s
 |gZ=>exact .gZ
 |ptr a h=>exact .ptr (ra ρ a) ⟨hm _ h.1 h.2,a.block,h.1,h.2,rfl⟩
 |dU l c=>exact .dU l c
 |slice a l c h=>exact .slice (ra ρ a) l c ⟨hm _ h.1 h.2,a.block,h.1,h.2,rfl⟩
 |func f h=>exact .func f h
 |nilFunc=>exact .nilFunc
 |agg cs cL hs _ ih=>exact .agg cL cL rfl fun i hi=>ih i (by omega)
 |tuple cs cL hs _ ih=>exact .tuple cL cL rfl fun i hi=>ih i (by omega)
theorem OR.image{U:Nat->Prop}{ρ:dF}{n m:Nat}{o o':Obj}(h:OR Fw U ρ n o o')(hm:∀r,r<n->U r->ρ r<m):OR Fw (fun b=>∃r,r<n/\U r/\ρ r=b) (fun r=>r) m o' o':=by
 cases h with
 |cells c c' e fr eF h hf=>exact .cells c' c' e eF eF ⟨rfl,fun i hi=>VR.image (h.at_ i (by have:=h.size;omega)) hm⟩ fun i hi=>hi
 |number a l h=>exact .number (ra ρ a) l ⟨hm _ h.1 h.2,a.block,h.1,h.2,rfl⟩
theorem Uh{X:Nat->Prop}{wl w':World}{vl v:Value}{ρ:dF}{n:Nat}{V':View}(hgl:prog.globals.size<=w.heap.size)(hXg:∀b,X b->prog.globals.size<=b)(hX:∀b,X b->b<w.heap.size/\V'.own b)(h:alq Fw X V w wl w.heap.size vl ρ n v w')(hn:∀r,w.heap.size<=r->r<n->V'.own (ρ r))(fO:w.heap.size<=w'.heap.size):
  Closed V' w' (fun b=>∃r,r<n/\(X r\/w.heap.size<=r)/\ρ r=b):=by
 have aU:∀r,r<n->(X r\/w.heap.size<=r)->ρ r<w'.heap.size:=fun r hr hu=>by
  by_cases jU:r<w.heap.size
  ·rw [h.old r jU];omega
  ·exact(h.fresh r (by omega) hr).2
 refine⟨fun b=>?_,?_⟩
 ·rintro⟨r,h1,h2,rfl⟩;by_cases jU:r<w.heap.size
  ·rw [h.old r jU];exact h2.elim (hXg r) fun x=>Nat.le_trans hgl x
  ·exact Nat.le_trans hgl (h.fresh r (by omega) h1).1
 rintro b ⟨r,h1,h2,rfl⟩;obtain⟨o,o',b1,b2,b3⟩:=h.blk r h1 h2;refine⟨?_,o',b2,OR.image b3 aU⟩;by_cases jU:r<w.heap.size
 ·rcases h2 with h2|h2
  ·rw [h.old r jU];exact(hX r h2).2
  ·omega
 ·exact hn r (by omega) h1
theorem alI{X:Nat->Prop}{wl w':World}{vl v:Value}{ρ:dF}{n:Nat}{t:Nat->Question->Nat}(hT:Tidy V w)(hX:Closed V w X)
  (hx:Rg.Ext (tp (ik X w) t) wl)(h:alq Fw X V w wl w.heap.size vl ρ n v w'):aG aI aD V w (grown V ρ w.heap.size n) w':=by
 classical
 refine⟨h.kept.tape,h.kept.output,h.kept.os,h.kept.size,h.kept.kind,fun b hb _=>?_,fun ad ha _=>h.kept.cell ad ha (ha.elim (hT.low.ro ad) (hT.low.wc ad)),fun b hb=>.inl hb,?_,rfl,rfl,rfl⟩
 ·have aU:=hT.low.own b hb;by_cases hXb:X b
  ·obtain⟨o0,h1,h2⟩:=(hX b hXb).2;obtain⟨o,o',b1,b2,b3⟩:=h.blk b (Nat.lt_of_lt_of_le aU h.le) (.inl hXb);have hm:(tp (ik X w) t).heap[b]? =some o0:=by rw [tP,qZ,h1];simp [hXb]
   have b1':=(Rg.Ext.block hx hm).symm.trans b1;cases b1';rw [h.old b aU]at b2;cases h2 with
   |cells c _ e fr _ h2 _=>
    obtain⟨c',k1,k2⟩:=h.kept.kind b c e fr h1;rw [k1]at b2;cases b2;cases b3 with
    |cells _ _ _ _ _ ha hf=>
     have:=AR.same (AR.gF h2 (fun b h=>.inl h) (Nat.le_refl _)) ha h.le fun r hr=>h.old r hr;rw [k1,h1,this]
   |number a l h2=>
    cases b3 with
    |number _ _ ha=>rw [b2,h1];unfold ra;rw [h.old a.block h2.1]
  ·exact h.kept.own b hb hXb aU
 ·rintro b (x|⟨r,h1,h2,rfl⟩)
  ·exact .inl x
  ·exact .inr (h.fresh r h1 h2)
theorem ZI{f:FuncId}{xs:Array Operand}{gY:Array TypeId}(X:Nat->Prop)(ho:ops[i]? =some o)(hw:Region.wanted o (yielded ops a.tmps)=true)(hS:fg prog main S)(aE:o.op=.call {callee:=.value (.func f),args:=xs,argTypes:=gY})(hd:o.dst=some d)(aU:d<a.tmps.size)
  (hf:Fw f=true)(hT:Tidy V w)(hX:Closed V w X)
  (sb:AR Fw (fun b=>X b\/w.heap.size<=b) (fun r=>r) w.heap.size (xs.map a.eval) (xs.map a.eval)){R:Value->World->Prop}
  (hl:∀t,Calls prog f (xs.map a.eval) (tp (ik X w) t) fun e wl=>∃v,e=.returned v/\Rg.Ext (tp (ik X w) t) wl/\R v wl)
  (K:∀vl wl ρ n a' V' w',R vl wl->alq Fw X V w wl w.heap.size vl ρ n (a'.eval (.tmp d)) w'->a'.tmps.size=a.tmps.size->a'.defers=a.defers->(∀j,d≠j->a'.eval (.tmp j)=a.eval (.tmp j))->aG aI aD V w V' w'->Tidy V' w'->
   Closed V' w' (fun b=>∃r,r<n/\(X r\/w.heap.size<=r)/\ρ r=b)->Loc prog main Stop V' (G (S a' (.inRegion ops rest::k)) cs) w'):
  Loc prog main Stop V (G (S a (.inRegion ops (i::rest)::k)) cs) w:=by
 obtain⟨fn,c,h1,h2,h3,h4⟩:=Wl f hf;refine ao2 ho hw hS aE h1 h4 h2 (alr (R:=fun v wl=>∃t,Rg.Ext (tp (ik X w) t) wl/\R v wl) aQz ayh hf hT.gl (fun b hb=>(hX b hb).1) (fun b hb=>⟨hX.tt b hb,hT.low.own b (hX b hb).1⟩) (fun ad ha hx=>hT.fV ad ha (hX _ hx).1) (fun b hb=>let⟨o,h1,h2⟩:=(hX b hb).2;⟨o,h1,OR.gF h2 (fun _=>.inl) (Nat.le_refl _)⟩) sb (fun t=>(hl t).mono ?_) fun vl wl ρ n v w' hR hB=>?_)
 ·rintro e wl ⟨v,rfl,hx,hR⟩;exact⟨v,rfl,t,hx,hR⟩
 ·obtain⟨t,hx,hR⟩:=hR;have hW:=alI hT hX hx hB;rw [hS.finish,ho];have u:=bj a o.dst v;have hv:(a.put o.dst v).eval (.tmp d)=v:=u.eq d hd aU;exact K vl wl ρ n _ _ w' hR (by rw [show((some o).bind fun x=>x.dst)=o.dst from rfl,hv];exact hB) u.size u.defers (fun j hj=>u.ne j (by rw [hd];intro h;exact hj (Option.some.inj h))) hW (hT.aC hW) (Uh hT.gl hX.tt (fun b hb=>⟨hT.low.own b (hX b hb).1,.inl (hX b hb).1⟩) hB (fun r h1 h2=>.inr ⟨r,h1,h2,rfl⟩) hB.kept.size)
end
end Go.Proofs.YtmcddajniiaieaaGreatDoor
namespace Go.Proofs.YtmcddajniiaieaaGreatDoor.Rg
structure Sp where
 f:Int
 t:Int
 deriving DecidableEq,Inhabited
def Sp.ok(s:Sp):Prop:=0<=s.f/\s.f<s.t/\s.t<=4611686018427387904
instance (s:Sp):Decidable s.ok:=inferInstanceAs (Decidable (_/\_/\_))
def Mem(l:List Sp)(x:Int):Prop:=∃s∈l,s.f<=x/\x<s.t
def Norm(l:List Sp):Prop:=(∀s∈l,s.ok)/\l.Pairwise (fun a b=>a.t<b.f)
theorem rC(x:Int):¬Mem [] x:=by simp [Mem]
theorem mem_cons{s:Sp}{l:List Sp}{x:Int}:Mem (s::l) x↔(s.f<=x/\x<s.t)\/Mem l x:=by simp [Mem]
theorem mem_append{a b:List Sp}{x:Int}:Mem (a++b) x↔Mem a x\/Mem b x:=by
 simp only [Mem,List.mem_append];constructor
 ·rintro⟨s,h|h,k⟩
  ·exact .inl ⟨s,h,k⟩
  ·exact .inr ⟨s,h,k⟩
 ·rintro(⟨s,h,k⟩|⟨s,h,k⟩)
  ·exact⟨s,.inl h,k⟩
  ·exact⟨s,.inr h,k⟩
theorem kT:Norm []:=⟨by simp,List.Pairwise.nil⟩
theorem Ev{s:Sp}(h:s.ok):Norm [s]:=⟨by simpa using h,by simp⟩
theorem iY{s:Sp}{l:List Sp}:Norm (s::l)↔s.ok/\(∀u∈l,s.t<u.f)/\Norm l:=by
 unfold Norm;rw [List.pairwise_cons];simp only [List.mem_cons,forall_eq_or_imp];constructor
 ·rintro⟨⟨a,b⟩,c,d⟩;exact⟨a,c,b,d⟩
 ·rintro⟨a,c,b,d⟩;exact⟨⟨a,b⟩,c,d⟩
theorem mI{s:Sp}{l:List Sp}:Norm (l++[s])↔Norm l/\s.ok/\∀u∈l,u.t<s.f:=by
 unfold Norm;rw [List.pairwise_append];simp only [List.mem_append,List.mem_singleton,forall_eq];constructor
 ·rintro⟨a,b,_,d⟩;exact⟨⟨fun u hu=>a u (.inl hu),b⟩,a s (.inr rfl),fun u hu=>d u hu⟩
 ·rintro⟨⟨a,b⟩,c,d⟩;exact⟨fun u hu=>hu.elim (a u) (fun e=>e▸c),b,by simp,fun u hu=>d u hu⟩
theorem Norm.get{l:List Sp}(h:Norm l){i:Nat}(hi:i<l.length):0<=l[i].f/\l[i].f<l[i].t/\l[i].t<=4611686018427387904:=h.1 _ (List.getElem_mem hi)
theorem Norm.lt{l:List Sp}(h:Norm l){i j:Nat}(hij:i<j)(hj:j<l.length):l[i].t<l[j].f:=List.pairwise_iff_getElem.1 h.2 i j (by omega) hj hij
theorem Norm.take{l:List Sp}(h:Norm l)(k:Nat):Norm (l.take k):=⟨fun s hs=>h.1 s (List.mem_of_mem_take hs),h.2.sublist (List.take_sublist _ _)⟩
theorem Norm.drop{l:List Sp}(h:Norm l)(k:Nat):Norm (l.drop k):=⟨fun s hs=>h.1 s (List.mem_of_mem_drop hs),h.2.sublist (List.drop_sublist _ _)⟩
theorem qI{a b:List Sp}(ha:Norm a)(hb:Norm b)(h:∀x,Mem a x↔Mem b x):a=b:=by
 induction a generalizing b with
 |nil=>
  cases b with
  |nil=>rfl
  |cons u b=>
   have hu:=(iY.1 hb).1;exact absurd ((h u.f).2 (mem_cons.2 (.inl ⟨Int.le_refl _,hu.2.1⟩))) (rC _)
 |cons s a ih=>
  obtain⟨hs,hsa,hna⟩:=iY.1 ha;have low:∀{s:Sp} {l:List Sp},(∀u∈l,s.t<u.f)->s.ok->∀x,Mem (s::l) x->s.f<=x:=by
   intro s l h1 h2 x hx;rcases mem_cons.1 hx with hx|⟨u,hu,hx⟩
   ·exact hx.1
   ·have:=h1 u hu;have:=h2.2.1;omega
  have gap:∀{s:Sp} {l:List Sp},(∀u∈l,s.t<u.f)->¬Mem (s::l) s.t:=by
   intro s l h1 hx;rcases mem_cons.1 hx with hx|⟨u,hu,hx⟩
   ·omega
   ·have:=h1 u hu;omega
  cases b with
  |nil=>exact absurd ((h s.f).1 (mem_cons.2 (.inl ⟨Int.le_refl _,hs.2.1⟩))) (rC _)
  |cons u b=>
   obtain⟨hu,Vb,hnb⟩:=iY.1 hb;have e1:s.f=u.f:=by
    have h1:=low Vb hu s.f ((h _).1 (mem_cons.2 (.inl ⟨Int.le_refl _,hs.2.1⟩)));have h2:=low hsa hs u.f ((h _).2 (mem_cons.2 (.inl ⟨Int.le_refl _,hu.2.1⟩)));omega
   have e2:s.t=u.t:=by
    rcases Int.lt_trichotomy s.t u.t with h1|h1|h1
    ·exact absurd ((h s.t).2 (mem_cons.2 (.inl ⟨by have:=hs.2.1;omega,h1⟩))) (gap hsa)
    ·exact h1
    ·exact absurd ((h u.t).1 (mem_cons.2 (.inl ⟨by have:=hu.2.1;omega,h1⟩))) (gap Vb)
   have e:s=u:=by cases s;cases u;simp_all
   subst e;rw [ih hna hnb (fun x=>?_)];constructor
   ·intro hx;rcases mem_cons.1 ((h x).1 (mem_cons.2 (.inr hx)))with h1|h1
    ·obtain⟨v,hv,hx⟩:=hx;have:=hsa v hv;omega
    ·exact h1
   ·intro hx;rcases mem_cons.1 ((h x).2 (mem_cons.2 (.inr hx)))with h1|h1
    ·obtain⟨v,hv,hx⟩:=hx;have:=Vb v hv;omega
    ·exact h1
def ins(s:Sp):List Sp->List Sp
 |[]=>[s]
 |u::l=>if s.t<u.f then s::u::l else if u.t<s.f then u::ins s l else ins ⟨min s.f u.f,max s.t u.t⟩ l
theorem azz(s:Sp)(l:List Sp)(hs:s.f<s.t)(hl:∀u∈l,u.f<u.t)(x:Int):Mem (ins s l) x↔(s.f<=x/\x<s.t)\/Mem l x:=by
 induction l generalizing s with
 |nil=>simp [ins,Mem]
 |cons u l ih=>
  have hu:u.f<u.t:=hl u (by simp)
  have hl':∀v∈l,v.f<v.t:=fun v hv=>hl v (by simp [hv])
  unfold ins;by_cases h1:s.t<u.f
  ·rw [if_pos h1,mem_cons]
  ·rw [if_neg h1];by_cases h2:u.t<s.f
   ·rw [if_pos h2,mem_cons,mem_cons,ih s hs hl'];constructor<;>(rintro(h|h|h)<;>simp [h])
   ·rw [if_neg h2,ih _ (by show min s.f u.f<max s.t u.t;omega) hl',mem_cons]
    constructor
    ·rintro(h|h)
     ·have h3:min s.f u.f<=x/\x<max s.t u.t:=h;by_cases h4:s.f<=x/\x<s.t
      ·exact .inl h4
      ·exact .inr (.inl (by omega))
     ·exact .inr (.inr h)
    ·rintro(h|h|h)
     ·exact .inl (by show min s.f u.f<=x/\x<max s.t u.t;omega)
     ·exact .inl (by show min s.f u.f<=x/\x<max s.t u.t;omega)
     ·exact .inr h
theorem avp(s:Sp)(l:List Sp)(hs:s.ok)(hl:Norm l):Norm (ins s l)/\∀b:Int,b<s.f->(∀u∈l,b<u.f)->∀u∈ins s l,b<u.f:=by
 induction l generalizing s with
 |nil=>exact⟨Ev hs,fun b hb _ u hu=>by simp [ins]at hu;subst hu;exact hb⟩
 |cons u l ih=>
  obtain⟨hu,hul,hnl⟩:=iY.1 hl;unfold ins;by_cases h1:s.t<u.f
  ·rw [if_pos h1];refine⟨iY.2 ⟨hs,?_,hl⟩,?_⟩
   ·intro v hv;rcases List.mem_cons.1 hv with rfl|hv
    ·exact h1
    ·have:=hul v hv;have:=hu.2.1;omega
   ·intro b hb hbl v hv;rcases List.mem_cons.1 hv with rfl|hv
    ·exact hb
    ·exact hbl v hv
  ·rw [if_neg h1];by_cases h2:u.t<s.f
   ·rw [if_pos h2];have hi:=ih s hs hnl;refine⟨iY.2 ⟨hu,hi.2 u.t h2 hul,hi.1⟩,?_⟩;intro b hb hbl v hv;rcases List.mem_cons.1 hv with rfl|hv
    ·exact hbl v (by simp)
    ·exact hi.2 b hb (fun y hy=>hbl y (by simp [hy])) v hv
   ·rw [if_neg h2];obtain⟨a1,a2,a3⟩:=hs;obtain⟨b1,b2,b3⟩:=hu;have hi:=ih ⟨min s.f u.f,max s.t u.t⟩ ⟨by show 0<=min s.f u.f;omega,by show min s.f u.f<max s.t u.t;omega,by show max s.t u.t<=_;omega⟩ hnl
    refine⟨hi.1,?_⟩;intro b hb hbl v hv;have hbu:=hbl u (by simp)
    exact hi.2 b (by show b<min s.f u.f;omega) (fun y hy=>hbl y (by simp [hy])) v hv
theorem ZJ(s:Sp)(l:List Sp):(ins s l).length<=l.length+1:=by
 induction l generalizing s with
 |nil=>simp [ins]
 |cons u l ih=>
  unfold ins;split
  ·simp
  ·split
   ·have:=ih s;simp;omega
   ·have:=ih ⟨min s.f u.f,max s.t u.t⟩;simp;omega
def nG(l:List Sp):List Sp:=(l.filter fun s=>decide s.ok).foldr ins []
theorem GD(l:List Sp)(b:List Sp)(hl:∀s∈l,s.ok)(hb:Norm b):Norm (l.foldr ins b)/\(∀x,Mem (l.foldr ins b) x↔Mem l x\/Mem b x)/\(l.foldr ins b).length<=l.length+b.length:=by
 induction l with
 |nil=>exact⟨hb,fun x=>by simp [Mem],by simp⟩
 |cons s l ih=>
  obtain⟨h1,h2,h3⟩:=ih (fun u hu=>hl u (by simp [hu]))
  have hs:=hl s (by simp)
  refine⟨(avp s _ hs h1).1,fun x=>?_,?_⟩
  ·show Mem (ins s _) x↔_
   rw [azz s _ hs.2.1 (fun u hu=>(h1.1 u hu).2.1),h2,mem_cons];constructor
   ·rintro(h|h|h)<;>simp [h]
   ·rintro((h|h)|h)<;>simp [h]
  ·have:=ZJ s (l.foldr ins b);show(ins s _).length<=_
   simp;omega
theorem lG(l:List Sp):Norm (nG l):=(GD _ [] (fun s hs=>by simpa using (List.mem_filter.1 hs).2) kT).1
theorem mem_of(l:List Sp)(x:Int):Mem (nG l) x↔∃s∈l,s.ok/\s.f<=x/\x<s.t:=by
 unfold nG;rw [(GD _ [] (fun s hs=>by simpa using (List.mem_filter.1 hs).2) kT).2.1]
 simp only [Mem,List.mem_filter,List.not_mem_nil,false_and,exists_false,or_false,decide_eq_true_eq];constructor
 ·rintro⟨s,⟨h1,h2⟩,h3⟩;exact⟨s,h1,h2,h3⟩
 ·rintro⟨s,h1,h2,h3⟩;exact⟨s,⟨h1,h2⟩,h3⟩
def yT(a b:List Sp):List Sp:=nG (a++b)
def od(a b:List Sp):List Sp:=nG (a.flatMap fun s=>b.map fun u=>⟨max s.f u.f,min s.t u.t⟩)
theorem Nu(a b:List Sp):Norm (yT a b):=lG _
theorem Ew(a b:List Sp):Norm (od a b):=lG _
theorem Ui{l:List Sp}(h:Norm l)(x:Int):Mem (nG l) x↔Mem l x:=by
 rw [mem_of];exact⟨fun⟨s,h1,_,h3⟩=>⟨s,h1,h3⟩,fun⟨s,h1,h3⟩=>⟨s,h1,h.1 s h1,h3⟩⟩
theorem azA{l:List Sp}(h:Norm l):nG l=l:=qI (lG l) h (Ui h)
theorem avq{a b:List Sp}(ha:Norm a)(hb:Norm b)(x:Int):Mem (yT a b) x↔Mem a x\/Mem b x:=by
 unfold yT;rw [mem_of];simp only [List.mem_append];constructor
 ·rintro⟨s,h|h,_,h3⟩
  ·exact .inl ⟨s,h,h3⟩
  ·exact .inr ⟨s,h,h3⟩
 ·rintro(⟨s,h,h3⟩|⟨s,h,h3⟩)
  ·exact⟨s,.inl h,ha.1 s h,h3⟩
  ·exact⟨s,.inr h,hb.1 s h,h3⟩
theorem akg{a b:List Sp}(ha:Norm a)(hb:Norm b)(x:Int):Mem (od a b) x↔Mem a x/\Mem b x:=by
 unfold od;rw [mem_of];simp only [List.mem_flatMap,List.mem_map];constructor
 ·rintro⟨s,⟨u,hu,v,hv,rfl⟩,_,h3⟩;have h3':max u.f v.f<=x/\x<min u.t v.t:=h3;exact⟨⟨u,hu,by omega⟩,⟨v,hv,by omega⟩⟩
 ·rintro⟨⟨u,hu,h1⟩,⟨v,hv,h2⟩⟩;obtain⟨a1,a2,a3⟩:=ha.1 u hu;obtain⟨b1,b2,b3⟩:=hb.1 v hv;exact⟨⟨max u.f v.f,min u.t v.t⟩,⟨u,hu,v,hv,rfl⟩,⟨by show 0<=max u.f v.f;omega,by show max u.f v.f<min u.t v.t;omega,by show min u.t v.t<=_;omega⟩,by show max u.f v.f<=x/\x<min u.t v.t;omega⟩
theorem alJ{l:List Sp}{q:Sp}(h:Norm (l++[q])):∀u∈l++[q],u.t<=q.t:=by
 obtain⟨_,h2,h3⟩:=mI.1 h;intro u hu;rcases List.mem_append.1 hu with hu|hu
 ·have:=h3 u hu;have:=h2.2.1;omega
 ·simp at hu;subst hu;exact Int.le_refl _
def sn(L:List Sp)(x:Sp):List Sp:=
 match L.getLast? with
 |some q=>if x.f<=q.t then L.dropLast++[⟨q.f,max q.t x.t⟩]else L++[x]
 |none=>[x]
def mJ(l:List Sp):List Sp:=l.foldl sn []
theorem GF(l:List Sp)(x:Sp):mJ (l++[x])=sn (mJ l) x:=by simp [mJ]
theorem GG(x:Sp):sn [] x=[x]:=rfl
theorem nH(L:List Sp)(q x:Sp):sn (L++[q]) x=if x.f<=q.t then L++[⟨q.f,max q.t x.t⟩]else(L++[q])++[x]:=by simp [sn]
theorem Uj(l:List Sp):(mJ l).length<=l.length:=by
 suffices h:∀(l:List Sp) (L:List Sp),(l.foldl sn L).length<=L.length+l.length by have:=h l [];simp at this;exact this
 intro l;induction l with
 |nil=>intro L;simp
 |cons x l ih=>
  intro L;have h1:=ih (sn L x);have h2:(sn L x).length<=L.length+1:=by
   rcases List.eq_nil_or_concat L with rfl|⟨L,q,rfl⟩
   ·simp [sn]
   ·rw [List.concat_eq_append,nH];split<;>simp
  simp only [List.foldl_cons,List.length_cons];omega
theorem avr{P:List Sp->Prop}(h0:P [])(h1:∀l x,P l->P (l++[x]))(l:List Sp):P l:=by
 have h:∀n (l:List Sp),l.length=n->P l:=by
  intro n;induction n with
  |zero=>intro l hl;rw [List.eq_nil_of_length_eq_zero hl];exact h0
  |succ n ih=>
   intro l hl;rcases List.eq_nil_or_concat l with rfl|⟨L,q,rfl⟩
   ·simp at hl
   ·rw [List.concat_eq_append]at*;exact h1 L q (ih L (by simpa using hl))
 exact h _ l rfl
def yb(l:List Sp):Prop:=l.Pairwise fun a b=>a.f<=b.f
theorem avs(l:List Sp)(hk:∀s∈l,s.ok)(hr:yb l):Norm (mJ l)/\(∀x,Mem (mJ l) x↔Mem l x)/\∀s∈mJ l,∃u∈l,u.f=s.f:=by
 induction l using avr with
 |h0=>exact⟨kT,fun x=>Iff.rfl,by simp [mJ]⟩
 |h1 l x ih=>
  obtain⟨yL,_,hr2⟩:=List.pairwise_append.1 hr;obtain⟨h1,h2,h3⟩:=ih (fun s hs=>hk s (by simp [hs])) yL
  have hx:=hk x (by simp)
  have hle:∀s∈mJ l,s.f<=x.f:=fun s hs=>by
   obtain⟨u,hu,e⟩:=h3 s hs;have:=hr2 u hu x (by simp)
   omega
  rw [GF];rcases List.eq_nil_or_concat (mJ l)with e|⟨L,q,e⟩
  ·rw [e]at h2;rw [e,GG];refine⟨Ev hx,fun y=>?_,fun s hs=>⟨x,by simp,by simp at hs;rw [hs]⟩⟩
   rw [mem_append,←h2];simp [Mem]
  ·rw [List.concat_eq_append]at e;rw [e]at h1 h2 h3 hle;rw [e,nH];obtain⟨n1,n2,n3⟩:=mI.1 h1;have hq:=hle q (by simp)
   by_cases hc:x.f<=q.t
   ·rw [if_pos hc];refine⟨mI.2 ⟨n1,⟨n2.1,by show q.f<max q.t x.t;have:=n2.2.1;omega,by show max q.t x.t<=_;have:=n2.2.2;have:=hx.2.2;omega⟩,n3⟩,fun y=>?_,fun s hs=>?_⟩
    ·rw [mem_append,mem_append (a:=l),←h2,mem_append];simp only [Mem,List.mem_singleton,exists_eq_left];constructor
     ·rintro(h|h)
      ·exact .inl (.inl h)
      ·by_cases hy:y<q.t
       ·exact .inl (.inr ⟨h.1,hy⟩)
       ·exact .inr ⟨by omega,by have:y<max q.t x.t:=h.2;omega⟩
     ·rintro((h|h)|h)
      ·exact .inl h
      ·exact .inr ⟨h.1,by show y<max q.t x.t;omega⟩
      ·exact .inr ⟨by show q.f<=y;omega,by show y<max q.t x.t;omega⟩
    ·rcases List.mem_append.1 hs with hs|hs
     ·obtain⟨u,hu,e⟩:=h3 s (by simp [hs])
      exact⟨u,by simp [hu],e⟩
     ·obtain⟨u,hu,e⟩:=h3 q (by simp)
      simp at hs;exact⟨u,by simp [hu],by rw [hs];exact e⟩
   ·rw [if_neg hc];refine⟨mI.2 ⟨h1,hx,fun u hu=>by have:=alJ h1 u hu;omega⟩,fun y=>?_,fun s hs=>?_⟩
    ·rw [mem_append,mem_append (a:=l),←h2]
    ·rcases List.mem_append.1 hs with hs|hs
     ·obtain⟨u,hu,e⟩:=h3 s hs;exact⟨u,by simp [hu],e⟩
     ·simp at hs;exact⟨x,by simp,by rw [hs]⟩
theorem aki{l l':List Sp}(hk:∀s∈l',s.ok)(hr:yb l')(hm:∀s,s∈l'↔s∈l/\s.ok):mJ l'=nG l:=by
 obtain⟨h1,h2,_⟩:=avs l' hk hr;refine qI h1 (lG l) fun x=>?_;rw [h2,mem_of];exact⟨fun⟨s,a,b⟩=>⟨s,((hm s).1 a).1,((hm s).1 a).2,b⟩,fun⟨s,a,b,c⟩=>⟨s,(hm s).2 ⟨a,b⟩,c⟩⟩
end Go.Proofs.YtmcddajniiaieaaGreatDoor.Rg
namespace Go.Proofs.YtmcddajniiaieaaGreatDoor.Rg
open Go.Proofs.Tryz Go.RowKit
def Sp.cells(s:Sp):List Value:=[.int .i64 s.f,.int .i64 s.t]
def ef(l:List Sp):List Value:=l.flatMap Sp.cells
theorem fY(l:List Sp):(ef l).length=l.length*2:=by
 induction l with
 |nil=>rfl
 |cons r l ih=>simp [ef,Sp.cells]at ih⊢;omega
theorem cu(a b:List Sp):ef (a++b)=ef a++ef b:=by simp [ef]
theorem eX(s:Sp):ef [s]=[.int .i64 s.f,.int .i64 s.t]:=rfl
theorem yc(l:List Sp)(k j:Nat)(h:k<l.length)(hj:j<2):(ef l)[k*2+j]? =(Sp.cells l[k])[j]? :=by
 induction l generalizing k with
 |nil=>simp at h
 |cons r l ih=>
  have e:ef (r::l)=Sp.cells r++ef l:=by simp [ef]
  have hl:(Sp.cells r).length=2:=rfl;rw [e];rcases k with _|k
  ·rw [List.getElem?_append_left (by rw [hl];omega)]
   simp
  ·rw [List.getElem?_append_right (by rw [hl];omega),hl,show(k+1)*2+j-2=k*2+j from by omega,ih k (by simpa using h)]
   simp
theorem avt(l0:List Sp)(q:Sp)(j:Nat):(ef (l0++[q]))[l0.length*2+j]? =(Sp.cells q)[j]? :=by
 rw [cu,List.getElem?_append_right (by rw [fY];omega),fY]
 simp [ef]
theorem alK(l0:List Sp)(q:Sp)(t:Int):(ef (l0++[q])).set (l0.length*2+1) (.int .i64 t)=ef (l0++[⟨q.f,t⟩]):=by
 rw [cu,List.set_append_right _ _ (by rw [fY];omega),fY,cu]
 simp [ef,Sp.cells]
theorem Ex{w:World}{base:Nat}{e:TypeId}{size n g:Nat}{v:Value}{xs:List Value}(h:w.ownsRow base e size v n xs)(hv:v.ownBlock=some g):base<=g:=by
 rcases h.2 with ⟨rfl,_⟩|⟨k,cap,cur,rfl,hb,_⟩
 ·simp [Value.ownBlock]at hv
 ·simp [Value.ownBlock]at hv;omega
def rQ(w:World)(A:Option Addr)(l:List Sp):Prop:=
 ∀k (hk:k<l.length),∃b o,A=some ⟨b,o,none⟩/\w.cell? ⟨b,o+k*2,none⟩=some (.int .i64 l[k].f)/\w.cell? ⟨b,o+k*2+1,none⟩=some (.int .i64 l[k].t)
theorem rQ.ext{w w':World}{A:Option Addr}{l:List Sp}(h:rQ w A l)(hx:Ext w w'):rQ w' A l:=fun k hk=>by
 obtain⟨b,o,e,p0,p1⟩:=h k hk;exact⟨b,o,e,hx.cell p0,hx.cell p1⟩
theorem rQ.nil(w:World)(A:Option Addr):rQ w A []:=fun k hk=>absurd hk (by simp)
theorem rQ.at_{w:World}{A:Option Addr}{l:List Sp}(h:rQ w A l)(h0:0<l.length):∃b o,A=some ⟨b,o,none⟩/\∀k (hk:k<l.length),w.cell? ⟨b,o+k*2,none⟩=some (.int .i64 l[k].f)/\w.cell? ⟨b,o+k*2+1,none⟩=some (.int .i64 l[k].t):=by
 obtain⟨b,o,e,_⟩:=h 0 h0;refine⟨b,o,e,fun k hk=>?_⟩;obtain⟨b',o',e',p⟩:=h k hk;rw [e]at e';injection e' with e'
 injection e' with e1 e2 _
 subst e1 e2;exact p
theorem tu{w:World}{base:Nat}{e:TypeId}{A:Option Addr}{n c:Nat}{l:List Sp}(h:w.ownsRow base e 2 (.slice A n c) n (ef l)):rQ w A l:=fun k hk=>by
 have hn:n=l.length:=by have:=h.1;rw [fY]at this;omega
 subst hn;obtain⟨g,cap,hv,_,_⟩:=h.form (by omega)
 cases hv;refine⟨g,0,rfl,?_,?_⟩;all_goals rw [Nat.zero_add]
 ·rw [h.cellAt _ (by omega)];exact(yc l k 0 hk (by omega)).trans rfl
 ·rw [h.cellAt _ (by omega)];exact(yc l k 1 hk (by omega)).trans rfl
theorem Bv{w:World}{base:Nat}{e:TypeId}{A:Option Addr}{n c:Nat}{l:List Sp}(h:w.ownsRow base e 2 (.slice A n c) n (ef l)){p:Addr}(hp:p.block<base)(u:Value):rQ (w.setCell p u) A l:=fun k hk=>by
 have hn:n=l.length:=by have:=h.1;rw [fY]at this;omega
 subst hn;obtain⟨b,o,e1,p0,p1⟩:=tu h k hk;have hb:base<=b:=by
  obtain⟨g,cap,hv,hg,_⟩:=h.form (by omega)
  subst e1;cases hv;exact(Ex h (g:=b) rfl)
 exact⟨b,o,e1,(World.cell?_setCell_other w p _ u (fun e2=>by subst e2;simp at hp;omega)).trans p0,(World.cell?_setCell_other w p _ u (fun e2=>by subst e2;simp at hp;omega)).trans p1⟩
def azB(w:World)(l:List Sp)(e:Ending)(w':World):Prop:=∃v,e=.returned v/\w'.ownsRow w.heap.size 32 2 v l.length (ef l)/\Ext w w'
def aVW(w:World)(A:Option Addr):Prop:=∀b o,A=some ⟨b,o,none⟩->w.heap.size<=b
theorem Bx{w w1 w':World}{e:TypeId}{A:Option Addr}{size n c:Nat}{xs:List Value}(h:w'.ownsRow w1.heap.size e size (.slice A n c) n xs)(hx:w.heap.size<=w1.heap.size):aVW w A:=fun b o e1=>by
 subst e1;exact Nat.le_trans hx (Ex h rfl)
def Bz(w:World)(l:List Sp)(e:Ending)(w':World):Prop:=∃A c,e=.returned (.agg #[.slice A l.length c])/\Hid (rQ w' A l)/\Hid (aVW w A)/\Ext w w'
theorem dY:(prog.info? 32).map (fun i=>(i.zero,i.size,i.bytes))=some (some (.agg #[.int .i64 0,.int .i64 0]),2,16):=by kernel_rfl
def dJ(f t:Int):Bool:=decide (0<=f)&&decide (f<=t)&&decide (t<=4611686018427387904)
theorem gT(f t:Int)(w:World):
  Calls prog 15 #[.agg #[.int .i64 f,.int .i64 t]] w fun e w'=>e=.returned (.bool (dJ f t))/\Ext w w':=by
 go_enter func15,ntmps15;go_wp2;all_goals go_ret
 all_goals exact⟨by simp [dJ, *]<;>omega,(Ext.refl w).alloc _⟩
def fv(u:Int):Bool:=(List.range 21).any fun k=>u==(2:Int)^k
theorem rD(u:Int):fv u=true↔∃k,k<=20/\u=(2:Int)^k:=by
 unfold fv;simp only [List.any_eq_true,List.mem_range,beq_iff_eq];exact⟨fun⟨k,h1,h2⟩=>⟨k,by omega,h2⟩,fun⟨k,h1,h2⟩=>⟨k,by omega,h2⟩⟩
theorem alL{k:Nat}(hk:k<=20):1<=(2:Int)^k/\(2:Int)^k<=1048576:=by
 have h1:0<2^k:=Nat.pow_pos (by omega)
 have h2:2^k<=2^20:=Nat.pow_le_pow_right (by omega) hk
 have h3:((2^k:Nat):Int)=(2:Int)^k:=by simp
 omega
theorem kU{u:Int}(h:fv u=true):1<=u/\u<=1048576:=by
 obtain⟨k,hk,rfl⟩:=(rD u).1 h;exact alL hk
def j4(n:Int):Bool:=decide (-1<=n)&&decide (n<=1099511627776)
set_option maxHeartbeats 1000000 in
theorem dR(n:Int)(w:World):Calls prog 101 #[.int .i64 n] w fun e w'=>e=.returned (.bool (j4 n))/\w=w':=by
 go_enter func101,ntmps101;go_wp2;all_goals go_ret
 all_goals exact⟨by simp [j4, *]<;>omega,rfl⟩
theorem Nv(a b:Nat)(ha:a<4611686018427387904)(hb:b<4611686018427387904):bits .and .i64 (a:Int) (b:Int)=((a&&&b:Nat):Int):=by
 have hx:a&&&b<2^62:=Nat.and_lt_two_pow _ (by omega)
 have h1:(BitVec.ofInt 64 (a:Int)).toNat=a:=by
  rw [BitVec.ofInt_natCast,BitVec.toNat_ofNat];exact Nat.mod_eq_of_lt (by omega)
 have h2:(BitVec.ofInt 64 (b:Int)).toNat=b:=by
  rw [BitVec.ofInt_natCast,BitVec.toNat_ofNat];exact Nat.mod_eq_of_lt (by omega)
 show IntKind.i64.wrap ((BitVec.ofInt 64 (a:Int)&&&BitVec.ofInt 64 (b:Int)).toNat:Int)=_
 rw [BitVec.toNat_and,h1,h2];exact IntWalk.i64_in _ (by omega)
theorem alM{u:Int}(h1:1<=u)(h2:u<=1048576):(bits .and .i64 u (u-1)==0)=fv u:=by
 obtain⟨n,rfl⟩:∃n:Nat,u=n:=⟨u.toNat,by omega⟩
 rw [show((n:Int)-1)=((n-1:Nat):Int) by omega,Nv _ _ (by omega) (by omega),Bool.eq_iff_iff,rD]
 have h3:=Nat.and_sub_one_eq_zero_iff_isPowerOfTwo (n:=n) (by omega)
 constructor
 ·intro h;have h4:n&&&n-1=0:=by simpa using h
  obtain⟨k,hk⟩:=h3.1 h4;refine⟨k,?_,by rw [hk];simp⟩
  rcases Nat.lt_or_ge 20 k with h5|h5
  ·have h6:2^21<=2^k:=Nat.pow_le_pow_right (by omega) h5
   omega
  ·exact h5
 ·rintro⟨k,hk,e⟩;have e2:n=2^k:=by
   have h4:((2^k:Nat):Int)=(2:Int)^k:=by simp
   omega
  have h4:=h3.2 ⟨k,e2⟩;simp [h4]
theorem azC{u:Int}(h:u<1\/1048576<u):fv u=false:=by
 cases e:fv u
 ·rfl
 ·have:=kU e;omega
set_option maxHeartbeats 1000000 in
theorem da(u:Int)(w:World):Calls prog 35 #[.int .i64 u] w fun e w'=>e=.returned (.bool (fv u))/\w=w':=by
 by_cases h:1<=u/\u<=1048576
 ·obtain⟨h1,h2⟩:=h;have HU:=Lib.hid (alM h1 h2);go_enter func35,ntmps35;go_wp2;go_ret;exact⟨by rw [←HU.out];rfl,rfl⟩
 ·have HU:=Lib.hid (azC (u:=u) (by omega))
  have h1:u<1\/1048576<u:=by omega
  clear h;rcases h1 with h1|h1
  ·go_enter func35,ntmps35;go_wp2;go_ret;exact⟨by rw [HU.out];rfl,rfl⟩
  ·go_enter func35,ntmps35;go_wp2;go_ret;exact⟨by rw [HU.out];rfl,rfl⟩
def seen(u:Int)(j:Nat):Prop:=∀k,k<j->u≠(2:Int)^k
def ZK(no u n:Int):Int:=if n=-1 then(no+1)*u else min ((no+1)*u) n
def nI(no u n:Int):Bool:=fv u&&(j4 n&&(decide (0<=no)&&(decide (no<1099511627776/u)&&decide (no*u<ZK no u n))))
def nZ(no u n:Int):Sp:=if nI no u n then⟨no*u,ZK no u n⟩else⟨0,0⟩
theorem avu{no u:Int}(hu:fv u=true)(h0:0<=no)(h1:no<1099511627776/u):0<=no*u/\(no+1)*u<=1099511627776/\no*u<(no+1)*u/\no<=no*u:=by
 obtain⟨a,b⟩:=kU hu;have h2:no+1<=1099511627776/u:=by omega
 have h3:(no+1)*u<=1099511627776/u*u:=Int.mul_le_mul_of_nonneg_right h2 (by omega)
 have h4:1099511627776/u*u<=1099511627776:=Int.ediv_mul_le _ (by omega)
 have h5:(no+1)*u=no*u+u:=by rw [Int.add_mul,Int.one_mul]
 have h6:0<=no*u:=Int.mul_nonneg h0 (by omega)
 have h7:no*1<=no*u:=Int.mul_le_mul_of_nonneg_left (by omega) h0
 omega
set_option maxHeartbeats 4000000 in
set_option maxRecDepth 100000 in
theorem ZL(no u n:Int)(w:World):
  Calls prog 89 #[.int .i64 no,.int .i64 u,.int .i64 n] w fun e w'=>e=.returned (.agg #[.int .i64 (nZ no u n).f,.int .i64 (nZ no u n).t])/\Ext w w':=by
 have bad:nI no u n=false->nZ no u n=⟨0,0⟩:=fun h=>by unfold nZ;rw [h];rfl
 by_cases hn0:no<0
 ·cases eU:fv u<;>cases eL:j4 n;all_goals
   have HB:=Lib.hid (bad (by unfold nI;rw [show decide (0<=no)=false from decide_eq_false (by omega)];simp))
   clear bad;go_enter func89,ntmps89;go_wp2_with (first|(go_at_call 35;refine(da _ _).mono ?_;rw [eU];rintro e w1 ⟨rfl,rfl⟩)|(go_at_call 101;refine(dR _ _).mono ?_;rw [eL];rintro e w1 ⟨rfl,rfl⟩))
   refine bodyPost_ret (v:=.agg #[.int .i64 0,.int .i64 0]) (by simp [results,results89,go_sem]) rfl ⟨by rw [HB.out],?_⟩
   (first|exact(Ext.refl w).alloc _|(refine Ext.alloc ?_ _;exact(Ext.refl w).alloc _)|(repeat' first|exact Ext.refl w|refine Ext.alloc ?_ _|refine Ext.setCell ?_ ?_ _)<;>(first|exact Nat.le_refl _|(show w.heap.size<=w.heap.size+1;omega)))
 cases eU:fv u
 ·cases eL:j4 n;all_goals
   have HB:=Lib.hid (bad (by unfold nI;rw [eU];rfl))
   clear bad;go_enter func89,ntmps89;go_wp2_with (first|(go_at_call 35;refine(da _ _).mono ?_;rw [eU];rintro e w1 ⟨rfl,rfl⟩)|(go_at_call 101;refine(dR _ _).mono ?_;rw [eL];rintro e w1 ⟨rfl,rfl⟩))
   refine bodyPost_ret (v:=.agg #[.int .i64 0,.int .i64 0]) (by simp [results,results89,go_sem]) rfl ⟨by rw [HB.out],?_⟩
   (first|exact(Ext.refl w).alloc _|(refine Ext.alloc ?_ _;exact(Ext.refl w).alloc _)|(repeat' first|exact Ext.refl w|refine Ext.alloc ?_ _|refine Ext.setCell ?_ ?_ _)<;>(first|exact Nat.le_refl _|(show w.heap.size<=w.heap.size+1;omega)))
 obtain⟨u1,u2⟩:=kU eU;cases eL:j4 n
 ·have HB:=Lib.hid (bad (by unfold nI;rw [eU,eL];rfl))
  clear bad;go_enter func89,ntmps89;go_wp2_with (first|(go_at_call 35;refine(da _ _).mono ?_;rw [eU];rintro e w1 ⟨rfl,rfl⟩)|(go_at_call 101;refine(dR _ _).mono ?_;rw [eL];rintro e w1 ⟨rfl,rfl⟩))
  refine bodyPost_ret (v:=.agg #[.int .i64 0,.int .i64 0]) (by simp [results,results89,go_sem]) rfl ⟨by rw [HB.out],?_⟩
  (first|exact(Ext.refl w).alloc _|(refine Ext.alloc ?_ _;exact(Ext.refl w).alloc _)|(repeat' first|exact Ext.refl w|refine Ext.alloc ?_ _|refine Ext.setCell ?_ ?_ _)<;>(first|exact Nat.le_refl _|(show w.heap.size<=w.heap.size+1;omega)))
 by_cases hq:no<1099511627776/u
 ·have hl:-1<=n/\n<=1099511627776:=by simpa [j4]using eL
  obtain⟨l1,l2⟩:=hl;obtain⟨m1,m2,m3,m4⟩:=avu eU (by omega) hq
  have hnb:no<=1099511627776:=by omega
  have dH:nI no u n=decide (no*u<ZK no u n):=by
   unfold nI;rw [eU,eL,show decide (0<=no)=true from decide_eq_true (by omega),show decide (no<1099511627776/u)=true from decide_eq_true hq]
   rfl
  have m5:(no+1)*u=no*u+u:=by rw [Int.add_mul,Int.one_mul]
  by_cases hn1:n=-1
  ·have hc:nZ no u n=⟨no*u,(no+1)*u⟩:=by
    unfold nZ;rw [dH];unfold ZK;rw [if_pos hn1,if_pos (decide_eq_true m3)]
   subst hn1;have HB:=Lib.hid hc;have HM5:=Lib.hid m5;clear bad dH hc m5;go_enter func89,ntmps89;go_wp2_with (first|(go_at_call 35;refine(da _ _).mono ?_;rw [eU];rintro e w1 ⟨rfl,rfl⟩)|(go_at_call 101;refine(dR _ _).mono ?_;rw [eL];rintro e w1 ⟨rfl,rfl⟩))
   refine bodyPost_ret (v:=.agg #[.int .i64 (no*u),.int .i64 ((no+1)*u)]) (by simp [results,results89,go_sem]) rfl ⟨by rw [HB.out],?_⟩
   (first|exact(Ext.refl w).alloc _|(refine Ext.alloc ?_ _;exact(Ext.refl w).alloc _)|(repeat' first|exact Ext.refl w|refine Ext.alloc ?_ _|refine Ext.setCell ?_ ?_ _)<;>(first|exact Nat.le_refl _|(show w.heap.size<=w.heap.size+1;omega)))
  ·by_cases hft:no*u<min ((no+1)*u) n
   ·have hc:nZ no u n=⟨no*u,min ((no+1)*u) n⟩:=by
     unfold nZ;rw [dH];unfold ZK;rw [if_neg hn1,if_pos (decide_eq_true hft)]
    have HB:=Lib.hid hc;have n0:0<=n:=by omega
    have HM5:=Lib.hid m5;clear bad dH hc m5 hn1;go_enter func89,ntmps89;go_wp2_with (first|(go_at_call 35;refine(da _ _).mono ?_;rw [eU];rintro e w1 ⟨rfl,rfl⟩)|(go_at_call 101;refine(dR _ _).mono ?_;rw [eL];rintro e w1 ⟨rfl,rfl⟩))
    refine bodyPost_ret (v:=.agg #[.int .i64 (no*u),.int .i64 (min ((no+1)*u) n)]) (by simp [results,results89,go_sem]) rfl ⟨by rw [HB.out],?_⟩
    (first|exact(Ext.refl w).alloc _|(refine Ext.alloc ?_ _;exact(Ext.refl w).alloc _)|(repeat' first|exact Ext.refl w|refine Ext.alloc ?_ _|refine Ext.setCell ?_ ?_ _)<;>(first|exact Nat.le_refl _|(show w.heap.size<=w.heap.size+1;omega)))
   ·have hc:nZ no u n=⟨0,0⟩:=by
     unfold nZ;rw [dH];unfold ZK;rw [if_neg hn1,if_neg (by simpa using hft)]
    have HB:=Lib.hid hc;have n0:0<=n:=by omega
    have HM5:=Lib.hid m5;clear bad dH hc m5 hn1;go_enter func89,ntmps89;go_wp2_with (first|(go_at_call 35;refine(da _ _).mono ?_;rw [eU];rintro e w1 ⟨rfl,rfl⟩)|(go_at_call 101;refine(dR _ _).mono ?_;rw [eL];rintro e w1 ⟨rfl,rfl⟩))
    refine bodyPost_ret (v:=.agg #[.int .i64 0,.int .i64 0]) (by simp [results,results89,go_sem]) rfl ⟨by rw [HB.out],?_⟩
    (first|exact(Ext.refl w).alloc _|(refine Ext.alloc ?_ _;exact(Ext.refl w).alloc _)|(repeat' first|exact Ext.refl w|refine Ext.alloc ?_ _|refine Ext.setCell ?_ ?_ _)<;>(first|exact Nat.le_refl _|(show w.heap.size<=w.heap.size+1;omega)))
 ·have HB:=Lib.hid (bad (by unfold nI;rw [show decide (no<1099511627776/u)=false from decide_eq_false hq];simp))
  clear bad;go_enter func89,ntmps89;go_wp2_with (first|(go_at_call 35;refine(da _ _).mono ?_;rw [eU];rintro e w1 ⟨rfl,rfl⟩)|(go_at_call 101;refine(dR _ _).mono ?_;rw [eL];rintro e w1 ⟨rfl,rfl⟩))
  refine bodyPost_ret (v:=.agg #[.int .i64 0,.int .i64 0]) (by simp [results,results89,go_sem]) rfl ⟨by rw [HB.out],?_⟩
  (first|exact(Ext.refl w).alloc _|(refine Ext.alloc ?_ _;exact(Ext.refl w).alloc _)|(repeat' first|exact Ext.refl w|refine Ext.alloc ?_ _|refine Ext.setCell ?_ ?_ _)<;>(first|exact Nat.le_refl _|(show w.heap.size<=w.heap.size+1;omega)))
set_option maxHeartbeats 1000000 in
set_option maxRecDepth 100000 in
theorem xa(A:Option Addr)(c:Nat)(l:List Sp)(w:World)(h:rQ w A l)(hl:l.length<=1000000):
  Calls prog 13 #[.slice A l.length c] w (azB w (mJ l)):=by
 go_enter func13,ntmps13;go_wp2;go_loopw [3,9] (fun v i wr=>∃k:Nat,k<=l.length/\i=.int .i64 k/\wr.ownsRow w.heap.size 32 2 v (mJ (l.take k)).length (ef (mJ (l.take k)))/\Ext w wr) (fun _ i _=>l.length-(intOf i).toNat);case atStart=>exact⟨0,Nat.zero_le _,rfl,World.ownsRow_nil _ _ _ _,Ext.refl w⟩
 case round=>
  obtain⟨k,hk,rfl,cd,hx⟩:=hrel;by_cases aU:k<l.length
  ·obtain⟨b,o,rfl,p0,p1⟩:=h.ext hx k aU;have hts:mJ (l.take (k+1))=sn (mJ (l.take k)) l[k]:=by rw [List.take_succ_eq_append_getElem aU,GF]
   obtain⟨s,hs⟩:∃s,l[k]=s:=⟨_,rfl⟩;rw [hs]at p0 p1 hts;have hlen:(mJ (l.take k)).length<=k:=Nat.le_trans (Uj _) (List.length_take_le _ _);obtain⟨L,hL⟩:∃L,mJ (l.take k)=L:=⟨_,rfl⟩;rw [hL]at hts cd hlen;have HT:=Lib.hid hts;have HB:=hx.size;clear hts hs hL h;rcases List.eq_nil_or_concat L with rfl|⟨L,q,rfl⟩
   ·replace cd:wr.ownsRow w.heap.size 32 2 _ 0 []:=cd;obtain⟨A',c',rfl,_⟩:=iX cd;clear hlen;go_wp2;refine bW (by kernel_rfl) (by kernel_rfl) ?_
    intro X _ g hg rj;repeat (go_big_quiet_step (fail))
    refine wpQuiet_nil ?_;rintro w' ⟨n,rfl⟩;have c0:=(hg n).cell (p:=⟨wr.heap.size,0,none⟩) (u:=.int .i64 s.f) (by simp)
    have c1:=(hg n).cell (p:=⟨wr.heap.size,1,none⟩) (u:=.int .i64 s.t) (by simp)
    have gM:=(hx.alloc (.cells #[.int .i64 s.f,.int .i64 s.t] 32)).trans (hg n);have bK:=ck cd (((Ext.refl wr).alloc (.cells #[.int .i64 s.f,.int .i64 s.t] 32)).trans (hg n));have yn:=gM.size;clear hg rj cd hx p0 p1;go_wp2_with (at_builtin;refine bX _ rfl _ _ 37 rfl w.heap.size 32 _ 2 16 underlying37 dY rfl (by omega) _ 0 [] rfl bK 1 1 _ (by simp) _ rfl rfl (by simp [Value.oneCell']) (by simp [maxLen]) (by omega) yn ?_;intro v1 w1 iy hm)
    have tv:=fX gM bK hm;go_roundw;case rel=>exact⟨k+1,by omega,by go_num,by rw [HT.out,GG];exact iy,tv⟩
    case measure=>simp [intOf];omega
   ·rw [List.concat_eq_append]at*;have hl2:(L++[q]).length=L.length+1:=by simp
    rw [hl2]at cd hlen;obtain⟨g0,cap,rfl,_⟩:=cd.form (by omega)
    generalize hk:L.length=m at*;have hq1:wr.cell? ⟨g0,m*2+1,none⟩=some (.int .i64 q.t):=by rw [cd.cellAt _ (by omega),←hk];exact avt L q 1
    have HK:=Lib.hid hk;have cM:g0≠wr.heap.size:=fun e=>by have:=gz hq1;simp only at this;omega
    clear hk hl2;cases e1:decide (s.f<=q.t);all_goals
     go_wp2;refine bW (by kernel_rfl) (by kernel_rfl) ?_
     intro X _ g hg rj;have c1:∀n,(g n).cell? ⟨g0,m*2+1,none⟩=some (.int .i64 q.t):=fun n=>((Ext.refl wr).alloc _|>.trans (hg n)).cell hq1;have d0:∀n,(g n).cell? ⟨wr.heap.size,0,none⟩=some (.int .i64 s.f):=fun n=>(hg n).cell (by simp)
     have d1:∀n,(g n).cell? ⟨wr.heap.size,1,none⟩=some (.int .i64 s.t):=fun n=>(hg n).cell (by simp)
     repeat (go_big_quiet_step (fail))
     refine wpQuiet_nil ?_;rintro w' ⟨n,rfl⟩;have gM:=(hx.alloc (.cells #[.int .i64 s.f,.int .i64 s.t] 32)).trans (hg n);have bK:=ck cd (((Ext.refl wr).alloc (.cells #[.int .i64 s.f,.int .i64 s.t] 32)).trans (hg n));have yn:=gM.size;replace c1:=c1 n;replace d0:=d0 n;replace d1:=d1 n;have fz:(g n).frozen? ⟨g0,m*2+1,none⟩=false:=bK.frozenAt _;clear hg rj cd hx p0 p1 hq1;generalize g n=wg at*;generalize wr.heap.size=xb at*
    ·have e2:¬s.f<=q.t:=by simpa using e1
     clear e1;go_wp2_with (at_builtin;refine bX _ rfl _ _ 37 rfl w.heap.size 32 _ 2 16 underlying37 dY rfl (by omega) (.slice (some ⟨g0,0,none⟩) (m+1) cap) _ _ rfl bK 1 1 _ (by simp) _ rfl rfl (by simp [Value.oneCell']) (by simp [maxLen];omega) (by omega) yn ?_;intro v1 w1 iy hm)
     have tv:=fX gM bK hm;obtain rfl:=HK.out;go_roundw;case rel=>exact⟨k+1,by omega,by go_num,by rw [HT.out,nH,if_neg e2,cu,eX,List.length_append,List.length_append];exact iy,tv⟩
     case measure=>simp [intOf];omega
    ·have e2:s.f<=q.t:=by simpa using e1
     clear e1;go_wp2;go_region;have tv:=(gM.setCell (p:=⟨g0,m*2+1,none⟩) (by show w.heap.size<=g0;omega) (.int .i64 (max q.t s.t))).drew
     have h3:=(bK.stored (m*2+1) (.int .i64 (max q.t s.t))).1;obtain rfl:=HK.out;rw [alK]at h3;replace h3:=ck h3 (Ext.refl _).drew;go_wp2;go_roundw;case rel=>exact⟨k+1,by omega,by go_num,by rw [HT.out,nH,if_pos e2,List.length_append];exact h3,tv⟩
     case measure=>simp [intOf];omega
  ·obtain rfl:k=l.length:=by omega
   rw [List.take_length]at cd;go_wp2;go_ret;exact⟨_,rfl,cd,hx⟩
def qJ(a b M:List Sp)(i j:Nat):Prop:=
 i<=a.length/\j<=b.length/\M.length=i+j/\yb M/\(∀s,s∈M↔s∈a.take i\/s∈b.take j)/\(∀s∈M,(∀h:i<a.length,s.f<=a[i].f)/\(∀h:j<b.length,s.f<=b[j].f))
theorem alO(a b:List Sp):qJ a b [] 0 0:=⟨Nat.zero_le _,Nat.zero_le _,rfl,List.Pairwise.nil,by simp,by simp⟩
theorem yB{M:List Sp}{s:Sp}(h:yb M)(hs:∀u∈M,u.f<=s.f):yb (M++[s]):=
 List.pairwise_append.2 ⟨h,by simp,fun u hu v hv=>by simp at hv;subst hv;exact hs u hu⟩
theorem akj{a b M:List Sp}{i j:Nat}(ha:Norm a)(h:qJ a b M i j)(hi:i<a.length)(hj:∀h:j<b.length,a[i].f<=b[j].f):qJ a b (M++[a[i]]) (i+1) j:=by
 obtain⟨h1,h2,h3,h4,h5,h6⟩:=h;refine⟨hi,h2,by simp;omega,yB h4 (fun u hu=>(h6 u hu).1 hi),fun s=>?_,fun s hs=>?_⟩
 ·rw [List.mem_append,h5,List.take_succ_eq_append_getElem hi,List.mem_append];constructor
  ·rintro((h|h)|h)<;>simp [h];all_goals (simp at h;simp [h])
  ·rintro((h|h)|h)<;>simp [h];all_goals (simp at h;simp [h])
 ·rcases List.mem_append.1 hs with hs|hs
  ·refine⟨fun h7=>?_,(h6 s hs).2⟩;have:=(h6 s hs).1 hi;have:=ha.lt (i:=i) (j:=i+1) (by omega) h7
   have:=(ha.get hi).2.1;omega
  ·simp at hs;subst hs;refine⟨fun h7=>?_,hj⟩;have:=ha.lt (i:=i) (j:=i+1) (by omega) h7
   have:=(ha.get hi).2.1;omega
theorem akk{a b M:List Sp}{i j:Nat}(hb:Norm b)(h:qJ a b M i j)(hj:j<b.length)(hi:∀h:i<a.length,b[j].f<=a[i].f):qJ a b (M++[b[j]]) i (j+1):=by
 obtain⟨h1,h2,h3,h4,h5,h6⟩:=h;refine⟨h1,hj,by simp;omega,yB h4 (fun u hu=>(h6 u hu).2 hj),fun s=>?_,fun s hs=>?_⟩
 ·rw [List.mem_append,h5,List.take_succ_eq_append_getElem hj,List.mem_append];constructor
  ·rintro((h|h)|h)<;>simp [h];all_goals (simp at h;simp [h])
  ·rintro(h|(h|h))<;>simp [h];all_goals (simp at h;simp [h])
 ·rcases List.mem_append.1 hs with hs|hs
  ·refine⟨(h6 s hs).1,fun h7=>?_⟩;have:=(h6 s hs).2 hj;have:=hb.lt (i:=j) (j:=j+1) (by omega) h7
   have:=(hb.get hj).2.1;omega
  ·simp at hs;subst hs;refine⟨hi,fun h7=>?_⟩;have:=hb.lt (i:=j) (j:=j+1) (by omega) h7
   have:=(hb.get hj).2.1;omega
theorem alP{a b M:List Sp}(ha:Norm a)(hb:Norm b)(h:qJ a b M a.length b.length):mJ M=yT a b:=by
 obtain⟨_,_,_,h4,h5,_⟩:=h;simp only [List.take_length]at h5;have hk:∀s∈a++b,s.ok:=fun s hs=>(List.mem_append.1 hs).elim (ha.1 s) (hb.1 s);refine aki (fun s hs=>hk s (List.mem_append.2 ((h5 s).1 hs))) h4 (fun s=>?_);rw [h5,List.mem_append];exact⟨fun h=>⟨h,hk s (List.mem_append.2 h)⟩,fun h=>h.1⟩
def aMW(w3:World)(a b:List Sp)(v:Value)(i j:Nat)(wr:World):Prop:=
 ∃M,qJ a b M i j/\wr.ownsRow w3.heap.size 32 2 v M.length (ef M)/\Ext w3 wr
set_option maxHeartbeats 8000000 in
set_option maxRecDepth 100000 in
theorem Uk(A:Option Addr)(c:Nat)(a:List Sp)(B:Option Addr)(d:Nat)(b:List Sp)(w:World)(ha:rQ w A a)(hb:rQ w B b)(na:Norm a)(nb:Norm b)(hla:a.length<=400000)(hlb:b.length<=400000):
  Calls prog 6 #[.agg #[.slice A a.length c],.agg #[.slice B b.length d]] w (Bz w (yT a b)):=by
 have tv:Ext w (((w.alloc (.cells #[.slice A a.length c] 39)).alloc (.cells #[.slice B b.length d] 39)).alloc (.cells #[.slice none 0 0] 39)):=(((Ext.refl w).alloc _).alloc _).alloc _;go_enter func6,ntmps6;go_upto_region 1 with (fail)
 have c1:(((w.alloc (.cells #[.slice A a.length c] 39)).alloc (.cells #[.slice B b.length d] 39)).alloc (.cells #[.slice none 0 0] 39)).cell? ⟨w.heap.size,0,none⟩=some (.slice A a.length c):=by simp [go_sem]
 have c2:(((w.alloc (.cells #[.slice A a.length c] 39)).alloc (.cells #[.slice B b.length d] 39)).alloc (.cells #[.slice none 0 0] 39)).cell? ⟨w.heap.size+1,0,none⟩=some (.slice B b.length d):=by simp [go_sem]
 have c3:(((w.alloc (.cells #[.slice A a.length c] 39)).alloc (.cells #[.slice B b.length d] 39)).alloc (.cells #[.slice none 0 0] 39)).cell? ⟨w.heap.size+1+1,0,none⟩=some (.slice none 0 0):=by simp [go_sem]
 have f3:(((w.alloc (.cells #[.slice A a.length c] 39)).alloc (.cells #[.slice B b.length d] 39)).alloc (.cells #[.slice none 0 0] 39)).frozen? ⟨w.heap.size+1+1,0,none⟩=false:=by simp [go_sem]
 have z3:w.heap.size+1+1<(((w.alloc (.cells #[.slice A a.length c] 39)).alloc (.cells #[.slice B b.length d] 39)).alloc (.cells #[.slice none 0 0] 39)).heap.size:=by simp
 generalize (((w.alloc (.cells #[.slice A a.length c] 39)).alloc (.cells #[.slice B b.length d] 39)).alloc (.cells #[.slice none 0 0] 39))=w3 at*;have zr:w.heap.size<=w.heap.size+1+1:=by omega
 obtain⟨i0,hi,hz0,hz1,hz2⟩:=info_parts dY;replace ha:=ha.ext tv;replace hb:=hb.ext tv;go_wp2_with (refine wpList_make_own _ rfl _ _ 37 rfl w3.heap.size 32 i0 (.agg #[.int .i64 0,.int .i64 0]) 2 underlying37 hi hz0 hz1 .i64 .i64 _ (a.length+b.length) rfl rfl (by simp) (by rw [hz2];omega) (by simp [maxLen];omega) (Nat.le_refl _) ?_;intro w4 aDk hg0)
 have hx4:Ext w3 w4:=Nt hg0;clear hg0 hi hz0 hz1 hz2;go_loopw [5,6,7] (fun v i j wr=>∃p q:Nat,i=.int .i64 p/\j=.int .i64 q/\aMW w3 a b v p q wr) (fun _ i j _=>a.length+b.length-((intOf i).toNat+(intOf j).toNat));case atStart=>exact⟨0,0,rfl,rfl,[],alO a b,aDk,hx4⟩
 case round=>
  obtain⟨p,q,rfl,rfl,M,hI,cd,hx⟩:=hrel;have hp:=hI.1;have hq:=hI.2.1;have hM:=hI.2.2.1;replace c1:=hx.cell c1;replace c2:=hx.cell c2;have bK:∀w':World,Ext wr w'->w'.ownsRow w3.heap.size 32 2 _ M.length (ef M):=fun w' h=>ck cd h;obtain⟨V,cv,rfl,_⟩:=iX cd;by_cases hpl:p<a.length
  ·obtain⟨b1,o1,rfl,p0,p1⟩:=ha.ext hx p hpl;by_cases hql:q<b.length
   ·obtain⟨b2,o2,rfl,q0,q1⟩:=hb.ext hx q hql;have hIa:a[p].f<=b[q].f->qJ a b (M++[a[p]]) (p+1) q:=fun hle=>akj na hI hpl (fun _=>hle);have hIb:b[q].f<=a[p].f->qJ a b (M++[b[q]]) p (q+1):=fun hle=>akk nb hI hql (fun _=>hle);generalize hs:a[p]=s at*;generalize hu:b[q]=u at*;have HIA:=Lib.hid hIa;have HIB:=Lib.hid hIb;have eq0:((q:Int)==(b.length:Int))=false:=by simp;omega
    have HO:=Lib.hid bK;clear hIa hIb hI ha hb hs hu bK cd;cases e1:decide (s.f<=u.f);all_goals
     go_wp2;refine bW (by kernel_rfl) (by kernel_rfl) ?_
     intro X _ g hg rj;have k1:∀n,(g n).cell? ⟨w.heap.size,0,none⟩=some (.slice (some ⟨b1,o1,none⟩) a.length c):=fun n=>(hg n).cell c1;have k2:∀n,(g n).cell? ⟨w.heap.size+1,0,none⟩=some (.slice (some ⟨b2,o2,none⟩) b.length d):=fun n=>(hg n).cell c2;have k3:∀n,(g n).cell? ⟨b1,o1+p*2,none⟩=some (.int .i64 s.f):=fun n=>(hg n).cell p0;have k4:∀n,(g n).cell? ⟨b1,o1+p*2+1,none⟩=some (.int .i64 s.t):=fun n=>(hg n).cell p1;have k5:∀n,(g n).cell? ⟨b2,o2+q*2,none⟩=some (.int .i64 u.f):=fun n=>(hg n).cell q0;have k6:∀n,(g n).cell? ⟨b2,o2+q*2+1,none⟩=some (.int .i64 u.t):=fun n=>(hg n).cell q1;repeat (go_big_quiet_step (fail))
     refine wpQuiet_nil ?_;rintro w' ⟨n,rfl⟩;replace k1:=k1 n;replace k2:=k2 n;replace k3:=k3 n;replace k4:=k4 n;replace k5:=k5 n;replace k6:=k6 n;have rE:=hg n;clear hg rj c1 c2 p0 p1 q0 q1;generalize g n=wg at*
    ·have e2:u.f<=s.f:=by
      have:¬s.f<=u.f:=by simpa using e1
      omega
     have gM:=hx.trans rE;have bK:=HO.out _ rE;have yn:=gM.size;clear rE hx;go_wp2_with (at_builtin;refine bX _ rfl _ _ 37 rfl w3.heap.size 32 _ 2 16 underlying37 dY rfl (by omega) _ _ _ rfl bK 1 1 _ (by simp) _ rfl rfl (by simp [Value.oneCell']) (by simp [maxLen];omega) (by omega) yn ?_;intro v1 w1 iy hm)
     have tv:=fX gM bK hm;go_roundw;case rel=>exact⟨p,q+1,by go_num,by go_num,M++[u],HIB.out e2,by rw [cu,eX,List.length_append];exact iy,tv⟩
     case measure=>simp [intOf];omega
    ·have e2:s.f<=u.f:=by simpa using e1
     have gM:=hx.trans rE;have bK:=HO.out _ rE;have yn:=gM.size;clear rE hx;go_wp2_with (at_builtin;refine bX _ rfl _ _ 37 rfl w3.heap.size 32 _ 2 16 underlying37 dY rfl (by omega) _ _ _ rfl bK 1 1 _ (by simp) _ rfl rfl (by simp [Value.oneCell']) (by simp [maxLen];omega) (by omega) yn ?_;intro v1 w1 iy hm)
     have tv:=fX gM bK hm;go_roundw;case rel=>exact⟨p+1,q,by go_num,by go_num,M++[s],HIA.out e2,by rw [cu,eX,List.length_append];exact iy,tv⟩
     case measure=>simp [intOf];omega
   ·obtain rfl:q=b.length:=by omega
    have hIa:qJ a b (M++[a[p]]) (p+1) b.length:=akj na hI hpl (fun h=>absurd h (by omega))
    generalize hs:a[p]=s at*;have HIA:=Lib.hid hIa;have HO:=Lib.hid bK;clear hIa hI ha hb hs bK cd hql;generalize b.length=q at*;go_wp2;refine bW (by kernel_rfl) (by kernel_rfl) ?_
    intro X _ g hg rj;have k1:∀n,(g n).cell? ⟨w.heap.size,0,none⟩=some (.slice (some ⟨b1,o1,none⟩) a.length c):=fun n=>(hg n).cell c1;have k2:∀n,(g n).cell? ⟨w.heap.size+1,0,none⟩=some (.slice B q d):=fun n=>(hg n).cell c2;have k3:∀n,(g n).cell? ⟨b1,o1+p*2,none⟩=some (.int .i64 s.f):=fun n=>(hg n).cell p0;have k4:∀n,(g n).cell? ⟨b1,o1+p*2+1,none⟩=some (.int .i64 s.t):=fun n=>(hg n).cell p1;repeat (go_big_quiet_step (fail))
    refine wpQuiet_nil ?_;rintro w' ⟨n,rfl⟩;replace k1:=k1 n;replace k2:=k2 n;replace k3:=k3 n;replace k4:=k4 n;have rE:=hg n;clear hg rj c1 c2 p0 p1;generalize g n=wg at*;have gM:=hx.trans rE;have bK:=HO.out _ rE;have yn:=gM.size;clear rE hx;go_wp2_with (at_builtin;refine bX _ rfl _ _ 37 rfl w3.heap.size 32 _ 2 16 underlying37 dY rfl (by omega) _ _ _ rfl bK 1 1 _ (by simp) _ rfl rfl (by simp [Value.oneCell']) (by simp [maxLen];omega) (by omega) yn ?_;intro v1 w1 iy hm)
    have tv:=fX gM bK hm;go_roundw;case rel=>exact⟨p+1,q,by go_num,by go_num,M++[s],HIA.out,by rw [cu,eX,List.length_append];exact iy,tv⟩
    case measure=>simp [intOf];omega
  ·obtain rfl:p=a.length:=by omega
   by_cases hql:q<b.length
   ·obtain⟨b2,o2,rfl,q0,q1⟩:=hb.ext hx q hql;have hIb:qJ a b (M++[b[q]]) a.length (q+1):=akk nb hI hql (fun h=>absurd h (by omega))
    generalize hu:b[q]=u at*;have HIB:=Lib.hid hIb;have HO:=Lib.hid bK;have eq0:((q:Int)==(b.length:Int))=false:=by simp;omega
    clear hIb hI ha hb hu bK cd hpl;generalize a.length=p at*;go_wp2;refine bW (by kernel_rfl) (by kernel_rfl) ?_
    intro X _ g hg rj;have k1:∀n,(g n).cell? ⟨w.heap.size,0,none⟩=some (.slice A p c):=fun n=>(hg n).cell c1;have k2:∀n,(g n).cell? ⟨w.heap.size+1,0,none⟩=some (.slice (some ⟨b2,o2,none⟩) b.length d):=fun n=>(hg n).cell c2;have k5:∀n,(g n).cell? ⟨b2,o2+q*2,none⟩=some (.int .i64 u.f):=fun n=>(hg n).cell q0;have k6:∀n,(g n).cell? ⟨b2,o2+q*2+1,none⟩=some (.int .i64 u.t):=fun n=>(hg n).cell q1;repeat (go_big_quiet_step (fail))
    refine wpQuiet_nil ?_;rintro w' ⟨n,rfl⟩;replace k1:=k1 n;replace k2:=k2 n;replace k5:=k5 n;replace k6:=k6 n;have rE:=hg n;clear hg rj c1 c2 q0 q1;generalize g n=wg at*;have gM:=hx.trans rE;have bK:=HO.out _ rE;have yn:=gM.size;clear rE hx;go_wp2_with (at_builtin;refine bX _ rfl _ _ 37 rfl w3.heap.size 32 _ 2 16 underlying37 dY rfl (by omega) _ _ _ rfl bK 1 1 _ (by simp) _ rfl rfl (by simp [Value.oneCell']) (by simp [maxLen];omega) (by omega) yn ?_;intro v1 w1 iy hm)
    have tv:=fX gM bK hm;go_roundw;case rel=>exact⟨p,q+1,by go_num,by go_num,M++[u],HIB.out,by rw [cu,eX,List.length_append];exact iy,tv⟩
    case measure=>simp [intOf];omega
   ·obtain rfl:q=b.length:=by omega
    have hG:=alP na nb hI;have hS:rQ wr V M:=tu cd;have k3:=hx.cell c3;have z3':=Nat.lt_of_lt_of_le z3 hx.size;have kf:wr.frozen? ⟨w.heap.size+1+1,0,none⟩=false:=(hx.frozen (by simpa using z3)).trans f3
    have gM:=tv.trans hx;have HG:=Lib.hid hG;have hMl:M.length<=1000000:=by omega
    clear hI bK cd ha hb c3 f3 hql hpl z3 hM hG hp hq aDk;go_wp2_with fail;refine(xa V cv M _ hS hMl).mono ?_;rintro e w5 ⟨v5,rfl,xc,hx5⟩;rw [HG.out]at xc;obtain⟨A5,c5,rfl,_⟩:=iX xc;have k3:=hx5.cell k3;have kf:w5.frozen? ⟨w.heap.size+1+1,0,none⟩=false:=(hx5.frozen (by simpa using z3')).trans kf
    have hS5:rQ w5 A5 (yT a b):=tu xc;clear HG c1 c2;generalize yT a b=R at*;go_wp2;refine bodyPost_ret (v:=.agg #[.slice A5 R.length c5]) (by simp [results,results6,go_sem,k3]) rfl ⟨A5,c5,rfl,Lib.hid ?_,Lib.hid (Bx xc gM.size),?_⟩
    ·exact Bv xc (by exact z3') _
    ·exact(gM.trans hx5).setCell zr _
def meets(a b c d:Int):Bool:=dJ a b&&dJ c d&&decide (max a c<min b d)
def jH(a b c d:Int):Value:=if meets a b c d then .agg #[.int .i64 (max a c),.int .i64 (min b d)]else .agg #[.int .i64 0,.int .i64 0]
set_option maxRecDepth 100000 in
theorem Ey(a b c d:Int)(w:World):
  Calls prog 49 #[.agg #[.int .i64 a,.int .i64 b],.agg #[.int .i64 c,.int .i64 d]] w fun e w'=>e=.returned (.tuple #[jH a b c d,.bool (meets a b c d)])/\Ext w w':=by
 have EZ:Ext w (((w.alloc (.cells #[.int .i64 a,.int .i64 b] 32)).alloc (.cells #[.int .i64 c,.int .i64 d] 32)).alloc (.cells #[.int .i64 0,.int .i64 0] 32)):=(((Ext.refl w).alloc _).alloc _).alloc _;go_enter func49,ntmps49;go_wp2_with fail;refine(gT _ _ _).mono ?_;rintro e w1 ⟨rfl,hx⟩;have f0:w1.cell? ⟨w.heap.size+1+1,0,none⟩=some (.int .i64 0):=hx.cell (by simp [go_sem])
 have f1:w1.cell? ⟨w.heap.size+1+1,1,none⟩=some (.int .i64 0):=hx.cell (by simp [go_sem])
 have g0:w1.frozen? ⟨w.heap.size+1+1,0,none⟩=false:=(hx.frozen (by simp)).trans (by simp [go_sem])
 have g1:w1.frozen? ⟨w.heap.size+1+1,1,none⟩=false:=(hx.frozen (by simp)).trans (by simp [go_sem])
 have z1:w.heap.size+1+1<w1.heap.size:=by have:=hx.size;simp at this;omega
 have a0:w1.cell? ⟨w.heap.size,0,none⟩=some (.int .i64 a):=hx.cell (by simp [go_sem])
 have a1:w1.cell? ⟨w.heap.size,1,none⟩=some (.int .i64 b):=hx.cell (by simp [go_sem])
 have b0:w1.cell? ⟨w.heap.size+1,0,none⟩=some (.int .i64 c):=hx.cell (by simp [go_sem])
 have b1:w1.cell? ⟨w.heap.size+1,1,none⟩=some (.int .i64 d):=hx.cell (by simp [go_sem])
 replace hx:=EZ.trans hx;clear EZ;cases e1:dJ a b
 ·have hv:meets a b c d=false:=by simp [meets,e1]
  have hw:jH a b c d=.agg #[.int .i64 0,.int .i64 0]:=by simp [jH,hv]
  go_wp2;refine bodyPost_ret (v:=.tuple #[.agg #[.int .i64 0,.int .i64 0],.bool false]) (by simp [results,results49,go_sem,f0,f1]) rfl ⟨by rw [hw,hv],?_⟩
  exact(hx.setCell (by show w.heap.size<=w.heap.size+1+1;omega) _).setCell (by show w.heap.size<=w.heap.size+1+1;omega) _
 ·go_wp2_with fail;refine(gT _ _ _).mono ?_;rintro e w2 ⟨rfl,gM⟩;replace f0:=gM.cell f0;replace f1:=gM.cell f1;replace g0:=(gM.frozen (by simpa using z1)).trans g0
  replace g1:=(gM.frozen (by simpa using z1)).trans g1
  replace z1:=Nat.lt_of_lt_of_le z1 gM.size;replace a0:=gM.cell a0;replace a1:=gM.cell a1;replace b0:=gM.cell b0;replace b1:=gM.cell b1;replace hx:=hx.trans gM;clear gM;cases e2:dJ c d
  ·have hv:meets a b c d=false:=by simp [meets,e2]
   have hw:jH a b c d=.agg #[.int .i64 0,.int .i64 0]:=by simp [jH,hv]
   go_wp2;refine bodyPost_ret (v:=.tuple #[.agg #[.int .i64 0,.int .i64 0],.bool false]) (by simp [results,results49,go_sem,f0,f1]) rfl ⟨by rw [hw,hv],?_⟩
   exact(hx.setCell (by show w.heap.size<=w.heap.size+1+1;omega) _).setCell (by show w.heap.size<=w.heap.size+1+1;omega) _
  ·have z2:w.heap.size+1+1<w2.heap.size+1:=by omega
   cases e3:decide (max a c<min b d)
   ·have hv:meets a b c d=false:=by simp only [meets,e3,Bool.and_false]
    have hw:jH a b c d=.agg #[.int .i64 0,.int .i64 0]:=by simp [jH,hv]
    have e4:¬max a c<min b d:=by simpa using e3
    clear e3;go_wp2;refine bodyPost_ret (v:=.tuple #[.agg #[.int .i64 0,.int .i64 0],.bool false]) (by simp [results,results49,go_sem,f0,f1,z1]) rfl ⟨by rw [hw,hv],?_⟩
    refine Ext.alloc (Ext.setCell (Ext.setCell hx ?_ _) ?_ _) _<;>(show w.heap.size<=w.heap.size+1+1;omega)
   ·have hv:meets a b c d=true:=by simp only [meets,e1,e2,e3,Bool.and_true]
    have hw:jH a b c d=.agg #[.int .i64 (max a c),.int .i64 (min b d)]:=by simp [jH,hv]
    have e4:max a c<min b d:=by simpa using e3
    clear e3;go_wp2;refine bodyPost_ret (v:=.tuple #[.agg #[.int .i64 (max a c),.int .i64 (min b d)],.bool true]) (by simp [results,results49,go_sem,f0,f1,z1]) rfl ⟨by rw [hw,hv],?_⟩
    refine Ext.alloc (Ext.setCell (Ext.setCell hx ?_ _) ?_ _) _<;>(show w.heap.size<=w.heap.size+1+1;omega)
theorem sr{l:List Sp}{i:Nat}(hi:i<l.length)(x:Int):Mem (l.take (i+1)) x↔Mem (l.take i) x\/(l[i].f<=x/\x<l[i].t):=by
 rw [List.take_succ_eq_append_getElem hi,mem_append];simp [Mem]
theorem yC{l:List Sp}{i:Nat}{x:Int}(h:Mem (l.take i) x):Mem l x:=by
 obtain⟨s,hs,k⟩:=h;exact⟨s,List.mem_of_mem_take hs,k⟩
theorem Nw{l:List Sp}{i:Nat}(hi:i<l.length){x:Int}(h:l[i].f<=x/\x<l[i].t):Mem l x:=⟨l[i],List.getElem_mem _,h⟩
theorem GH{l:List Sp}(hn:Norm l){j:Nat}(hj:j<l.length){x:Int}(h:Mem l x)(hx:x<=l[j].t):Mem (l.take j) x\/(l[j].f<=x/\x<l[j].t):=by
 obtain⟨s,hs,k⟩:=h;obtain⟨n,CY,rfl⟩:=List.getElem_of_mem hs;rcases Nat.lt_or_ge n j with h1|h1
 ·exact .inl ⟨l[n],by rw [List.mem_take_iff_getElem];exact⟨n,by omega,rfl⟩,k⟩
 ·rcases Nat.lt_or_ge j n with h2|h2
  ·have:=hn.lt h2 CY;omega
  ·obtain rfl:n=j:=by omega
   exact .inr k
def kV(a b M:List Sp)(i j:Nat):Prop:=
 i<=a.length/\j<=b.length/\M.length<=i+j/\Norm M/\(∀x,Mem M x↔(Mem (a.take i) x/\Mem b x)\/(Mem a x/\Mem (b.take j) x))/\(∀(hi:i<a.length) (hj:j<b.length),∀v∈M,v.t<a[i].f\/v.t<b[j].f)
theorem ZM(a b:List Sp):kV a b [] 0 0:=⟨Nat.zero_le _,Nat.zero_le _,Nat.le_refl _,kT,by simp [Mem],by simp⟩
def n9(s u:Sp):List Sp:=if max s.f u.f<min s.t u.t then [⟨max s.f u.f,min s.t u.t⟩]else []
theorem yD{a b M:List Sp}{i j:Nat}(ha:Norm a)(hb:Norm b)(h:kV a b M i j)(hi:i<a.length)(hj:j<b.length):
  Norm (M++n9 a[i] b[j])/\(M++n9 a[i] b[j]).length<=i+j+1/\(∀x,Mem (M++n9 a[i] b[j]) x↔Mem M x\/((a[i].f<=x/\x<a[i].t)/\(b[j].f<=x/\x<b[j].t)))/\∀v∈M++n9 a[i] b[j],v∈M\/(v.t<=a[i].t/\v.t<=b[j].t):=by
 obtain⟨h1,h2,h3,h4,h5,h6⟩:=h;have h7:=h6 hi hj;obtain⟨a1,a2,a3⟩:=ha.get hi;obtain⟨b1,b2,b3⟩:=hb.get hj;unfold n9;by_cases hc:max a[i].f b[j].f<min a[i].t b[j].t
 ·rw [if_pos hc];refine⟨mI.2 ⟨h4,⟨by show 0<=max a[i].f b[j].f;omega,hc,by show min a[i].t b[j].t<=_;omega⟩,fun v hv=>by show v.t<max a[i].f b[j].f;have:=h7 v hv;omega⟩,by simp;omega,fun x=>?_,fun v hv=>?_⟩
  ·rw [mem_append];simp only [Mem,List.mem_singleton,exists_eq_left];constructor
   ·rintro(h|h)
    ·exact .inl h
    ·exact .inr (by omega)
   ·rintro(h|h)
    ·exact .inl h
    ·exact .inr (by omega)
  ·rcases List.mem_append.1 hv with hv|hv
   ·exact .inl hv
   ·simp at hv;subst hv;exact .inr ⟨by show min a[i].t b[j].t<=_;omega,by show min a[i].t b[j].t<=_;omega⟩
 ·rw [if_neg hc,List.append_nil];refine⟨h4,by omega,fun x=>⟨fun h=>.inl h,?_⟩,fun v hv=>.inl hv⟩
  rintro(h|h)
  ·exact h
  ·omega
theorem avw{a b M:List Sp}{i j:Nat}(ha:Norm a)(hb:Norm b)(h:kV a b M i j)(hi:i<a.length)(hj:j<b.length)(hle:a[i].t<=b[j].t):kV a b (M++n9 a[i] b[j]) (i+1) j:=by
 obtain⟨n1,n2,n3,n4⟩:=yD ha hb h hi hj;obtain⟨h1,h2,h3,h4,h5,h6⟩:=h;refine⟨hi,h2,by omega,n1,fun x=>?_,fun ou lO v hv=>?_⟩
 ·rw [n3,h5,sr hi];constructor
  ·rintro((⟨p,q⟩|p)|⟨p,q⟩)
   ·exact .inl ⟨.inl p,q⟩
   ·exact .inr p
   ·exact .inl ⟨.inr p,Nw hj q⟩
  ·rintro(⟨p|p,q⟩|p)
   ·exact .inl (.inl ⟨p,q⟩)
   ·rcases GH hb hj q (by omega)with q|q
    ·exact .inl (.inr ⟨Nw hi p,q⟩)
    ·exact .inr ⟨p,q⟩
   ·exact .inl (.inr p)
 ·have hl:=ha.lt (i:=i) (j:=i+1) (by omega) ou
  have:=(ha.get hi).2.1;rcases n4 v hv with hv|hv
  ·have:=h6 hi hj v hv;omega
  ·omega
theorem avx{a b M:List Sp}{i j:Nat}(ha:Norm a)(hb:Norm b)(h:kV a b M i j)(hi:i<a.length)(hj:j<b.length)(hle:b[j].t<=a[i].t):kV a b (M++n9 a[i] b[j]) i (j+1):=by
 obtain⟨n1,n2,n3,n4⟩:=yD ha hb h hi hj;obtain⟨h1,h2,h3,h4,h5,h6⟩:=h;refine⟨h1,hj,by omega,n1,fun x=>?_,fun ou lO v hv=>?_⟩
 ·rw [n3,h5,sr hj];constructor
  ·rintro((p|⟨p,q⟩)|⟨p,q⟩)
   ·exact .inl p
   ·exact .inr ⟨p,.inl q⟩
   ·exact .inr ⟨Nw hi p,.inr q⟩
  ·rintro(p|⟨p,q|q⟩)
   ·exact .inl (.inl p)
   ·exact .inl (.inr ⟨p,q⟩)
   ·rcases GH ha hi p (by omega)with p|p
    ·exact .inl (.inl ⟨p,Nw hj q⟩)
    ·exact .inr ⟨p,q⟩
 ·have hl:=hb.lt (i:=j) (j:=j+1) (by omega) lO
  have:=(hb.get hj).2.1;rcases n4 v hv with hv|hv
  ·have:=h6 hi hj v hv;omega
  ·omega
theorem ZN{a b M:List Sp}{i j:Nat}(ha:Norm a)(hb:Norm b)(h:kV a b M i j)(he:i=a.length\/j=b.length):M=od a b:=by
 obtain⟨_,_,_,h4,h5,_⟩:=h;refine qI h4 (Ew a b) fun x=>?_;rw [h5,akg ha hb];rcases he with rfl|rfl
 ·rw [List.take_length];exact⟨fun h=>h.elim id (fun h=>⟨h.1,yC h.2⟩),.inl⟩
 ·rw [List.take_length];exact⟨fun h=>h.elim (fun h=>⟨yC h.1,h.2⟩) id,.inr⟩
theorem Fj{a b M:List Sp}{i j:Nat}(h:kV a b M i j):M.length<=a.length+b.length:=by
 have:=h.1;have:=h.2.1;have:=h.2.2.1;omega
def azE(w3:World)(a b:List Sp)(v:Value)(i j:Nat)(wr:World):Prop:=
 ∃M,kV a b M i j/\wr.ownsRow w3.heap.size 32 2 v M.length (ef M)/\Ext w3 wr
set_option maxHeartbeats 8000000 in
set_option maxRecDepth 100000 in
theorem alQ(A:Option Addr)(c:Nat)(a:List Sp)(B:Option Addr)(d:Nat)(b:List Sp)(w:World)(ha:rQ w A a)(hb:rQ w B b)(na:Norm a)(nb:Norm b)(hla:a.length<=400000)(hlb:b.length<=400000):
  Calls prog 90 #[.agg #[.slice A a.length c],.agg #[.slice B b.length d]] w fun e w'=>Bz w (od a b) e w'/\(od a b).length<=a.length+b.length:=by
 have tv:Ext w (((w.alloc (.cells #[.slice A a.length c] 39)).alloc (.cells #[.slice B b.length d] 39)).alloc (.cells #[.slice none 0 0] 39)):=(((Ext.refl w).alloc _).alloc _).alloc _;go_enter func90,ntmps90;go_upto_region 1 with (fail)
 have c1:(((w.alloc (.cells #[.slice A a.length c] 39)).alloc (.cells #[.slice B b.length d] 39)).alloc (.cells #[.slice none 0 0] 39)).cell? ⟨w.heap.size,0,none⟩=some (.slice A a.length c):=by simp [go_sem]
 have c2:(((w.alloc (.cells #[.slice A a.length c] 39)).alloc (.cells #[.slice B b.length d] 39)).alloc (.cells #[.slice none 0 0] 39)).cell? ⟨w.heap.size+1,0,none⟩=some (.slice B b.length d):=by simp [go_sem]
 have c3:(((w.alloc (.cells #[.slice A a.length c] 39)).alloc (.cells #[.slice B b.length d] 39)).alloc (.cells #[.slice none 0 0] 39)).cell? ⟨w.heap.size+1+1,0,none⟩=some (.slice none 0 0):=by simp [go_sem]
 have f3:(((w.alloc (.cells #[.slice A a.length c] 39)).alloc (.cells #[.slice B b.length d] 39)).alloc (.cells #[.slice none 0 0] 39)).frozen? ⟨w.heap.size+1+1,0,none⟩=false:=by simp [go_sem]
 have z3:w.heap.size+1+1<(((w.alloc (.cells #[.slice A a.length c] 39)).alloc (.cells #[.slice B b.length d] 39)).alloc (.cells #[.slice none 0 0] 39)).heap.size:=by simp
 generalize (((w.alloc (.cells #[.slice A a.length c] 39)).alloc (.cells #[.slice B b.length d] 39)).alloc (.cells #[.slice none 0 0] 39))=w3 at*;have zr:w.heap.size<=w.heap.size+1+1:=by omega
 replace ha:=ha.ext tv;replace hb:=hb.ext tv;go_wp2;go_loopw [5,6,7] (fun v i j wr=>∃p q:Nat,i=.int .i64 p/\j=.int .i64 q/\azE w3 a b v p q wr) (fun _ i j _=>a.length+b.length-((intOf i).toNat+(intOf j).toNat));case atStart=>exact⟨0,0,rfl,rfl,[],ZM a b,World.ownsRow_nil _ _ _ _,Ext.refl _⟩
 case round=>
  obtain⟨p,q,rfl,rfl,M,hI,cd,hx⟩:=hrel;have hp:=hI.1;have hq:=hI.2.1;have hM:=hI.2.2.1;replace c1:=hx.cell c1;replace c2:=hx.cell c2;obtain⟨V,cv,rfl,_⟩:=iX cd;by_cases hpl:p<a.length/\q<b.length
  ·obtain⟨hpl,hql⟩:=hpl;obtain⟨b1,o1,rfl,p0,p1⟩:=ha p hpl;obtain⟨b2,o2,rfl,q0,q1⟩:=hb q hql;have hb1:b1<w3.heap.size:=gz p0;have aVY:b2<w3.heap.size:=gz q0;have E1:w.heap.size<w3.heap.size:=by omega
   have hb4:w.heap.size+1<w3.heap.size:=by omega
   replace p0:=hx.cell p0;replace p1:=hx.cell p1;replace q0:=hx.cell q0;replace q1:=hx.cell q1;have hIa:a[p].t<=b[q].t->kV a b (M++n9 a[p] b[q]) (p+1) q:=fun hle=>avw na nb hI hpl hql hle;have hIb:b[q].t<=a[p].t->kV a b (M++n9 a[p] b[q]) p (q+1):=fun hle=>avx na nb hI hpl hql hle;have dH:dJ a[p].f a[p].t=true/\dJ b[q].f b[q].t=true:=by
    obtain⟨a1,a2,a3⟩:=na.get hpl;obtain⟨b1,b2,b3⟩:=nb.get hql;unfold dJ;simp;omega
   generalize a[p]=s at*;generalize b[q]=u at*;have HIA:=Lib.hid hIa;have HIB:=Lib.hid hIb;have hmt:meets s.f s.t u.f u.t=decide (max s.f u.f<min s.t u.t):=by unfold meets;rw [dH.1,dH.2];rfl
   have HM:=Lib.hid hmt;have i0:(0:Int)<=(p:Int):=by omega
   have i1:(p:Int)<(a.length:Int):=by omega
   have i2:(0:Int)<=(q:Int):=by omega
   have i3:(q:Int)<(b.length:Int):=by omega
   clear hIa hIb hI ha hb dH hmt c3 f3;go_wp2;obtain⟨mf,mt,mb,hmb,HMC,HML⟩:∃(mf mt:Int) (mb:Bool),mb=decide (max s.f u.f<min s.t u.t)/\Hid (∀W,Calls prog 49 #[.agg #[.int .i64 s.f,.int .i64 s.t],.agg #[.int .i64 u.f,.int .i64 u.t]] W fun e w'=>e=.returned (.tuple #[.agg #[.int .i64 mf,.int .i64 mt],.bool mb])/\Ext W w')/\Hid (n9 s u=if mb then [⟨mf,mt⟩]else []):=by
    have hm:=fun W=>Ey s.f s.t u.f u.t W;cases e1:decide (max s.f u.f<min s.t u.t)
    ·have hv:jH s.f s.t u.f u.t=.agg #[.int .i64 0,.int .i64 0]:=by unfold jH;rw [HM.out,e1];rfl
     rw [hv,HM.out,e1]at hm;refine⟨0,0,false,rfl,Lib.hid hm,Lib.hid ?_⟩;unfold n9;rw [if_neg (by simpa using e1)]
     rfl
    ·have hv:jH s.f s.t u.f u.t=.agg #[.int .i64 (max s.f u.f),.int .i64 (min s.t u.t)]:=by unfold jH;rw [HM.out,e1];rfl
     rw [hv,HM.out,e1]at hm;refine⟨_,_,true,rfl,Lib.hid hm,Lib.hid ?_⟩;unfold n9;rw [if_pos (by simpa using e1)]
     rfl
   clear HM hmb;have hlp:M.length<=800000:=by omega
   have HE:=Lib.hid (Ext.refl wr).drew;have hz:wr.heap.size<=wr.heap.size:=Nat.le_refl _;go_region_held3 (fun w'=>w'.cell? ⟨w.heap.size,0,none⟩=some (.slice (some ⟨b1,o1,none⟩) a.length c)/\w'.cell? ⟨w.heap.size+1,0,none⟩=some (.slice (some ⟨b2,o2,none⟩) b.length d)/\w'.cell? ⟨b1,o1+p*2,none⟩=some (.int .i64 s.f)/\w'.cell? ⟨b1,o1+p*2+1,none⟩=some (.int .i64 s.t)/\w'.cell? ⟨b2,o2+q*2,none⟩=some (.int .i64 u.f)/\w'.cell? ⟨b2,o2+q*2+1,none⟩=some (.int .i64 u.t))
    ((
     refine(fun hE=>⟨Ext.cell hE c1,Ext.cell hE c2,Ext.cell hE p0,Ext.cell hE p1,Ext.cell hE q0,Ext.cell hE q1⟩:Ext wr _->_) ?_
     (repeat' first|exact HE.out|exact Ext.refl _|refine Ext.drew ?_|refine Ext.alloc ?_ _|refine Ext.setCell ?_ ?_ _)
     (all_goals first|exact Nat.le_refl _|exact hz)))
    (first
     |(
      go_at_call 49
      (with_reducible refine(HMC.out _).mono ?_);rintro e wn ⟨rfl,hxn⟩;have hE2:Ext wr wn:=by
       refine Ext.trans ?_ hxn
       (repeat' first|exact HE.out|exact Ext.refl _|refine Ext.drew ?_|refine Ext.alloc ?_ _)
      (try (refine(fun(y0:wn.cell? ⟨wr.heap.size,0,none⟩=some (.int .i64 0))=>?_) ?_;rotate_left;· (refine hxn.cell ?_;simp [go_sem];done)))
      (try (refine(fun(y1:wn.cell? ⟨wr.heap.size,1,none⟩=some (.int .i64 0))=>?_) ?_;rotate_left;· (refine hxn.cell ?_;simp [go_sem];done)))
      (try (refine(fun(g0:wn.frozen? ⟨wr.heap.size,0,none⟩=false)=>?_) ?_;rotate_left;· (refine(hxn.frozen ?_).trans ?_<;>simp [go_sem];done)))
      (try (refine(fun(g1:wn.frozen? ⟨wr.heap.size,1,none⟩=false)=>?_) ?_;rotate_left;· (refine(hxn.frozen ?_).trans ?_<;>simp [go_sem];done)))
      have hz:=hE2.size;replace HE:=Lib.hid hE2;clear hxn hE2))
   ·have ZO:Ext wr (wn.alloc (.cells #[.int .i64 mf,.int .i64 mt] 32)):=HE.out.alloc _;have d0:(wn.alloc (.cells #[.int .i64 mf,.int .i64 mt] 32)).cell? ⟨wn.heap.size,0,none⟩=some (.int .i64 mf):=by simp
    have d1:(wn.alloc (.cells #[.int .i64 mf,.int .i64 mt] 32)).cell? ⟨wn.heap.size,1,none⟩=some (.int .i64 mt):=by simp
    clear HMC;generalize wn.alloc (.cells #[.int .i64 mf,.int .i64 mt] 32)=W at*;generalize wn.heap.size=pb at*;have C1:=ZO.cell c1;have C2:=ZO.cell c2;have P1:=ZO.cell p1;have Q1:=ZO.cell q1;have bK:=ck cd ZO;have gM:=hx.trans ZO;have yn:=gM.size;clear c1 c2 p0 p1 q0 q1 cd hx ZO HE hz;cases mb
    ·go_wp2;cases e2:decide (s.t<=u.t);all_goals
      refine bW (by kernel_rfl) (by kernel_rfl) ?_
      intro X _ g hg rj;have k1:∀n,(g n).cell? ⟨w.heap.size,0,none⟩=some (.slice (some ⟨b1,o1,none⟩) a.length c):=fun n=>(hg n).cell C1;have k2:∀n,(g n).cell? ⟨w.heap.size+1,0,none⟩=some (.slice (some ⟨b2,o2,none⟩) b.length d):=fun n=>(hg n).cell C2;have k4:∀n,(g n).cell? ⟨b1,o1+p*2+1,none⟩=some (.int .i64 s.t):=fun n=>(hg n).cell P1;have k6:∀n,(g n).cell? ⟨b2,o2+q*2+1,none⟩=some (.int .i64 u.t):=fun n=>(hg n).cell Q1;repeat (go_big_quiet_step (fail))
      refine wpQuiet_nil ?_;rintro w' ⟨n,rfl⟩;have rE:=hg n;clear hg rj k1 k2 k4 k6;go_wp2
     ·have e3:u.t<=s.t:=by
       have:¬s.t<=u.t:=by simpa using e2
       omega
      go_roundw;case rel=>exact⟨p,q+1,rfl,by go_num,_,HIB.out e3,by rw [HML.out];exact(by simpa using ck bK rE),gM.trans rE⟩
      case measure=>simp [intOf];omega
     ·have e3:s.t<=u.t:=by simpa using e2
      go_roundw;case rel=>exact⟨p+1,q,by go_num,rfl,_,HIA.out e3,by rw [HML.out];exact(by simpa using ck bK rE),gM.trans rE⟩
      case measure=>simp [intOf];omega
    ·go_wp2_with (at_builtin;refine bX _ rfl _ _ 37 rfl w3.heap.size 32 _ 2 16 underlying37 dY rfl (by omega) _ _ _ rfl bK 1 1 _ (by simp) _ rfl rfl (by simp [Value.oneCell']) (by simp [maxLen];omega) (by omega) yn ?_;intro v1 w1 iy hm)
     have hx4:=fX gM bK hm;replace C1:=jG bK hm (p:=⟨w.heap.size,0,none⟩) E1 C1;replace C2:=jG bK hm (p:=⟨w.heap.size+1,0,none⟩) hb4 C2;replace P1:=jG bK hm (p:=⟨b1,o1+p*2+1,none⟩) hb1 P1;replace Q1:=jG bK hm (p:=⟨b2,o2+q*2+1,none⟩) aVY Q1;clear gM bK hm d0 d1;cases e2:decide (s.t<=u.t);all_goals
      refine bW (by kernel_rfl) (by kernel_rfl) ?_
      intro X _ g hg rj;have k1:∀n,(g n).cell? ⟨w.heap.size,0,none⟩=some (.slice (some ⟨b1,o1,none⟩) a.length c):=fun n=>(hg n).cell C1;have k2:∀n,(g n).cell? ⟨w.heap.size+1,0,none⟩=some (.slice (some ⟨b2,o2,none⟩) b.length d):=fun n=>(hg n).cell C2;have k4:∀n,(g n).cell? ⟨b1,o1+p*2+1,none⟩=some (.int .i64 s.t):=fun n=>(hg n).cell P1;have k6:∀n,(g n).cell? ⟨b2,o2+q*2+1,none⟩=some (.int .i64 u.t):=fun n=>(hg n).cell Q1;repeat (go_big_quiet_step (fail))
      refine wpQuiet_nil ?_;rintro w' ⟨n,rfl⟩;have rE:=hg n;clear hg rj k1 k2 k4 k6;go_wp2
     ·have e3:u.t<=s.t:=by
       have:¬s.t<=u.t:=by simpa using e2
       omega
      go_roundw;case rel=>exact⟨p,q+1,rfl,by go_num,_,HIB.out e3,by rw [HML.out];exact(by rw [if_pos trivial,cu,eX,List.length_append];exact ck iy rE),hx4.trans rE⟩
      case measure=>simp [intOf];omega
     ·have e3:s.t<=u.t:=by simpa using e2
      go_roundw;case rel=>exact⟨p+1,q,by go_num,rfl,_,HIA.out e3,by rw [HML.out];exact(by rw [if_pos trivial,cu,eX,List.length_append];exact ck iy rE),hx4.trans rE⟩
      case measure=>simp [intOf];omega
   ·have ZO:Ext wr ((wn.setCell ⟨wr.heap.size,0,none⟩ (.int .i64 mf)).setCell ⟨wr.heap.size,1,none⟩ (.int .i64 mt)):=(HE.out.setCell (Nat.le_refl _) _).setCell (Nat.le_refl _) _;have d0:((wn.setCell ⟨wr.heap.size,0,none⟩ (.int .i64 mf)).setCell ⟨wr.heap.size,1,none⟩ (.int .i64 mt)).cell? ⟨wr.heap.size,0,none⟩=some (.int .i64 mf):=by simp [go_sem,y0]
    have d1:((wn.setCell ⟨wr.heap.size,0,none⟩ (.int .i64 mf)).setCell ⟨wr.heap.size,1,none⟩ (.int .i64 mt)).cell? ⟨wr.heap.size,1,none⟩=some (.int .i64 mt):=by simp [go_sem,y1]
    clear HMC;generalize (wn.setCell ⟨wr.heap.size,0,none⟩ (.int .i64 mf)).setCell ⟨wr.heap.size,1,none⟩ (.int .i64 mt)=W at*;clear y0 y1 g0 g1;generalize wr.heap.size=pb at*;have C1:=ZO.cell c1;have C2:=ZO.cell c2;have P1:=ZO.cell p1;have Q1:=ZO.cell q1;have bK:=ck cd ZO;have gM:=hx.trans ZO;have yn:=gM.size;clear c1 c2 p0 p1 q0 q1 cd hx ZO HE hz;cases mb
    ·go_wp2;cases e2:decide (s.t<=u.t);all_goals
      refine bW (by kernel_rfl) (by kernel_rfl) ?_
      intro X _ g hg rj;have k1:∀n,(g n).cell? ⟨w.heap.size,0,none⟩=some (.slice (some ⟨b1,o1,none⟩) a.length c):=fun n=>(hg n).cell C1;have k2:∀n,(g n).cell? ⟨w.heap.size+1,0,none⟩=some (.slice (some ⟨b2,o2,none⟩) b.length d):=fun n=>(hg n).cell C2;have k4:∀n,(g n).cell? ⟨b1,o1+p*2+1,none⟩=some (.int .i64 s.t):=fun n=>(hg n).cell P1;have k6:∀n,(g n).cell? ⟨b2,o2+q*2+1,none⟩=some (.int .i64 u.t):=fun n=>(hg n).cell Q1;repeat (go_big_quiet_step (fail))
      refine wpQuiet_nil ?_;rintro w' ⟨n,rfl⟩;have rE:=hg n;clear hg rj k1 k2 k4 k6;go_wp2
     ·have e3:u.t<=s.t:=by
       have:¬s.t<=u.t:=by simpa using e2
       omega
      go_roundw;case rel=>exact⟨p,q+1,rfl,by go_num,_,HIB.out e3,by rw [HML.out];exact(by simpa using ck bK rE),gM.trans rE⟩
      case measure=>simp [intOf];omega
     ·have e3:s.t<=u.t:=by simpa using e2
      go_roundw;case rel=>exact⟨p+1,q,by go_num,rfl,_,HIA.out e3,by rw [HML.out];exact(by simpa using ck bK rE),gM.trans rE⟩
      case measure=>simp [intOf];omega
    ·go_wp2_with (at_builtin;refine bX _ rfl _ _ 37 rfl w3.heap.size 32 _ 2 16 underlying37 dY rfl (by omega) _ _ _ rfl bK 1 1 _ (by simp) _ rfl rfl (by simp [Value.oneCell']) (by simp [maxLen];omega) (by omega) yn ?_;intro v1 w1 iy hm)
     have hx4:=fX gM bK hm;replace C1:=jG bK hm (p:=⟨w.heap.size,0,none⟩) E1 C1;replace C2:=jG bK hm (p:=⟨w.heap.size+1,0,none⟩) hb4 C2;replace P1:=jG bK hm (p:=⟨b1,o1+p*2+1,none⟩) hb1 P1;replace Q1:=jG bK hm (p:=⟨b2,o2+q*2+1,none⟩) aVY Q1;clear gM bK hm d0 d1;cases e2:decide (s.t<=u.t);all_goals
      refine bW (by kernel_rfl) (by kernel_rfl) ?_
      intro X _ g hg rj;have k1:∀n,(g n).cell? ⟨w.heap.size,0,none⟩=some (.slice (some ⟨b1,o1,none⟩) a.length c):=fun n=>(hg n).cell C1;have k2:∀n,(g n).cell? ⟨w.heap.size+1,0,none⟩=some (.slice (some ⟨b2,o2,none⟩) b.length d):=fun n=>(hg n).cell C2;have k4:∀n,(g n).cell? ⟨b1,o1+p*2+1,none⟩=some (.int .i64 s.t):=fun n=>(hg n).cell P1;have k6:∀n,(g n).cell? ⟨b2,o2+q*2+1,none⟩=some (.int .i64 u.t):=fun n=>(hg n).cell Q1;repeat (go_big_quiet_step (fail))
      refine wpQuiet_nil ?_;rintro w' ⟨n,rfl⟩;have rE:=hg n;clear hg rj k1 k2 k4 k6;go_wp2
     ·have e3:u.t<=s.t:=by
       have:¬s.t<=u.t:=by simpa using e2
       omega
      go_roundw;case rel=>exact⟨p,q+1,rfl,by go_num,_,HIB.out e3,by rw [HML.out];exact(by rw [if_pos trivial,cu,eX,List.length_append];exact ck iy rE),hx4.trans rE⟩
      case measure=>simp [intOf];omega
     ·have e3:s.t<=u.t:=by simpa using e2
      go_roundw;case rel=>exact⟨p+1,q,by go_num,rfl,_,HIA.out e3,by rw [HML.out];exact(by rw [if_pos trivial,cu,eX,List.length_append];exact ck iy rE),hx4.trans rE⟩
      case measure=>simp [intOf];omega
  ·have he:p=a.length\/q=b.length:=by
    by_cases h1:p<a.length
    ·exact .inr (by have:=hq;omega)
    ·exact .inl (by omega)
   have hG:=ZN na nb hI he;have hL:=Fj hI;subst hG;have k3:=hx.cell c3;have kf:wr.frozen? ⟨w.heap.size+1+1,0,none⟩=false:=(hx.frozen (by simpa using z3)).trans f3
   have gM:=tv.trans hx;have z3':=Nat.lt_of_lt_of_le z3 hx.size;have hlp:(od a b).length<=800000:=by omega
   clear hI ha hb c3 f3 he hM;by_cases hpa:p<a.length
   ·have hqa:¬q<b.length:=by omega
    go_wp2;refine bodyPost_ret (v:=.agg #[.slice V (od a b).length cv]) (by simp [results,results90,go_sem,k3]) rfl ⟨⟨V,cv,rfl,Lib.hid ?_,Lib.hid (Bx cd tv.size),?_⟩,hL⟩
    ·exact Bv cd (by exact z3) _
    ·exact gM.setCell zr _
   ·go_wp2;refine bodyPost_ret (v:=.agg #[.slice V (od a b).length cv]) (by simp [results,results90,go_sem,k3]) rfl ⟨⟨V,cv,rfl,Lib.hid ?_,Lib.hid (Bx cd tv.size),?_⟩,hL⟩
    ·exact Bv cd (by exact z3) _
    ·exact gM.setCell zr _
end Go.Proofs.YtmcddajniiaieaaGreatDoor.Rg
namespace Go.Proofs.YtmcddajniiaieaaGreatDoor
open Go Go.Conc Go.ConcM Go.Proofs.Tryz Sim
def Flat(v:Value):Prop:=∀(U:Nat->Prop) (n:Nat),VR Fw U (fun r=>r) n v v
theorem Flat.int(k:IntKind)(x:Int):Flat (.int k x):=fun _ _=>.int k x
theorem Flat.bool(b:Bool):Flat (.bool b):=fun _ _=>.bool b
theorem Flat.Ul{x y:Value}(hx:Flat x)(hy:Flat y):Flat (.agg #[x,y]):=fun U n=>.agg _ _ rfl fun i hi=>by
 rcases i with _|_|i
 ·exact hx U n
 ·exact hy U n
 ·exact absurd hi (by simp)
theorem Flat.aZJ{x y:Value}(hx:Flat x)(hy:Flat y):Flat (.tuple #[x,y]):=fun U n=>.tuple _ _ rfl fun i hi=>by
 rcases i with _|_|i
 ·exact hx U n
 ·exact hy U n
 ·exact absurd hi (by simp)
theorem Flat.eq{F:FuncId->Bool}{U:Nat->Prop}{ρ:dF}{n:Nat}{v v':Value}(h:Flat v)(k:VR Fw U ρ n v v'):v'=v:=VR.same (h U 0) k (Nat.zero_le _) fun r hr=>absurd hr (Nat.not_lt_zero _)
theorem ar1{U:Nat->Prop}{ρ:dF}{n:Nat}{x x':Value}(h:VR Fw U ρ n x x'):AR Fw U ρ n #[x] #[x']:=AR.one h
theorem ar2{U:Nat->Prop}{ρ:dF}{n:Nat}{x x' y y':Value}(h:VR Fw U ρ n x x')(k:VR Fw U ρ n y y'):AR Fw U ρ n #[x,y] #[x',y']:=(AR.one h).push k
theorem ar3{U:Nat->Prop}{ρ:dF}{n:Nat}{x x' y y' z z':Value}(h:VR Fw U ρ n x x')(k:VR Fw U ρ n y y')(l:VR Fw U ρ n z z'):AR Fw U ρ n #[x,y,z] #[x',y',z']:=((AR.one h).push k).push l
section
variable {main:Bool} {Stop:View->Goroutine->World->Prop} {V:View} {w:World} {S:Act->List Item->Frame} {a:Act} {k:List Item} {cs:List Frame} {ops:Array Oper} {i d:Nat} {rest:List Nat} {o:Oper}
theorem qK{f:FuncId}{xs:Array Operand}{gY:Array TypeId}{vl:Value}(ho:ops[i]? =some o)(hw:Region.wanted o (yielded ops a.tmps)=true)(hS:fg prog main S)(hd:o.dst=some d)(aU:d<a.tmps.size)(hT:Tidy V w)(aE:o.op=.call {callee:=.value (.func f),args:=xs,argTypes:=gY})
  (hf:Fw f=true)(sb:∀U n,AR Fw U (fun r=>r) n (xs.map a.eval) (xs.map a.eval))(hl:∀w':World,Calls prog f (xs.map a.eval) w' fun e cO=>e=.returned vl/\Rg.Ext w' cO)(hv:Flat vl)
  (K:∀a' V' w',a'.tmps.size=a.tmps.size->a'.defers=a.defers->(∀j,d≠j->a'.eval (.tmp j)=a.eval (.tmp j))->a'.eval (.tmp d)=vl->aG aI aD V w V' w'->Tidy V' w'->Loc prog main Stop V' (G (S a' (.inRegion ops rest::k)) cs) w'):
  Loc prog main Stop V (G (S a (.inRegion ops (i::rest)::k)) cs) w:=by
 refine ZI (R:=fun v _=>v=vl) (fun _=>False) ho hw hS aE hd aU hf hT ⟨fun b h=>h.elim,fun b h=>h.elim⟩ (sb _ _) (fun t=>(hl _).mono ?_) fun v wl ρ n a' V' w' hR hB s dd nn hW hT' _=>K a' V' w' s dd nn ?_ hW hT'
 ·rintro e wl ⟨rfl,hx⟩;exact⟨vl,rfl,hx,rfl⟩
 ·subst hR;exact Flat.eq (F:=Fw) hv hB.val
def gI(w:World)(C:Nat->Prop)(v:Value)(l:List Rg.Sp):Prop:=∃A c,v=.agg #[.slice A l.length c]/\Rg.rQ w A l/\∀ad,A=some ad->C ad.block
theorem Um{w w':World}{A:Option Addr}{l:List Rg.Sp}(h:Rg.rQ w A l)(k:∀ad,A=some ad->∀x:Addr,x.block=ad.block->w'.cell? x=w.cell? x):Rg.rQ w' A l:=fun j hj=>by
 obtain⟨b,o,e,p0,p1⟩:=h j hj;exact⟨b,o,e,(k _ e ⟨b,o+j*2,none⟩ rfl).trans p0,(k _ e ⟨b,o+j*2+1,none⟩ rfl).trans p1⟩
theorem gI.blocks{w w':World}{C C':Nat->Prop}{v:Value}{l:List Rg.Sp}(h:gI w C v l)(hC:∀b,C b->C' b/\w'.heap[b]? =w.heap[b]?):gI w' C' v l:=by
 obtain⟨A,c,h1,h2,h3⟩:=h;refine⟨A,c,h1,Um h2 fun ad e x hx=>?_,fun ad e=>(hC _ (h3 ad e)).1⟩;simp only [World.cell?,hx,(hC _ (h3 ad e)).2]
theorem Closed.aC{V V':View}{w w':World}{B:Nat->Prop}{A:Addr->Prop}{C:Nat->Prop}(h:Closed V w C)(k:aG B A V w V' w')(hB:∀b,C b->¬B b):Closed V' w' C:=⟨h.tt,fun b hb=>by
 obtain⟨h1,o,h2,h3⟩:=h b hb;exact⟨k.mine b h1,o,(k.own b h1 (hB b hb)).trans h2,OR.gF h3 (fun _=>id) k.size⟩⟩
theorem Closed.or{V:View}{w:World}{C D:Nat->Prop}(h:Closed V w C)(k:Closed V w D):Closed V w (fun b=>C b\/D b):=⟨fun b hb=>hb.elim (h.tt b) (k.tt b),fun b hb=>by
 rcases hb with hb|hb
 ·obtain⟨h1,o,h2,h3⟩:=h b hb;exact⟨h1,o,h2,OR.gF h3 (fun _=>.inl) (Nat.le_refl _)⟩
 ·obtain⟨h1,o,h2,h3⟩:=k b hb;exact⟨h1,o,h2,OR.gF h3 (fun _=>.inr) (Nat.le_refl _)⟩⟩
theorem Closed.none{V:View}{w:World}:Closed V w (fun _=>False):=⟨fun _ h=>h.elim,fun _ h=>h.elim⟩
theorem Closed.one{V:View}{w:World}{g:Nat}{c:Array Value}{e:TypeId}{fr:Nat×Nat}(hgl:prog.globals.size<=g)(h:ba V w g (.cells c e fr))(hc:∀i (hi:i<c.size),Flat c[i]):Closed V w (· =g):=⟨fun b hb=>by rw [show b=g from hb];exact hgl,fun b hb=>by
 subst hb;refine⟨h.1,_,h.2,.cells c c e fr fr ⟨rfl,fun i hi=>?_⟩ fun _ h=>h⟩;rw [iO (Array.getElem?_eq_getElem hi)];exact hc i hi _ _⟩
theorem gA{C:Nat->Prop}{A:Option Addr}{l:List Rg.Sp}{t:Nat->Question->Nat}(h:Rg.rQ w A l)(hC:∀ad,A=some ad->C ad.block):Rg.rQ (tp (ik C w) t) A l:=by
 classical
 refine Um h fun ad e x hx=>?_;have:(tp (ik C w) t).heap[x.block]? =w.heap[x.block]? :=by
  rw [tP,qZ,hx];cases hh:w.heap[ad.block]? with
  |none=>rfl
  |some o=>simp [hC ad e]
 simp only [World.cell?,this]
theorem avy{C:Nat->Prop}{l:List Rg.Sp}{A:Option Addr}{c n:Nat}{wl w':World}{ρ:dF}{v:Value}(h:alq Fw C V w wl w.heap.size (.agg #[.slice A l.length c]) ρ n v w')(hs:Rg.rQ wl A l):gI w' (fun b=>∃r,r<n/\(C r\/w.heap.size<=r)/\ρ r=b) v l:=by
 have hv:=h.val;cases hv with
 |agg _ cL fO hh=>
  have h0:=hh 0 (by simp)
  have e1:(#[Value.slice A l.length c]:Array Value).getD 0 Go.undef=.slice A l.length c:=rfl;rw [e1]at h0;have oe:cL=#[cL.getD 0 Go.undef]:=by
   apply Array.ext
   ·simpa using fO.symm
   ·intro i h1 h2;simp at h2;subst h2;simp [Array.getD_eq_getD_getElem?,Array.getElem?_eq_getElem h1]
  rw [oe];generalize cL.getD 0 Go.undef=x at h0;cases h0 with
  |dU _ _=>
   have hz:Rg.rQ w' none l:=fun j hj=>by obtain⟨b,o,e,_⟩:=hs j hj;cases e
   exact⟨none,c,rfl,hz,fun ad e=>by cases e⟩
  |slice ad _ _ hA=>
   suffices hz:Rg.rQ w' (some (ra ρ ad)) l from⟨some (ra ρ ad),c,rfl,hz,fun ad' e=>by cases e;exact⟨ad.block,hA.1,hA.2,rfl⟩⟩
   intro j hj;obtain⟨b,o,e,p0,p1⟩:=hs j hj;cases e;obtain⟨ob,ob',b1,b2,b3⟩:=h.blk b hA.1 hA.2;have key:∀q x,wl.cell? ⟨b,q,none⟩=some (.int .i64 x)->w'.cell? ⟨ρ b,q,none⟩=some (.int .i64 x):=fun q x hq=>by
    simp only [World.cell?,b1,b2]at hq⊢;cases b3 with
    |cells c1 c2 e1 f1 f2 ha _=>
     simp only [Option.isSome_none,Bool.false_eq_true,if_false]at hq⊢;obtain⟨y,hy,hr⟩:=ha.get? hq;rw [hy];cases hr;rfl
    |number a l hA=>cases hq
   exact⟨ρ b,o,rfl,key _ _ p0,key _ _ p1⟩
theorem GI{f:FuncId}{xs:Array Operand}{gY:Array TypeId}{l:List Rg.Sp}(C:Nat->Prop)(ho:ops[i]? =some o)(hw:Region.wanted o (yielded ops a.tmps)=true)(hS:fg prog main S)(hd:o.dst=some d)(aU:d<a.tmps.size)(hT:Tidy V w)(aE:o.op=.call {callee:=.value (.func f),args:=xs,argTypes:=gY})
  (hf:Fw f=true)(hC:Closed V w C)(sb:AR Fw (fun b=>C b\/w.heap.size<=b) (fun r=>r) w.heap.size (xs.map a.eval) (xs.map a.eval))(hl:∀t,Calls prog f (xs.map a.eval) (tp (ik C w) t) (Rg.Bz (tp (ik C w) t) l))
  (K:∀C' a' V' w',a'.tmps.size=a.tmps.size->a'.defers=a.defers->(∀j,d≠j->a'.eval (.tmp j)=a.eval (.tmp j))->aG aI aD V w V' w'->Tidy V' w'->Closed V' w' C'->(∀b,C b->C' b)->(∀b,C' b->C b\/w.heap.size<=b)->gI w' C' (a'.eval (.tmp d)) l->Loc prog main Stop V' (G (S a' (.inRegion ops rest::k)) cs) w'):
  Loc prog main Stop V (G (S a (.inRegion ops (i::rest)::k)) cs) w:=by
 refine ZI (R:=fun v wl=>∃A c,v=.agg #[.slice A l.length c]/\Rg.rQ wl A l) C ho hw hS aE hd aU hf hT hC sb (fun t=>(hl t).mono ?_) fun v wl ρ n a' V' w' hR hB s dd nn hW hT' hC'=>K _ a' V' w' s dd nn hW hT' hC' (fun b hb=>?_) (fun b hb=>?_) ?_
 ·rintro e wl ⟨A,c,rfl,h1,_,hx⟩;exact⟨_,rfl,hx,A,c,rfl,h1.out⟩
 ·have:=hT.low.own b (hC b hb).1;exact⟨b,Nat.lt_of_lt_of_le this hB.le,.inl hb,hB.old b this⟩
 ·obtain⟨r,h1,h2,rfl⟩:=hb;by_cases hr:r<w.heap.size
  ·rw [hB.old r hr];exact .inl (h2.resolve_right (by omega))
  ·exact .inr (hB.fresh r (by omega) h1).1
 ·obtain⟨A,c,rfl,hs⟩:=hR;exact avy hB hs
theorem avz{f:FuncId}{xs:Array Operand}{gY:Array TypeId}{vl:Value}(C:Nat->Prop)(ho:ops[i]? =some o)(hw:Region.wanted o (yielded ops a.tmps)=true)(hS:fg prog main S)(hd:o.dst=some d)(aU:d<a.tmps.size)(hT:Tidy V w)(aE:o.op=.call {callee:=.value (.func f),args:=xs,argTypes:=gY})
  (hf:Fw f=true)(hC:Closed V w C)(sb:AR Fw (fun b=>C b\/w.heap.size<=b) (fun r=>r) w.heap.size (xs.map a.eval) (xs.map a.eval))(hl:∀t,Calls prog f (xs.map a.eval) (tp (ik C w) t) fun e cO=>e=.returned vl/\Rg.Ext (tp (ik C w) t) cO)(hv:Flat vl)
  (K:∀a' V' w',a'.tmps.size=a.tmps.size->a'.defers=a.defers->(∀j,d≠j->a'.eval (.tmp j)=a.eval (.tmp j))->a'.eval (.tmp d)=vl->aG aI aD V w V' w'->Tidy V' w'->Loc prog main Stop V' (G (S a' (.inRegion ops rest::k)) cs) w'):
  Loc prog main Stop V (G (S a (.inRegion ops (i::rest)::k)) cs) w:=by
 refine ZI (R:=fun v _=>v=vl) C ho hw hS aE hd aU hf hT hC sb (fun t=>(hl t).mono ?_) fun v wl ρ n a' V' w' hR hB s dd nn hW hT' _=>K a' V' w' s dd nn ?_ hW hT'
 ·rintro e wl ⟨rfl,hx⟩;exact⟨vl,rfl,hx,rfl⟩
 ·subst hR;exact Flat.eq (F:=Fw) hv hB.val
theorem gI.vr{C U:Nat->Prop}{v:Value}{l:List Rg.Sp}(h:gI w C v l)(hC:∀b,C b->U b/\b<w.heap.size):VR Fw U (fun r=>r) w.heap.size v v:=by
 obtain⟨A,c,rfl,_,h3⟩:=h;refine .agg _ _ rfl fun i hi=>?_;have:i=0:=by simp at hi;exact hi
 subst this;show VR Fw U (fun r=>r) w.heap.size (.slice A l.length c) (.slice A l.length c)
 cases A with
 |none=>exact .dU _ _
 |some ad=>exact .slice ad _ _ ⟨(hC _ (h3 ad rfl)).2,(hC _ (h3 ad rfl)).1⟩
end
end Go.Proofs.YtmcddajniiaieaaGreatDoor
namespace Go.Proofs.YtmcddajniiaieaaGreatDoor
open Go Go.Conc Go.ConcM
variable {P:Program} {main:Bool} {β:Type} {S:Act->List Item->Frame} {k:List Item} {cs:List Frame} {ops:Array Oper}
section
variable {St:β->View->Goroutine->World->Prop}
def avA(ops:Array Oper):Prop:=∀m:Region.Mode,∃rk:Nat->Nat,∀(i:Nat) (o:Oper),ops[i]? =some o->∀e∈o.after,Region.binds m e=true->rk e.on<rk i/\e.on<ops.size
theorem alR(hS:fg P main S)(B:(Nat->Prop)->β->Act->View->World->Prop)(yd:avA ops)
  (K:∀ex q a V w,(∀i,i<ops.size->ex i)->B ex q a V w->Loc P main (St q) V (G (S a (.inRegion ops []::k)) cs) w)
  (step:∀(ex:Nat->Prop) (i:Nat) (o:Oper) (rest:List Nat),ops[i]? =some o->¬ex i->(∀j∈Oper.fI o,ex j)->(∀j oj,ops[j]? =some oj->ex j->∀d∈Oper.fI oj,ex d)->∀q a V w,B ex q a V w->
   (∀q' a' V' w',B (fun j=>j=i\/ex j) q' a' V' w'->Loc P main (St q') V' (G (S a' (.inRegion ops rest::k)) cs) w')->Loc P main (St q) V (G (S a (.inRegion ops (i::rest)::k)) cs) w)
  (m:Region.Mode):∀(fuel t:Nat) (listed:Array Bool) (q:β) (a:Act) (V:View) (w:World),listed.size=ops.size->unl ops.size listed<=fuel->(∀j oj,ops[j]? =some oj->listed.getD j false=true->∀d∈Oper.fI oj,listed.getD d false=true)->B (fun j=>listed.getD j false=true) q a V w->
   Loc P main (St q) V (G (S a (.inRegion ops (Region.linearise.go m ops fuel t listed [])::k)) cs) w:=by
 have all:∀(listed:Array Bool),listed.size=ops.size->(List.range ops.size).filter (fun i=>!listed.getD i true&&((ops[i]?).map (·.after.all fun e=>!Region.binds m e||listed.getD e.on false)).getD false)=[]->∀i,i<ops.size->listed.getD i false=true:=by
  intro listed fO h;obtain⟨rk,hrk⟩:=yd m;suffices H:∀n i,rk i=n->i<ops.size->listed.getD i false=true from fun i=>H _ i rfl
  intro n;induction n using Nat.strongRecOn with
  |_ n ih=>
   intro i hn hi;subst hn;have h1:=List.filter_eq_nil_iff.1 h i (List.mem_range.2 hi);have hd:listed.getD i true=listed.getD i false:=by simp [Array.getD_eq_getD_getElem?,Array.getElem?_eq_getElem (show i<listed.size by omega)]
   rw [←hd];cases hl:listed.getD i true with
   |true=>rfl
   |false=>
    exfalso;apply h1;rw [hl];simp only [Bool.not_false,Bool.true_and,Array.getElem?_eq_getElem hi,Option.map_some,Option.getD_some];rw [Array.all_eq_true_iff_forall_mem];intro e he;cases hb:Region.binds m e with
    |false=>rfl
    |true=>
     obtain⟨h3,h4⟩:=hrk i ops[i] (Array.getElem?_eq_getElem hi) e he hb;simp [ih _ h3 e.on rfl h4]
 intro fuel;induction fuel with
 |zero=>
  intro t listed q a V w fO hu ml hB;simp only [Region.linearise.go,List.reverse_nil];refine K _ q a V w (fun i hi=>?_) hB;have h0:(List.range ops.size).filter (fun i=>!listed.getD i true)=[]:=by
   apply List.eq_nil_of_length_eq_zero;unfold unl at hu;omega
  have:=List.filter_eq_nil_iff.1 h0 i (List.mem_range.2 hi);simp [Array.getD_eq_getD_getElem?,Array.getElem?_eq_getElem (show i<listed.size by omega)]at this⊢
  exact this
 |succ fuel ih=>
  intro t listed q a V w fO hu ml hB;simp only [Region.linearise.go];generalize hrs:(List.range ops.size).filter (fun i=>!listed.getD i true&&((ops[i]?).map (·.after.all fun e=>!Region.binds m e||listed.getD e.on false)).getD false)=rs;cases hx:rs[t % rs.length]? with
  |none=>
   have aZK:rs=[]:=by
    cases rs with
    |nil=>rfl
    |cons x xs=>
     have aU:t % (x::xs).length<(x::xs).length:=Nat.mod_lt _ (by simp)
     rw [List.getElem?_eq_getElem aU]at hx;cases hx
   simp only [List.reverse_nil];exact K _ q a V w (fun i hi=>all listed fO (hrs.trans aZK) i hi) hB
  |some i=>
   simp only [];rw [linearise_go_acc,List.reverse_singleton,List.singleton_append];have Cd:i∈rs:=List.mem_of_getElem? hx;rw [←hrs,List.mem_filter]at Cd;obtain⟨hr,hp⟩:=Cd;have hi:=List.mem_range.1 hr;simp only [Bool.and_eq_true,Bool.not_eq_true',Array.getElem?_eq_getElem hi,Option.map_some,Option.getD_some,Array.all_eq_true_iff_forall_mem]at hp;have hnl:¬listed.getD i false=true:=fun e=>by
    have h2:=hp.1;simp [Array.getD_eq_getD_getElem?,Array.getElem?_eq_getElem (show i<listed.size by omega)]at e h2
    rw [h2]at e;cases e
   have aDq:∀d∈Oper.fI ops[i],listed.getD d false=true:=fun d hd=>by
    obtain⟨e,he,rfl⟩:=List.mem_map.1 hd;obtain⟨he1,he2⟩:=List.mem_filter.1 he;have:=hp.2 e (Array.mem_toList_iff.1 he1);rw [akY he2]at this;simpa using this
   refine step _ i ops[i] _ (Array.getElem?_eq_getElem hi) hnl aDq ml q a V w hB fun q' a' V' w' hB'=>?_;have gv:∀j,(listed.setIfInBounds i true).getD j false=true↔j=i\/listed.getD j false=true:=fun j=>by
    by_cases e:i=j
    ·subst e;simp [Array.getD_eq_getD_getElem?,Array.getElem?_setIfInBounds_self_of_lt (show i<listed.size by omega)]
    ·have e':¬j=i:=fun x=>e x.symm;simp [Array.getD_eq_getD_getElem?,Array.getElem?_setIfInBounds_ne e,e']
   refine ih _ _ q' a' V' w' (by simp [fO]) (by have:=axY (n:=ops.size) fO hi hp.1;omega) (fun j oj ho hj d hd=>?_) ?_
   ·rw [gv]at hj⊢;rcases hj with rfl|hj
    ·rw [Array.getElem?_eq_getElem hi]at ho;cases ho;exact .inr (aDq d hd)
    ·exact .inr (ml j oj ho hj d hd)
   ·rw [show(fun j=>(listed.setIfInBounds i true).getD j false=true)=(fun j=>j=i\/listed.getD j false=true)from funext fun j=>propext (gv j)]
    exact hB'
theorem xd{id:Nat}{c:Code}(hS:fg P main S)(e:c=.region id ops true)(B:(Nat->Prop)->β->Act->View->World->Prop)(yd:avA ops){q:β}{a:Act}{V:View}{w:World}
  (hB:∀ex w₁,(∀i,¬ex i)->aP V w w₁->B ex q a V w₁)
  (step:∀(ex:Nat->Prop) (i:Nat) (o:Oper) (rest:List Nat),ops[i]? =some o->¬ex i->(∀j∈Oper.fI o,ex j)->(∀j oj,ops[j]? =some oj->ex j->∀d∈Oper.fI oj,ex d)->∀q a V w,B ex q a V w->
   (∀q' a' V' w',B (fun j=>j=i\/ex j) q' a' V' w'->Loc P main (St q') V' (G (S a' (.inRegion ops rest::k)) cs) w')->Loc P main (St q) V (G (S a (.inRegion ops (i::rest)::k)) cs) w)
  (K:∀ex q a V w,(∀i,i<ops.size->ex i)->B ex q a V w->Loc P main (St q) V (G (S a k) cs) w):Loc P main (St q) V (G (S a (.code c::k)) cs) w:=by
 subst e;refine aGB hS fun t w₁ hr=>?_;have key:∀m t,Loc P main (St q) V (G (S a (.inRegion ops (Region.linearise m ops t)::k)) cs) w₁:=fun m t=>by
  refine alR hS B yd (fun ex q a V w h1 h2=>ai hS (K ex q a V w h1 h2)) step m ops.size t (Array.replicate ops.size false) q a V w₁ (by simp) ?_ (fun j oj _ hj=>?_) (hB _ w₁ (fun i hi=>?_) hr)
  ·unfold unl;exact Nat.le_trans (List.length_filter_le _ _) (by simp)
  ·simp only [Array.getD_eq_getD_getElem?,Array.getElem?_replicate]at hj;split at hj<;>simp at hj
  ·simp only [Array.getD_eq_getD_getElem?,Array.getElem?_replicate]at hi;split at hi<;>simp at hi
 unfold Region.schedule;split
 ·exact key _ _
 ·exact key _ _
end
inductive Spec where
 |val (v:Value)
 |var (c:Array Value) (t:TypeId) (n0:Nat)
 |row (c:Array Value) (t:TypeId) (l n0:Nat)
 |set (C:Nat->Prop) (l:List Rg.Sp) (n0:Nat)
 |own (e:TypeId) (size n:Nat) (xs:List Value) (n0:Nat)
 |any
def Spec.ok:Spec->Value->View->World->Prop
 |.val v,x,_,_=>x=v
 |.var c t n0,x,V,w=>∃n,x=.pointer (some ⟨n,0,none⟩)/\n0<=n/\ba V w n (.cells c t (0,0))
 |.row c t l n0,x,V,w=>∃n,x=.slice (some ⟨n,0,none⟩) l l/\n0<=n/\ba V w n (.cells c t (0,0))
 |.set C l n0,x,V,w=>∃D,Closed V w D/\(∀b,C b->D b)/\(∀b,D b->C b\/n0<=b)/\gI w D x l
 |.own e size n xs n0,x,V,w=>Row V w e size x n xs/\∀g,x.ownBlock=some g->n0<=g
 |.any,_,_,_=>True
theorem Spec.ok.go{s:Spec}{x:Value}{V V':View}{w w':World}(h:s.ok x V w)(k:aG aI aD V w V' w'):s.ok x V' w':=by
 cases s with
 |val v=>exact h
 |var c t n0=>obtain⟨n,h1,h2,h3⟩:=h;exact⟨n,h1,h2,h3.go k⟩
 |row c t l n0=>obtain⟨n,h1,h2,h3⟩:=h;exact⟨n,h1,h2,h3.go k⟩
 |set C l n0=>
  obtain⟨D,h1,h2,h3,h4⟩:=h;exact⟨D,h1.aC k (fun _ _=>id),h2,h3,h4.blocks fun b hb=>⟨hb,k.own b (h1 b hb).1 id⟩⟩
 |own e size n xs n0=>exact⟨h.1.go k,h.2⟩
 |any=>trivial
structure Std(sz:Nat)(ds:List Deferred)(live:List (Nat×Value))(V0:View)(w0:World)(a:Act)(V:View)(w:World):Prop where
 size:a.tmps.size=sz
 defers:a.defers=ds
 live:∀p∈live,a.eval (.tmp p.1)=p.2
 aC:aG aI aD V0 w0 V w
 tidy:Tidy V w
theorem Std.slot{sz:Nat}{ds:List Deferred}{live:List (Nat×Value)}{V0:View}{w0:World}{a:Act}{V:View}{w:World}(h:Std sz ds live V0 w0 a V w)(i:Nat)(v:Value)(hi:(i,v)∈live):a.eval (.tmp i)=v:=h.live (i,v) hi
def lk(n:Nat):List (Nat×Value)->Option Value
 |[]=>none
 |(m,v)::r=>bif Nat.beq n m then some v else lk n r
theorem avB{n:Nat}{v:Value}:∀{l:List (Nat×Value)},lk n l=some v->(n,v)∈l
 |[],h=>by cases h
 |(m,u)::r,h=>by
  unfold lk at h;cases e:Nat.beq n m with
  |true=>rw [e]at h;cases h;rw [Nat.eq_of_beq_eq_true e];exact List.mem_cons_self
  |false=>rw [e]at h;exact List.mem_cons_of_mem _ (avB h)
theorem Std.sl{sz:Nat}{ds:List Deferred}{live:List (Nat×Value)}{V0:View}{w0:World}{a:Act}{V:View}{w:World}(h:Std sz ds live V0 w0 a V w)(i:Nat){v:Value}(e:lk i live=some v):a.eval (.tmp i)=v:=h.live (i,v) (avB e)
def ey(D:List Nat)(F:List Spec)(ex:Nat->Prop)(a:Act)(V:View)(w:World):Prop:=∀j d s,ex j->D[j]? =some d->F[j]? =some s->s.ok (a.eval (.tmp d)) V w
section
variable {St:β->View->Goroutine->World->Prop}
theorem q_reg{id:Nat}{c:Code}(hS:fg P main S)(e:c=.region id ops true)(D:List Nat)(F:List Spec)(live:List (Nat×Value))(m:Nat)(hm:ops.size=m+1)(yd:avA ops)
  (lq:∀(o:Oper) (ex:Nat->Prop),ops[m]? =some o->(∀j∈Oper.fI o,ex j)->(∀j oj,ops[j]? =some oj->ex j->∀d∈Oper.fI oj,ex d)->∀j,j<m->ex j)(hD:D.length=m)(hF:F.length=m)(ZP:D.Nodup)(hdl:∀p∈live,p.1∉D){q:β}{a:Act}{V:View}{w:World}(Fin:β->Act->View->World->Prop)
  (hl:∀p∈live,a.eval (.tmp p.1)=p.2)(hT:Tidy V w)
  (step:∀(i:Nat) (d:Nat) (s:Spec) (o:Oper) (rest:List Nat),i<m->D[i]? =some d->F[i]? =some s->ops[i]? =some o->∀q a' V' w',Std a.tmps.size a.defers live V w a' V' w'->ey D F (fun j=>j∈Oper.fI o) a' V' w'->
   (∀q' dA dq cO,dA.tmps.size=a'.tmps.size->dA.defers=a'.defers->(∀j,d≠j->dA.eval (.tmp j)=a'.eval (.tmp j))->aG aI aD V' w' dq cO->Tidy dq cO->s.ok (dA.eval (.tmp d)) dq cO->Loc P main (St q') dq (G (S dA (.inRegion ops rest::k)) cs) cO)->
   Loc P main (St q) V' (G (S a' (.inRegion ops (i::rest)::k)) cs) w')
  (last:∀(o:Oper) (rest:List Nat),ops[m]? =some o->∀q a' V' w',Std a.tmps.size a.defers live V w a' V' w'->ey D F (fun j=>j<m) a' V' w'->
   (∀q' dA dq cO,Fin q' dA dq cO->Loc P main (St q') dq (G (S dA (.inRegion ops rest::k)) cs) cO)->
   Loc P main (St q) V' (G (S a' (.inRegion ops (m::rest)::k)) cs) w')
  (K:∀q a' V' w',Fin q a' V' w'->Loc P main (St q) V' (G (S a' k) cs) w'):Loc P main (St q) V (G (S a (.code c::k)) cs) w:=by
 have om:∃o,ops[m]? =some o:=⟨_,Array.getElem?_eq_getElem (show m<ops.size by omega)⟩
 obtain⟨om,hom⟩:=om;refine xd hS e (fun ex q a' V' w'=>(ex m->Fin q a' V' w')/\(¬ex m->Std a.tmps.size a.defers live V w a' V' w'/\ey D F (fun j=>ex j/\j<m) a' V' w')) yd (fun ex w₁ hex hr=>⟨fun h=>absurd h (hex m),fun _=>⟨⟨rfl,rfl,hl,.bk hr,hT.aC (.bk hr)⟩,fun j d s h=>absurd h.1 (hex j)⟩⟩) ?_ fun ex q a V w h1 h2=>K q a V w (h2.1 (h1 m (by omega)))
 intro ex i o rest ho GJ yN ml q a' V' w' hB hK;have hi:=(Array.getElem?_eq_some_iff.1 ho).1;by_cases him:i=m
 ·subst him;obtain⟨h1,h2⟩:=hB.2 GJ;refine last o rest ho q a' V' w' h1 (fun j d s hj hd hs=>h2 j d s ⟨lq o ex ho yN ml j hj,hj⟩ hd hs) fun q' dA dq cO hf=>hK q' dA dq cO ⟨fun _=>hf,fun hn=>absurd (.inl rfl) hn⟩
 ·have Un:i<m:=by omega
  have hnm:¬ex m:=fun x=>GJ (lq om ex hom (ml m om hom x) ml i Un);obtain⟨h1,h2⟩:=hB.2 hnm;obtain⟨d,hd⟩:∃d,D[i]? =some d:=⟨_,List.getElem?_eq_getElem (show i<D.length by omega)⟩
  obtain⟨s,hs⟩:∃s,F[i]? =some s:=⟨_,List.getElem?_eq_getElem (show i<F.length by omega)⟩
  refine step i d s o rest Un hd hs ho q a' V' w' h1 (fun j d' s' hj aV aZ=>h2 j d' s' ⟨yN j hj,?_⟩ aV aZ) fun q' dA dq cO e1 e2 e3 e4 e5 e6=>hK q' dA dq cO ⟨fun h=>?_,fun _=>⟨⟨e1.trans h1.size,e2.trans h1.defers,fun p hp=>?_,h1.aC.trans e4,e5⟩,?_⟩⟩
  ·have:=(List.getElem?_eq_some_iff.1 aV).1;omega
  ·rcases h with h|h
   ·exact absurd h.symm him
   ·exact absurd h hnm
  ·have cM:d≠p.1:=fun x=>hdl p hp (x▸List.mem_of_getElem? hd);exact(e3 p.1 cM).trans (h1.live p hp)
  ·rintro j d' s' ⟨hj,hjm⟩ aV aZ;by_cases Fc:j=i
   ·subst Fc;rw [hd]at aV;cases aV;rw [hs]at aZ;cases aZ;exact e6
   ·have lO:ex j:=hj.resolve_left Fc;have cM:d≠d':=fun x=>by
     subst x;obtain⟨l1,m1⟩:=List.getElem?_eq_some_iff.1 hd;obtain⟨l2,m2⟩:=List.getElem?_eq_some_iff.1 aV;exact Fc ((List.getElem_inj ZP).1 (m2.trans m1.symm))
    rw [e3 d' cM];exact(h2 j d' s' ⟨lO,hjm⟩ aV aZ).go e4
end
end Go.Proofs.YtmcddajniiaieaaGreatDoor
