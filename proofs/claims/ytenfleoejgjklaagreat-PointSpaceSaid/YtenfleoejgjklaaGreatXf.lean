import Derived.Test.YtenfleoejgjklaaGreatXa
import Derived.Test.YtenfleoejgjklaaGreatXb
import Derived.Test.YtenfleoejgjklaaGreatXc
import Derived.Test.YtenfleoejgjklaaGreatXd
import Derived.Test.YtenfleoejgjklaaGreatXe
import Derived.KernelRfl
import Derived.Tactics
import Derived.Tactics2
import Derived.Defers
import Derived.Laws.Pointers
import Derived.Laws.LoneSync
import Derived.RegionTactic
import Derived.RegionCalls
import Derived.ChangeAlike
import Derived.Laws.Strings
set_option linter.unusedVariables false
set_option linter.unusedSimpArgs false
set_option linter.unnecessarySimpa false
section
namespace Go.Proofs.YtenfleoejgjklaaGreat
open Go SE
def uM(a:Bys)(b:agV):Prop:=(a.N=64*b.b.dJ/\ ∀q:Nat,q<a.N->[Value.int .u8 (a.g q)]=[Value.int .u8 (b.g q)])/\True
def En(a:agV):Prop:= ∀k:Nat,k<64*a.b.dJ->isByte [Value.int .u8 (a.g (0+k))]=true
def ZE(a:ZBlk):Prop:=a.kind=0/\a.id=0/\a.ver=0/\a.epoch=0/\a.key=ByteArray.mk #[]/\a.value=ByteArray.mk #[]/\True
def Qn(a:agV):Prop:=(64*a.b.dJ=64*a.b.dJ/\ ∀q:Nat,q<64*a.b.dJ->[Value.int .u8 (a.g q)]=[Value.int .u8 (a.g q)])/\True
def zi(a:agV):Prop:=True/\((a.b.cls=0/\ZE a.b)/\true=false/\True)/\Qn a
def Qo(a:ZBlk)(b:Nat):Prop:=isByte [Value.int .u8 (a.enc (0+b))]=true
def ZF(a:ZBlk):Prop:= ∀k:Nat,k<64*a.dJ->Qo a k
def ni(a:Int)(b:Ei):Prop:=a=vZ (λ(k:Nat)=>b.b.g (b.b.q+k)) b.at_ b.w
def Eo(a:agV)(b:Ei)(c:AQ)(d:Ei):Prop:=ni a.b.epoch b/\a.b.key=ByteArray.extract c.str 0 (Int.toNat (a.g 3))/\a.b.value=ByteArray.extract c.str (Int.toNat (a.g 3)) (Int.toNat (a.g 3+vZ (λ(k:Nat)=>d.b.g (d.b.q+k)) d.at_ d.w))/\True
def yh(a:Ei):Prop:=Hd (a.b.ok/\a.at_+a.w<=a.b.n/\1<=a.w/\a.w<=8)
def ZG(a:ZBlk):Prop:=Hd (a.may/\a.key.size<1099511627776/\a.value.size<1099511627776)
def uN(a:ZBlk):Prop:=0+64*a.dJ<=64*a.dJ
def Io(a:Nat):Prop:=(a:Int)=8/\True
def ZH(a:ZBlk)(b:AQ)(c:agV)(d:Ei):Prop:=a.key=ByteArray.extract b.str 0 (Int.toNat (c.g 3))/\a.value=ByteArray.extract b.str (Int.toNat (c.g 3)) (Int.toNat (c.g 3+vZ (λ(k:Nat)=>d.b.g (d.b.q+k)) d.at_ d.w))/\True
def AU(a:Bys)(b:ZBlk):Prop:=a.q=0/\a.n=64*b.dJ
def ZI(a:Ei)(b:ZBlk):Prop:=AU a.b b/\(a.at_:Int)=24/\Io a.w
def aqw(a:agV)(b:Ei)(c:AQ)(d:Ei):Prop:=True/\ ∃x_6:Ei,yh x_6/\(AU x_6.b a.b/\(x_6.at_:Int)=16/\Io x_6.w)/\uM x_6.b a/\ ∀y_5:Unit,True->True/\ ∃x_7:Ei,yh x_7/\ZI x_7 a.b/\uM x_7.b a/\ ∀y_6:Unit,True->True/\True/\ ∃x_8:ZBlk,ZG x_8/\((x_8.cls=a.g 1/\x_8.kind=a.g 2/\ni x_8.id b/\ni x_8.ver x_6/\ni x_8.epoch x_7/\ZH x_8 c a d)/\True)/\True/\(∀y_7:Unit,Hd (x_8.cls=0)->64<=64/\(∀k:Nat,k<64->Qo x_8 k)/\uN a.b/\En a/\cP (Bool.not (BEq.beq (ByteArray.toList (@ByteArray.mk (@List.toArray UInt8 (List.map (λ(k:Nat)=>UInt8.ofBitVec (@BitVec.ofNat 8 (Int.toNat (x_8.enc (0+k))))) (@List.range 64))))) (ByteArray.toList (@ByteArray.mk (@List.toArray UInt8 (List.map (λ(k:Nat)=>UInt8.ofBitVec (@BitVec.ofNat 8 (Int.toNat (a.g (0+k))))) (@List.range (64*a.b.dJ)))))))) (∃y_8:Unit,zi a) (∃y_8:Unit,True/\((a.b.cls=a.g 1/\a.b.kind=a.g 2/\ni a.b.id b/\ni a.b.ver x_6/\Eo a x_7 c d)/\true=true/\True)/\Qn a))/\ ∀y_7:Unit,Hd (x_8.cls≠(0:Int))->uN x_8/\ZF x_8/\uN a.b/\En a/\cP (Bool.not (BEq.beq (ByteArray.toList (@ByteArray.mk (@List.toArray UInt8 (List.map (λ(k:Nat)=>UInt8.ofBitVec (@BitVec.ofNat 8 (Int.toNat (x_8.enc (0+k))))) (@List.range (64*x_8.dJ)))))) (ByteArray.toList (@ByteArray.mk (@List.toArray UInt8 (List.map (λ(k:Nat)=>UInt8.ofBitVec (@BitVec.ofNat 8 (Int.toNat (a.g (0+k))))) (@List.range (64*a.b.dJ)))))))) (∃y_8:Unit,zi a) (∃y_8:Unit,True/\((a.b.cls=a.g 1/\a.b.kind=a.g 2/\ni a.b.id b/\ni a.b.ver x_6/\Eo a x_7 c d)/\true=true/\True)/\Qn a)
def agW(a:zh):Prop:=64=64/\ ∀q:Nat,q<64->[Value.int .u8 (a.b.jL (λ(k:Nat)=>a.d.g (a.d.q+k)) a.d.n q)]=[Value.int .u8 (a.b.jL (λ(k:Nat)=>a.d.g (a.d.q+k)) a.d.n q)]
def agX(a:ZBlk):Prop:=(a.cls=a.cls/\a.kind=a.kind/\a.id=a.id/\a.ver=a.ver/\a.epoch=a.epoch/\a.key=a.key/\a.value=a.value/\True)/\True
def ab4(a:zh)(b:Int)(c:ZBlk):Prop:=agW a/\(Int.toNat (cpc b)=Int.toNat (cpc b)/\ ∀q:Nat,q<Int.toNat (cpc b)->Cs.eff (λ(p:Nat)=>cond (Nat.ble 0 p&&Nat.blt p (0+ByteArray.size (c.key++c.value))) [Value.int .u8 (dY (c.key++c.value) (p-0))] [Value.int .u8 0]) [] q=Cs.eff (λ(p:Nat)=>cond (Nat.ble 0 p&&Nat.blt p (0+ByteArray.size (c.key++c.value))) [Value.int .u8 (dY (c.key++c.value) (p-0))] [Value.int .u8 0]) [] q)/\agX c
def ab5(a:zh)(b:Int)(c:ZBlk):Prop:=agW a/\(Int.toNat (cpc b)=Int.toNat (cpc b)/\ ∀q:Nat,q<Int.toNat (cpc b)->Cs.eff (λ(p:Nat)=>cond (Nat.ble 0 p&&Nat.blt p (0+Int.toNat (cpc b))) [Value.int .u8 (dY (c.key++c.value) (p-0))] [Value.int .u8 0]) [] q=Cs.eff (λ(p:Nat)=>cond (Nat.ble 0 p&&Nat.blt p (0+Int.toNat (cpc b))) [Value.int .u8 (dY (c.key++c.value) (p-0))] [Value.int .u8 0]) [] q)/\agX c
def agY(a:ZBlk)(b:Nat)(c:Nat):Prop:=(Nat.beq (List.length (Cs.eff (λ(p:Nat)=>cond (Nat.ble 0 p&&Nat.blt p (0+ByteArray.size (a.key++a.value))) [Value.int .u8 (dY (a.key++a.value) (p-0))] [Value.int .u8 0]) [] (28+63*b+c))) 1&&List.all (Cs.eff (λ(p:Nat)=>cond (Nat.ble 0 p&&Nat.blt p (0+ByteArray.size (a.key++a.value))) [Value.int .u8 (dY (a.key++a.value) (p-0))] [Value.int .u8 0]) [] (28+63*b+c)) Value.oneCell')=true
def agZ(a:ZBlk)(b:Nat):Prop:=(Nat.beq (List.length (Cs.eff (λ(p:Nat)=>cond (Nat.ble 0 p&&Nat.blt p (0+ByteArray.size (a.key++a.value))) [Value.int .u8 (dY (a.key++a.value) (p-0))] [Value.int .u8 0]) [] (28+b))) 1&&List.all (Cs.eff (λ(p:Nat)=>cond (Nat.ble 0 p&&Nat.blt p (0+ByteArray.size (a.key++a.value))) [Value.int .u8 (dY (a.key++a.value) (p-0))] [Value.int .u8 0]) [] (28+b)) Value.oneCell')=true
def ag0(a:Int)(b:ZBlk)(c:Nat)(d:Nat):Prop:=(Nat.beq (List.length (Cs.eff (λ(p:Nat)=>cond (Nat.ble 0 p&&Nat.blt p (0+Int.toNat (cpc a))) [Value.int .u8 (dY (b.key++b.value) (p-0))] [Value.int .u8 0]) [] (28+63*c+d))) 1&&List.all (Cs.eff (λ(p:Nat)=>cond (Nat.ble 0 p&&Nat.blt p (0+Int.toNat (cpc a))) [Value.int .u8 (dY (b.key++b.value) (p-0))] [Value.int .u8 0]) [] (28+63*c+d)) Value.oneCell')=true
def ag1(a:Int)(b:ZBlk)(c:Nat):Prop:=(Nat.beq (List.length (Cs.eff (λ(p:Nat)=>cond (Nat.ble 0 p&&Nat.blt p (0+Int.toNat (cpc a))) [Value.int .u8 (dY (b.key++b.value) (p-0))] [Value.int .u8 0]) [] (28+c))) 1&&List.all (Cs.eff (λ(p:Nat)=>cond (Nat.ble 0 p&&Nat.blt p (0+Int.toNat (cpc a))) [Value.int .u8 (dY (b.key++b.value) (p-0))] [Value.int .u8 0]) [] (28+c)) Value.oneCell')=true
def ag2(a:ZBlk)(b:zh):Prop:=(∃y_4:Unit,Hd (a.cls=0)/\((0=0/\64=64/\64=64)/\(0:Int)=0/\True)/\(64=64/\ ∀q:Nat,q<64->[Value.int .u8 (a.enc q)]=[Value.int .u8 (b.b.jL (λ(k:Nat)=>b.d.g (b.d.q+k)) b.d.n q)])/\True)\/ ∃y_4:Unit,Hd (a.cls≠(0:Int))/\(False/\(0:Int)=0/\True)/\False/\True
def Qp:Prop:=(0:Int)<=64/\(0:Int)<=0/\(0:Int)<=281474976710592/\(0:Int)<=4611686018427387839
def ag3(a:ZBlk)(b:Nat):Prop:=(∃y_4:Unit,Hd (a.cls=0)/\(False/\(0:Int)=0/\True)/\False/\True)\/ ∃y_4:Unit,Hd (a.cls≠(0:Int))/\((0=0/\64*a.dJ=64*(b+1))/\(0:Int)=0/\True)/\(64*a.dJ=64*(b+1)/\ ∀q:Nat,q<64*a.dJ->[Value.int .u8 (a.enc q)]=[Value.int .u8 (a.enc q)])/\True
def Qq(a:ZBlk)(b:Nat):Prop:=a.iE-28-63*b<=a.iE-28-63*b
def ZJ(a:ZBlk)(b:ZBlk):Prop:=a.cls=b.cls/\a.kind=b.kind/\a.id=b.id/\a.ver=b.ver/\a.epoch=b.epoch/\a.key=b.key/\a.value=b.value/\True
def Ep(a:Nat)(b:Nat):Prop:=64*(a+1)=64*(b+1)+64
def ag4(a:Nat)(b:Nat)(c:ZBlk):Prop:=(a:Int)=(b:Int)+1/\(28+63*a=28+63*b+(c.iE-28-63*b)/\c.iE-28-63*a=c.iE-28-63*b-(c.iE-28-63*b)/\c.iE-28-63*a=c.iE-28-63*b-(c.iE-28-63*b))/\(0=0/\Ep a b)/\True
def Qr(a:ZBlk)(b:Nat):Prop:=Qq a b/\Qq a b
def qR(a:Nat)(b:ZBlk):Prop:=Hd (1<=a/\a+1<=b.dJ)
def Ip(a:Bys):Prop:=(rowB a.g a.N=rowB a.g a.N/\true=true)/\True
def ag5(a:Nat)(b:Nat)(c:ZBlk):Prop:=(a:Int)=(b:Int)+1/\(28+63*a=28+63*b+63/\c.iE-28-63*a=c.iE-28-63*b-63/\c.iE-28-63*a=c.iE-28-63*b-63)/\(0=0/\Ep a b)/\True
def ag6(a:Nat)(b:ZBlk):Prop:=(a:Int)=1/\(28+63*a=28+(b.iE-28)/\b.iE-28-63*a=b.iE-28-(b.iE-28)/\b.iE-28-63*a=b.iE-28-(b.iE-28))/\(0=0/\64*(a+1)=128)/\True
def qU(a:ZBlk):Prop:=a.iE-28<=a.iE-28
def ag7(a:Nat)(b:ZBlk):Prop:=(a:Int)=1/\(28+63*a=91/\b.iE-28-63*a=b.iE-28-63/\b.iE-28-63*a=b.iE-28-63)/\(0=0/\64*(a+1)=128)/\True
def Qs(a:Nat):Prop:=(2*(64*(a+1)+64)+1000)*1<=281474976710656
def Es:Prop:=(0:Int)<=0/\(0:Int)<=63
def Qu:Prop:=(2*(64+64)+1000)*1<=281474976710656
def ag8(a:ZBlk)(b:Int):Prop:=(0:Int)=0/\(28=28/\a.iE-28=Int.toNat (cpc b)-28/\a.iE-28=Int.toNat (cpc b)-28)/\(0=0/\64=64/\64=64)/\True
def ag9(a:ZBlk)(b:Nat):Prop:=(Nat.beq (List.length [Value.int .u8 (dY (a.key++a.value) b)]) 1&&List.all [Value.int .u8 (dY (a.key++a.value) b)] Value.oneCell')=true
def aha(a:Int):Prop:=28<=Int.toNat (cpc a)/\Int.toNat (cpc a)<=Int.toNat (cpc a)/\Int.toNat (cpc a)<=Int.toNat (cpc a)
def Qv:Prop:=1<=64/\64<=64/\64<=64
def ahb(a:Nat)(b:Nat):Prop:=28+63*a=28+63*b+(Int.toNat (((64+64*b:Nat):Int)+64)-Int.toNat (((64+64*b:Nat):Int)+1))
def ZK(a:Int):Prop:=0<=cpc a/\cpc a<=cpc a/\1*cpc a<=281474976710656/\cpc a<4611686018427387904
def aqx(x:ZBlk):Prop:=
 ∃x_1:ZBlk,Hd (x_1.key.size<1099511627776/\x_1.value.size<1099511627776)/\(ZJ x_1 x/\True)/\True/\ ∀y:Unit,True->cP (Bool.not x_1.N8) ((∃y_1:Unit,Hd (x.cls=0)/\(False/\(0:Int)=3/\True)/\False/\True)\/ ∃y_1:Unit,Hd (x.cls≠(0:Int))/\(False/\(0:Int)=3/\True)/\False/\True) (∃x_2:Int,True/\(x_2=x.cls/\True)/\True/\ ∀y_1:Unit,True->ZK x_2/\((x.key.size+x.value.size:Nat):Int)<=9223372036854775807/\0+Int.toNat (cpc x_2)<=Int.toNat (cpc x_2)/\cP (Nat.ble (ByteArray.size (x.key++x.value)) (Int.toNat (cpc x_2))) ((∀k:Nat,k<ByteArray.size (x.key++x.value)->ag9 x k)/\ ∃x_3:zh,Hd x_3.ok/\(ZJ x_3.b x/\(x_3.d.q=0/\x_3.d.n=Int.toNat (cpc x_2))/\True)/\((x_3.d.N=Int.toNat (cpc x_2)/\ ∀q:Nat,q<x_3.d.N->[Value.int .u8 (x_3.d.g q)]=Cs.eff (λ(p:Nat)=>cond (Nat.ble 0 p&&Nat.blt p (0+ByteArray.size (x.key++x.value))) [Value.int .u8 (dY (x.key++x.value) (p-0))] [Value.int .u8 0]) [] q)/\True)/\ ∀y_2:Unit,True->(0:Int)<=28/\aha x_2/\ ∃x_4:Int,True/\(x_4=x.cls/\True)/\True/\ ∀y_3:Unit,True->I64 (spn x_4-1)/\(∃s:Unit,Hd True/\True/\ag8 x x_2/\ab4 x_3 x_2 x)/\(∀s:Unit,Hd True->cP (decide (0<spn x_4-1)) (Qp/\Es/\0<64/\(0:Int)<=1/\Qv/\64<=64/\cP (Nat.ble (x.iE-28) 63) (28+(x.iE-28)<=Int.toNat (cpc x_2)/\(∀k:Nat,k<x.iE-28->agZ x k)/\0<=((x.iE-28:Nat):Int)/\(qU x/\qU x/\qU x)/\64<=64/\64<=64/\Qu/\I64 (1:Int)/\ ∃s_1:Nat,qR s_1 x/\x.dJ-s_1<x.dJ+1/\ag6 s_1 x/\(64*(s_1+1)=128/\
 ∀q:Nat,q<64*(s_1+1)->[Value.int .u8 (x.enc q)]=Cs.eff (λ(q_1:Nat)=>cond (Nat.blt q_1 64) [Value.int .u8 (x_3.b.jL (λ(k:Nat)=>x_3.d.g (x_3.d.q+k)) x_3.d.n (0+q_1))] (Cs.eff (λ(p:Nat)=>cond (Nat.ble 1 p&&Nat.blt p (1+(x.iE-28))) (Cs.eff (λ(p_1:Nat)=>cond (Nat.ble 0 p_1&&Nat.blt p_1 (0+ByteArray.size (x.key++x.value))) [Value.int .u8 (dY (x.key++x.value) (p_1-0))] [Value.int .u8 0]) [] (28+(p-1))) (Cs.eff (λ(x_5:Nat)=>[Value.int .u8 0]) [(0,[Value.int .u8 2])] p)) [] (0+(q_1-64)))) [] q)/\ab4 x_3 x_2 x) (91<=Int.toNat (cpc x_2)/\(∀k:Nat,k<63->agZ x k)/\0<=((63:Nat):Int)/\(63<=x.iE-28/\qU x/\qU x)/\64<=64/\64<=64/\Qu/\I64 (1:Int)/\ ∃s_1:Nat,qR s_1 x/\x.dJ-s_1<x.dJ+1/\ag7 s_1 x/\(64*(s_1+1)=128/\ ∀q:Nat,q<64*(s_1+1)->[Value.int .u8 (x.enc q)]=Cs.eff (λ(q_1:Nat)=>cond (Nat.blt q_1 64) [Value.int .u8 (x_3.b.jL (λ(k:Nat)=>x_3.d.g (x_3.d.q+k)) x_3.d.n (0+q_1))] (Cs.eff (λ(p:Nat)=>cond (Nat.ble 1 p&&Nat.blt p 64) (Cs.eff (λ(p_1:Nat)=>cond (Nat.ble 0 p_1&&Nat.blt p_1 (0+ByteArray.size (x.key++x.value))) [Value.int .u8 (dY (x.key++x.value) (p_1-0))] [Value.int .u8 0]) [] (28+(p-1))) (Cs.eff (λ(x_5:Nat)=>[Value.int .u8 0]) [(0,[Value.int .u8 2])] p)) [] (0+(q_1-64)))) [] q)/\ab4 x_3 x_2 x)) (ag2 x x_3))/\(∀s:Nat,qR s x->cP (decide ((s:Int)<spn x_4-1)) (Qp/\Es/\0<64/\(0:Int)<=1/\Qv/\64<=64/\cP (Nat.ble (x.iE-28-63*s) 63) (28+63*s+(x.iE-28-63*s)<=Int.toNat (cpc x_2)/\(∀k:Nat,k<x.iE-28-63*s->agY x s k)/\0<=((x.iE-28-63*s:Nat):Int)/\(Qq x s/\
 Qr x s)/\64*(s+1)=64*(s+1)/\64<=64/\(∀k:Nat,k<64->(Nat.beq (List.length (Cs.eff (λ(p:Nat)=>cond (Nat.ble 1 p&&Nat.blt p (1+(x.iE-28-63*s))) (Cs.eff (λ(p_1:Nat)=>cond (Nat.ble 0 p_1&&Nat.blt p_1 (0+ByteArray.size (x.key++x.value))) [Value.int .u8 (dY (x.key++x.value) (p_1-0))] [Value.int .u8 0]) [] (28+63*s+(p-1))) (Cs.eff (λ(x_5:Nat)=>[Value.int .u8 0]) [(0,[Value.int .u8 2])] p)) [] (0+k))) 1&&List.all (Cs.eff (λ(p:Nat)=>cond (Nat.ble 1 p&&Nat.blt p (1+(x.iE-28-63*s))) (Cs.eff (λ(p_1:Nat)=>cond (Nat.ble 0 p_1&&Nat.blt p_1 (0+ByteArray.size (x.key++x.value))) [Value.int .u8 (dY (x.key++x.value) (p_1-0))] [Value.int .u8 0]) [] (28+63*s+(p-1))) (Cs.eff (λ(x_5:Nat)=>[Value.int .u8 0]) [(0,[Value.int .u8 2])] p)) [] (0+k)) Value.oneCell')=true)/\Qs s/\I64 ((s:Int)+1)/\ ∃s_1:Nat,qR s_1 x/\x.dJ-s_1<x.dJ-s/\ag4 s_1 s x/\(Ep s_1 s/\ ∀q:Nat,q<64*(s_1+1)->[Value.int .u8 (x.enc q)]=Cs.eff (λ(q_1:Nat)=>cond (Nat.blt q_1 (64*(s+1))) [Value.int .u8 (x.enc q_1)] (Cs.eff (λ(p:Nat)=>cond (Nat.ble 1 p&&Nat.blt p (1+(x.iE-28-63*s))) (Cs.eff (λ(p_1:Nat)=>cond (Nat.ble 0 p_1&&Nat.blt p_1 (0+ByteArray.size (x.key++x.value))) [Value.int .u8 (dY (x.key++x.value) (p_1-0))] [Value.int .u8 0]) [] (28+63*s+(p-1))) (Cs.eff (λ(x_5:Nat)=>[Value.int .u8 0]) [(0,[Value.int .u8 2])] p)) [] (0+(q_1-64*(s+1))))) [] q)/\ab4 x_3 x_2 x) (28+63*s+63<=Int.toNat (cpc x_2)/\(∀k:Nat,k<63->agY x s k)/\0<=((63:Nat):Int)/\(63<=x.iE-28-63*s/\Qr x s)/\64*(s+1)=64*(s+1)/\64<=64/\
 (∀k:Nat,k<64->(Nat.beq (List.length (Cs.eff (λ(p:Nat)=>cond (Nat.ble 1 p&&Nat.blt p 64) (Cs.eff (λ(p_1:Nat)=>cond (Nat.ble 0 p_1&&Nat.blt p_1 (0+ByteArray.size (x.key++x.value))) [Value.int .u8 (dY (x.key++x.value) (p_1-0))] [Value.int .u8 0]) [] (28+63*s+(p-1))) (Cs.eff (λ(x_5:Nat)=>[Value.int .u8 0]) [(0,[Value.int .u8 2])] p)) [] (0+k))) 1&&List.all (Cs.eff (λ(p:Nat)=>cond (Nat.ble 1 p&&Nat.blt p 64) (Cs.eff (λ(p_1:Nat)=>cond (Nat.ble 0 p_1&&Nat.blt p_1 (0+ByteArray.size (x.key++x.value))) [Value.int .u8 (dY (x.key++x.value) (p_1-0))] [Value.int .u8 0]) [] (28+63*s+(p-1))) (Cs.eff (λ(x_5:Nat)=>[Value.int .u8 0]) [(0,[Value.int .u8 2])] p)) [] (0+k)) Value.oneCell')=true)/\Qs s/\I64 ((s:Int)+1)/\ ∃s_1:Nat,qR s_1 x/\x.dJ-s_1<x.dJ-s/\ag5 s_1 s x/\(Ep s_1 s/\ ∀q:Nat,q<64*(s_1+1)->[Value.int .u8 (x.enc q)]=Cs.eff (λ(q_1:Nat)=>cond (Nat.blt q_1 (64*(s+1))) [Value.int .u8 (x.enc q_1)] (Cs.eff (λ(p:Nat)=>cond (Nat.ble 1 p&&Nat.blt p 64) (Cs.eff (λ(p_1:Nat)=>cond (Nat.ble 0 p_1&&Nat.blt p_1 (0+ByteArray.size (x.key++x.value))) [Value.int .u8 (dY (x.key++x.value) (p_1-0))] [Value.int .u8 0]) [] (28+63*s+(p-1))) (Cs.eff (λ(x_5:Nat)=>[Value.int .u8 0]) [(0,[Value.int .u8 2])] p)) [] (0+(q_1-64*(s+1))))) [] q)/\ab4 x_3 x_2 x)) (ag3 x s))/\True) ((∀k:Nat,k<Int.toNat (cpc x_2)->ag9 x k)/\ ∃x_3:zh,Hd x_3.ok/\(ZJ x_3.b x/\(x_3.d.q=0/\x_3.d.n=Int.toNat (cpc x_2))/\True)/\((x_3.d.N=Int.toNat (cpc x_2)/\
 ∀q:Nat,q<x_3.d.N->[Value.int .u8 (x_3.d.g q)]=Cs.eff (λ(p:Nat)=>cond (Nat.ble 0 p&&Nat.blt p (0+Int.toNat (cpc x_2))) [Value.int .u8 (dY (x.key++x.value) (p-0))] [Value.int .u8 0]) [] q)/\True)/\ ∀y_2:Unit,True->(0:Int)<=28/\aha x_2/\ ∃x_4:Int,True/\(x_4=x.cls/\True)/\True/\ ∀y_3:Unit,True->I64 (spn x_4-1)/\(∃s:Unit,Hd True/\True/\ag8 x x_2/\ab5 x_3 x_2 x)/\(∀s:Unit,Hd True->cP (decide (0<spn x_4-1)) (Qp/\Es/\0<64/\(0:Int)<=1/\Qv/\64<=64/\cP (Nat.ble (x.iE-28) 63) (28+(x.iE-28)<=Int.toNat (cpc x_2)/\(∀k:Nat,k<x.iE-28->ag1 x_2 x k)/\0<=((x.iE-28:Nat):Int)/\(qU x/\qU x/\qU x)/\64<=64/\64<=64/\Qu/\I64 (1:Int)/\ ∃s_1:Nat,qR s_1 x/\x.dJ-s_1<x.dJ+1/\ag6 s_1 x/\(64*(s_1+1)=128/\ ∀q:Nat,q<64*(s_1+1)->[Value.int .u8 (x.enc q)]=Cs.eff (λ(q_1:Nat)=>cond (Nat.blt q_1 64) [Value.int .u8 (x_3.b.jL (λ(k:Nat)=>x_3.d.g (x_3.d.q+k)) x_3.d.n (0+q_1))] (Cs.eff (λ(p:Nat)=>cond (Nat.ble 1 p&&Nat.blt p (1+(x.iE-28))) (Cs.eff (λ(p_1:Nat)=>cond (Nat.ble 0 p_1&&Nat.blt p_1 (0+Int.toNat (cpc x_2))) [Value.int .u8 (dY (x.key++x.value) (p_1-0))] [Value.int .u8 0]) [] (28+(p-1))) (Cs.eff (λ(x_5:Nat)=>[Value.int .u8 0]) [(0,[Value.int .u8 2])] p)) [] (0+(q_1-64)))) [] q)/\ab5 x_3 x_2 x) (91<=Int.toNat (cpc x_2)/\(∀k:Nat,k<63->ag1 x_2 x k)/\0<=((63:Nat):Int)/\(63<=x.iE-28/\qU x/\qU x)/\64<=64/\64<=64/\Qu/\I64 (1:Int)/\ ∃s_1:Nat,qR s_1 x/\x.dJ-s_1<x.dJ+1/\ag7 s_1 x/\(64*(s_1+1)=128/\
 ∀q:Nat,q<64*(s_1+1)->[Value.int .u8 (x.enc q)]=Cs.eff (λ(q_1:Nat)=>cond (Nat.blt q_1 64) [Value.int .u8 (x_3.b.jL (λ(k:Nat)=>x_3.d.g (x_3.d.q+k)) x_3.d.n (0+q_1))] (Cs.eff (λ(p:Nat)=>cond (Nat.ble 1 p&&Nat.blt p 64) (Cs.eff (λ(p_1:Nat)=>cond (Nat.ble 0 p_1&&Nat.blt p_1 (0+Int.toNat (cpc x_2))) [Value.int .u8 (dY (x.key++x.value) (p_1-0))] [Value.int .u8 0]) [] (28+(p-1))) (Cs.eff (λ(x_5:Nat)=>[Value.int .u8 0]) [(0,[Value.int .u8 2])] p)) [] (0+(q_1-64)))) [] q)/\ab5 x_3 x_2 x)) (ag2 x x_3))/\(∀s:Nat,qR s x->cP (decide ((s:Int)<spn x_4-1)) (Qp/\Es/\0<64/\(0:Int)<=1/\Qv/\64<=64/\cP (Nat.ble (x.iE-28-63*s) 63) (28+63*s+(x.iE-28-63*s)<=Int.toNat (cpc x_2)/\(∀k:Nat,k<x.iE-28-63*s->ag0 x_2 x s k)/\0<=((x.iE-28-63*s:Nat):Int)/\(Qq x s/\Qr x s)/\64*(s+1)=64*(s+1)/\64<=64/\(∀k:Nat,k<64->(Nat.beq (List.length (Cs.eff (λ(p:Nat)=>cond (Nat.ble 1 p&&Nat.blt p (1+(x.iE-28-63*s))) (Cs.eff (λ(p_1:Nat)=>cond (Nat.ble 0 p_1&&Nat.blt p_1 (0+Int.toNat (cpc x_2))) [Value.int .u8 (dY (x.key++x.value) (p_1-0))] [Value.int .u8 0]) [] (28+63*s+(p-1))) (Cs.eff (λ(x_5:Nat)=>[Value.int .u8 0]) [(0,[Value.int .u8 2])] p)) [] (0+k))) 1&&List.all (Cs.eff (λ(p:Nat)=>cond (Nat.ble 1 p&&Nat.blt p (1+(x.iE-28-63*s))) (Cs.eff (λ(p_1:Nat)=>cond (Nat.ble 0 p_1&&Nat.blt p_1 (0+Int.toNat (cpc x_2))) [Value.int .u8 (dY (x.key++x.value) (p_1-0))] [Value.int .u8 0]) [] (28+63*s+(p-1))) (Cs.eff (λ(x_5:Nat)=>[Value.int .u8 0]) [(0,[Value.int .u8 2])] p)) [] (0+k)) Value.oneCell')=true)/\
 Qs s/\I64 ((s:Int)+1)/\ ∃s_1:Nat,qR s_1 x/\x.dJ-s_1<x.dJ-s/\ag4 s_1 s x/\(Ep s_1 s/\ ∀q:Nat,q<64*(s_1+1)->[Value.int .u8 (x.enc q)]=Cs.eff (λ(q_1:Nat)=>cond (Nat.blt q_1 (64*(s+1))) [Value.int .u8 (x.enc q_1)] (Cs.eff (λ(p:Nat)=>cond (Nat.ble 1 p&&Nat.blt p (1+(x.iE-28-63*s))) (Cs.eff (λ(p_1:Nat)=>cond (Nat.ble 0 p_1&&Nat.blt p_1 (0+Int.toNat (cpc x_2))) [Value.int .u8 (dY (x.key++x.value) (p_1-0))] [Value.int .u8 0]) [] (28+63*s+(p-1))) (Cs.eff (λ(x_5:Nat)=>[Value.int .u8 0]) [(0,[Value.int .u8 2])] p)) [] (0+(q_1-64*(s+1))))) [] q)/\ab5 x_3 x_2 x) (28+63*s+63<=Int.toNat (cpc x_2)/\(∀k:Nat,k<63->ag0 x_2 x s k)/\0<=((63:Nat):Int)/\(63<=x.iE-28-63*s/\Qr x s)/\64*(s+1)=64*(s+1)/\64<=64/\(∀k:Nat,k<64->(Nat.beq (List.length (Cs.eff (λ(p:Nat)=>cond (Nat.ble 1 p&&Nat.blt p 64) (Cs.eff (λ(p_1:Nat)=>cond (Nat.ble 0 p_1&&Nat.blt p_1 (0+Int.toNat (cpc x_2))) [Value.int .u8 (dY (x.key++x.value) (p_1-0))] [Value.int .u8 0]) [] (28+63*s+(p-1))) (Cs.eff (λ(x_5:Nat)=>[Value.int .u8 0]) [(0,[Value.int .u8 2])] p)) [] (0+k))) 1&&List.all (Cs.eff (λ(p:Nat)=>cond (Nat.ble 1 p&&Nat.blt p 64) (Cs.eff (λ(p_1:Nat)=>cond (Nat.ble 0 p_1&&Nat.blt p_1 (0+Int.toNat (cpc x_2))) [Value.int .u8 (dY (x.key++x.value) (p_1-0))] [Value.int .u8 0]) [] (28+63*s+(p-1))) (Cs.eff (λ(x_5:Nat)=>[Value.int .u8 0]) [(0,[Value.int .u8 2])] p)) [] (0+k)) Value.oneCell')=true)/\Qs s/\I64 ((s:Int)+1)/\ ∃s_1:Nat,qR s_1 x/\x.dJ-s_1<x.dJ-s/\ag5 s_1 s x/\(Ep s_1 s/\
 ∀q:Nat,q<64*(s_1+1)->[Value.int .u8 (x.enc q)]=Cs.eff (λ(q_1:Nat)=>cond (Nat.blt q_1 (64*(s+1))) [Value.int .u8 (x.enc q_1)] (Cs.eff (λ(p:Nat)=>cond (Nat.ble 1 p&&Nat.blt p 64) (Cs.eff (λ(p_1:Nat)=>cond (Nat.ble 0 p_1&&Nat.blt p_1 (0+Int.toNat (cpc x_2))) [Value.int .u8 (dY (x.key++x.value) (p_1-0))] [Value.int .u8 0]) [] (28+63*s+(p-1))) (Cs.eff (λ(x_5:Nat)=>[Value.int .u8 0]) [(0,[Value.int .u8 2])] p)) [] (0+(q_1-64*(s+1))))) [] q)/\ab5 x_3 x_2 x)) (ag3 x s))/\True))
theorem alM(x:ZBlk):aqx x=wpF Tryz.prog aqv tt (as8 x) 200 5 180 (aoq.args x) (hO aoq.k (aoq.os x)) (λv h'=>eF aoq.k x v h' aoq.outs):=by kernel_rfl
def Vl(x:Int):Prop:=
 ∃x_1:Int,True/\(x_1=x/\True)/\True/\ ∀y:Unit,True->cP (BEq.beq (spn x_1) (0:Int)) (∃y_1:Unit,True/\False/\False/\True) (∃x_2:Int,True/\(x_2=x/\True)/\True/\ ∀y_1:Unit,True->ZK x_2/\ ∃x_3:zh,Hd x_3.ok/\((x_3.b.cls=x/\ZE x_3.b)/\(x_3.d.q=0/\x_3.d.n=Int.toNat (cpc x_2))/\True)/\((x_3.d.N=Int.toNat (cpc x_2)/\ ∀q:Nat,q<x_3.d.N->[Value.int .u8 (x_3.d.g q)]=[Value.int .u8 0])/\True)/\ ∀y_2:Unit,True-> ∃y_3:Unit,True/\(0=0/\64=64/\64=64)/\(64=64/\ ∀q:Nat,q<64->[Value.int .u8 (ZBlk.jL (ZBlk.mk x (0:Int) (0:Int) (0:Int) (0:Int) (ByteArray.mk #[]) (ByteArray.mk #[])) (λ(x_4:Nat)=>(0:Int)) (Int.toNat (cpc x)) q)]=[Value.int .u8 (x_3.b.jL (λ(k:Nat)=>x_3.d.g (x_3.d.q+k)) x_3.d.n q)])/\True)
theorem ab6(x:Int):Vl x=wpF Tryz.prog aqv tt (noA x) 200 5 63 (Em.args x) (hO Em.k (Em.os x)) (λv h'=>eF Em.k x v h' Em.outs):=by kernel_rfl
def ahc(x:AQ):Prop:=
 (0:Int)<=64/\(0:Int)<=36/\(36<=64/\64<=x.b.n/\x.b.n<=x.b.n)/\x.b.q+36+28<=x.b.N/\(2*(0+28)+1000)*1<=281474976710656/\(∃s:Unit,Hd True/\True/\((64:Int)=64/\(0=0/\28=0+28)/\True)/\(28=28/\ ∀q:Nat,q<28->[Value.int .u8 (x.at_ q)]=[Value.int .u8 (x.b.g (x.b.q+36+(q-0)))])/\True/\Ip x.b)/\(∀s:Unit,Hd True->cP (decide (64<(x.b.n:Int))) (I64 (65:Int)/\I64 (128:Int)/\(0:Int)<=128/\(0:Int)<=65/\(65<=128/\128<=x.b.n/\x.b.n<=x.b.n)/\28=28/\x.b.q+65+63<=x.b.N/\(∀k:Nat,k<63->(Nat.beq (List.length [Value.int .u8 (x.b.g (x.b.q+65+k))]) 1&&List.all [Value.int .u8 (x.b.g (x.b.q+65+k))] Value.oneCell')=true)/\(2*(28+63)+1000)*1<=281474976710656/\I64 (128:Int)/\ ∃s_1:Nat,Hd (1<=s_1/\s_1+1<=x.s)/\x.s-s_1<x.s+1/\(((64+64*s_1:Nat):Int)=128/\(0=0/\28+63*s_1=91)/\True)/\(28+63*s_1=91/\ ∀q:Nat,q<28+63*s_1->[Value.int .u8 (x.at_ q)]=Cs.eff (λ(q_1:Nat)=>cond (Nat.blt q_1 28) [Value.int .u8 (x.at_ q_1)] [Value.int .u8 (x.b.g (x.b.q+65+(q_1-28)))]) [] q)/\True/\Ip x.b) (28<=28/\(∀k:Nat,k<28->isByte [Value.int .u8 (x.at_ (0+k))]=true)/\ ∃y:Unit,True/\x.str= @ByteArray.mk (@List.toArray UInt8 (List.map (λ(k:Nat)=>UInt8.ofBitVec (@BitVec.ofNat 8 (Int.toNat (x.at_ (0+k))))) (@List.range 28)))/\Ip x.b))/\(∀s:Nat,Hd (1<=s/\s+1<=x.s)->cP (decide (((64+64*s:Nat):Int)<(x.b.n:Int))) (I64 (((64+64*s:Nat):Int)+1)/\I64 (((64+64*s:Nat):Int)+64)/\0<=((64+64*s:Nat):Int)+64/\0<=((64+64*s:Nat):Int)+1/\(Int.toNat (((64+64*s:Nat):Int)+1)<=Int.toNat (((64+64*s:Nat):Int)+64)/\
 Int.toNat (((64+64*s:Nat):Int)+64)<=x.b.n/\x.b.n<=x.b.n)/\28+63*s=28+63*s/\x.b.q+Int.toNat (((64+64*s:Nat):Int)+1)+(Int.toNat (((64+64*s:Nat):Int)+64)-Int.toNat (((64+64*s:Nat):Int)+1))<=x.b.N/\(∀k:Nat,k<Int.toNat (((64+64*s:Nat):Int)+64)-Int.toNat (((64+64*s:Nat):Int)+1)->(Nat.beq (List.length [Value.int .u8 (x.b.g (x.b.q+Int.toNat (((64+64*s:Nat):Int)+1)+k))]) 1&&List.all [Value.int .u8 (x.b.g (x.b.q+Int.toNat (((64+64*s:Nat):Int)+1)+k))] Value.oneCell')=true)/\(2*(28+63*s+(Int.toNat (((64+64*s:Nat):Int)+64)-Int.toNat (((64+64*s:Nat):Int)+1)))+1000)*1<=281474976710656/\I64 (((64+64*s:Nat):Int)+64)/\ ∃s_1:Nat,Hd (1<=s_1/\s_1+1<=x.s)/\x.s-s_1<x.s-s/\(((64+64*s_1:Nat):Int)=((64+64*s:Nat):Int)+64/\(0=0/\ahb s_1 s)/\True)/\(ahb s_1 s/\ ∀q:Nat,q<28+63*s_1->[Value.int .u8 (x.at_ q)]=Cs.eff (λ(q_1:Nat)=>cond (Nat.blt q_1 (28+63*s)) [Value.int .u8 (x.at_ q_1)] [Value.int .u8 (x.b.g (x.b.q+Int.toNat (((64+64*s:Nat):Int)+1)+(q_1-(28+63*s))))]) [] q)/\True/\Ip x.b) (0+(28+63*s)<=28+63*s/\(∀k:Nat,k<28+63*s->isByte [Value.int .u8 (x.at_ (0+k))]=true)/\ ∃y:Unit,True/\x.str= @ByteArray.mk (@List.toArray UInt8 (List.map (λ(k:Nat)=>UInt8.ofBitVec (@BitVec.ofNat 8 (Int.toNat (x.at_ (0+k))))) (@List.range (28+63*s))))/\Ip x.b))/\True
theorem ahd(x:AQ):ahc x=wpF Tryz.prog [] tt (aor x) 200 5 179 (Vk.args x) (hO Vk.k (Vk.os x)) (λv h'=>eF Vk.k x v h' Vk.outs):=by kernel_rfl
def aqy(x:agV):Prop:=
 cP (decide (((64*x.b.dJ:Nat):Int)<64)) (∃y:Unit,zi x) ((0:Int)<=64/\(0<=64/\64<=64*x.b.dJ/\64*x.b.dJ<=64*x.b.dJ)/\Es/\0<64*x.b.dJ/\cP (bne (x.g 0) (1:Int)) (∃y:Unit,zi x) (((0:Int)<=1/\(0:Int)<=62)/\1<64*x.b.dJ/\I64 (x.g 1)/\ ∃x_1:Int,True/\(x_1=x.g 1/\True)/\True/\ ∀y:Unit,True->cP (BEq.beq (spn x_1) (0:Int)) (∃y_1:Unit,zi x) (((0:Int)<=2/\(0:Int)<=61)/\2<64*x.b.dJ/\cP (decide (x.g 2>(3:Int))) (∃y_1:Unit,zi x) (((0:Int)<=1/\(0:Int)<=62)/\1<64*x.b.dJ/\I64 (x.g 1)/\((0:Int)<=2/\(0:Int)<=61)/\2<64*x.b.dJ/\I64 (x.g 2)/\ ∃x_2:Int,True/\(x_2=x.g 1/\True)/\True/\ ∀y_1:Unit,True->I64 (spn x_2*64)/\cP (bne ((64*x.b.dJ:Nat):Int) (spn x_2*64)) (∃y_2:Unit,zi x) (((0:Int)<=3/\4<=((64*x.b.dJ:Nat):Int))/\3<64*x.b.dJ/\I64 (x.g 3)/\ ∃x_3:Ei,yh x_3/\(AU x_3.b x.b/\(x_3.at_:Int)=4/\(x_3.w:Int)=2/\True)/\uM x_3.b x/\ ∀y_2:Unit,True->((3<64*x.b.dJ/\AV.lit (Value.int .u8 (x.g 3))=AV.lit (Value.int .u8 (x.g 3)))/\True)/\I64 (vZ (λ(k:Nat)=>x_3.b.g (x_3.b.q+k)) x_3.at_ x_3.w)/\ ∃x_4:AQ,Hd (x_4.b.ok/\x_4.b.n=64*x_4.s/\1<=x_4.s/\x_4.s<=8)/\(AU x_4.b x.b/\True)/\uM x_4.b x/\ ∀y_3:Unit,True->I64 (x.g 3+vZ (λ(k:Nat)=>x_3.b.g (x_3.b.q+k)) x_3.at_ x_3.w)/\cP (decide (x.g 3+vZ (λ(k:Nat)=>x_3.b.g (x_3.b.q+k)) x_3.at_ x_3.w>(x_4.str.size:Int))) (∃y_4:Unit,zi x) (0<=x.g 3/\(0<=Int.toNat (x.g 3)/\Int.toNat (x.g 3)<=x_4.str.size/\x_4.str.size<=x_4.str.size)/\I64 (x.g 3+vZ (λ(k:Nat)=>x_3.b.g (x_3.b.q+k)) x_3.at_ x_3.w)/\
 0<=x.g 3+vZ (λ(k:Nat)=>x_3.b.g (x_3.b.q+k)) x_3.at_ x_3.w/\0<=x.g 3/\(Int.toNat (x.g 3)<=Int.toNat (x.g 3+vZ (λ(k:Nat)=>x_3.b.g (x_3.b.q+k)) x_3.at_ x_3.w)/\Int.toNat (x.g 3+vZ (λ(k:Nat)=>x_3.b.g (x_3.b.q+k)) x_3.at_ x_3.w)<=x_4.str.size/\x_4.str.size<=x_4.str.size)/\(∃x_5:Ei,yh x_5/\(AU x_5.b x.b/\(x_5.at_:Int)=8/\Io x_5.w)/\uM x_5.b x/\ ∀y_4:Unit,True->True/\(∃x_6:Ei,yh x_6/\(AU x_6.b x.b/\(x_6.at_:Int)=16/\Io x_6.w)/\uM x_6.b x/\ ∀y_5:Unit,True->True/\(∃x_7:Ei,yh x_7/\ZI x_7 x.b/\uM x_7.b x/\ ∀y_6:Unit,True->True/\True/\True/\ ∃x_8:ZBlk,ZG x_8/\((x_8.cls=x.g 1/\x_8.kind=x.g 2/\ni x_8.id x_5/\ni x_8.ver x_6/\ni x_8.epoch x_7/\ZH x_8 x_4 x x_3)/\True)/\True/\(∀y_7:Unit,Hd (x_8.cls=0)->64<=64/\(∀k:Nat,k<64->Qo x_8 k)/\uN x.b/\En x/\cP (Bool.not (BEq.beq (ByteArray.toList (@ByteArray.mk (@List.toArray UInt8 (List.map (λ(k:Nat)=>UInt8.ofBitVec (@BitVec.ofNat 8 (Int.toNat (x_8.enc (0+k))))) (@List.range 64))))) (ByteArray.toList (@ByteArray.mk (@List.toArray UInt8 (List.map (λ(k:Nat)=>UInt8.ofBitVec (@BitVec.ofNat 8 (Int.toNat (x.g (0+k))))) (@List.range (64*x.b.dJ)))))))) (∃y_8:Unit,zi x) (∃y_8:Unit,True/\((x.b.cls=x.g 1/\x.b.kind=x.g 2/\ni x.b.id x_5/\ni x.b.ver x_6/\Eo x x_7 x_4 x_3)/\true=true/\True)/\Qn x))/\ ∀y_7:Unit,Hd (x_8.cls≠(0:Int))->uN x_8/\ZF x_8/\uN x.b/\En x/\
 cP (Bool.not (BEq.beq (ByteArray.toList (@ByteArray.mk (@List.toArray UInt8 (List.map (λ(k:Nat)=>UInt8.ofBitVec (@BitVec.ofNat 8 (Int.toNat (x_8.enc (0+k))))) (@List.range (64*x_8.dJ)))))) (ByteArray.toList (@ByteArray.mk (@List.toArray UInt8 (List.map (λ(k:Nat)=>UInt8.ofBitVec (@BitVec.ofNat 8 (Int.toNat (x.g (0+k))))) (@List.range (64*x.b.dJ)))))))) (∃y_8:Unit,zi x) (∃y_8:Unit,True/\((x.b.cls=x.g 1/\x.b.kind=x.g 2/\ni x.b.id x_5/\ni x.b.ver x_6/\Eo x x_7 x_4 x_3)/\true=true/\True)/\Qn x))/\True/\ ∃x_7:Ei,yh x_7/\ZI x_7 x.b/\uM x_7.b x/\ ∀y_6:Unit,True->True/\True/\ ∃x_8:ZBlk,ZG x_8/\((x_8.cls=x.g 1/\x_8.kind=x.g 2/\ni x_8.id x_5/\ni x_8.ver x_6/\ni x_8.epoch x_7/\ZH x_8 x_4 x x_3)/\True)/\True/\(∀y_7:Unit,Hd (x_8.cls=0)->64<=64/\(∀k:Nat,k<64->Qo x_8 k)/\uN x.b/\En x/\cP (Bool.not (BEq.beq (ByteArray.toList (@ByteArray.mk (@List.toArray UInt8 (List.map (λ(k:Nat)=>UInt8.ofBitVec (@BitVec.ofNat 8 (Int.toNat (x_8.enc (0+k))))) (@List.range 64))))) (ByteArray.toList (@ByteArray.mk (@List.toArray UInt8 (List.map (λ(k:Nat)=>UInt8.ofBitVec (@BitVec.ofNat 8 (Int.toNat (x.g (0+k))))) (@List.range (64*x.b.dJ)))))))) (∃y_8:Unit,zi x) (∃y_8:Unit,True/\((x.b.cls=x.g 1/\x.b.kind=x.g 2/\ni x.b.id x_5/\ni x.b.ver x_6/\Eo x x_7 x_4 x_3)/\true=true/\True)/\Qn x))/\ ∀y_7:Unit,Hd (x_8.cls≠(0:Int))->uN x_8/\ZF x_8/\uN x.b/\En x/\
 cP (Bool.not (BEq.beq (ByteArray.toList (@ByteArray.mk (@List.toArray UInt8 (List.map (λ(k:Nat)=>UInt8.ofBitVec (@BitVec.ofNat 8 (Int.toNat (x_8.enc (0+k))))) (@List.range (64*x_8.dJ)))))) (ByteArray.toList (@ByteArray.mk (@List.toArray UInt8 (List.map (λ(k:Nat)=>UInt8.ofBitVec (@BitVec.ofNat 8 (Int.toNat (x.g (0+k))))) (@List.range (64*x.b.dJ)))))))) (∃y_8:Unit,zi x) (∃y_8:Unit,True/\((x.b.cls=x.g 1/\x.b.kind=x.g 2/\ni x.b.id x_5/\ni x.b.ver x_6/\Eo x x_7 x_4 x_3)/\true=true/\True)/\Qn x))/\aqw x x_5 x_4 x_3)/\True/\ ∃x_5:Ei,yh x_5/\(AU x_5.b x.b/\(x_5.at_:Int)=8/\Io x_5.w)/\uM x_5.b x/\ ∀y_4:Unit,True->aqw x x_5 x_4 x_3))))))
theorem alN(x:agV):aqy x=wpF Tryz.prog as9 tt (noA x) 200 5 121 (aqu.args x) (hO aqu.k (aqu.os x)) (λv h'=>eF aqu.k x v h' aqu.outs):=by kernel_rfl
theorem uh{c:Int}(h:spn c≠0):0<=c/\c<=3/\1<=spn c/\spn c<=8/\cpc c=28+63*(spn c-1):=by
 unfold spn at*
 unfold cpc;grind
theorem ahe{n:Int}(h:spn (ned n)≠0):n<=cpc (ned n):=by
 unfold ned spn at*
 unfold cpc;grind
theorem Vm{b:ZBlk}(h:b.may):((b.key.size+b.value.size:Nat):Int)<=cpc b.cls:=by
 obtain⟨hs,h⟩:=h;have hc:=uh hs;rcases h with ⟨_,_,_,_,h1,h2⟩|⟨_,_,_,_,h,_⟩|⟨_,_,_,h,_⟩|⟨_,h,_⟩
 ·rw[h1,h2];show((0:Nat):Int)<=_;omega
 ·rw[<-h];exact ahe (by rw[h];exact hs)
 ·rw[<-h];exact ahe (by rw[h];exact hs)
 ·rw[h];omega
theorem Qw(x:Int)(hx:0<=x/\x<=3):Vl x:=by
 have hs:spn x≠0:=by have:=U7 hx;omega
 have hc:=uh hs;unfold Vl;simp only[ZK,ZE];simp only[aZ,aV,aU,aA,aI,bQ,bF,aO,aK,ay,aX,aW,bU,bG,bH,bI,bV,bC,bJ,bn,eG,aH,aN,ah,ak,aB,aF,aC,aG];rw[show(spn x==0)=false from beq_eq_false_iff_ne.2 hs,iq];refine⟨by omega,⟨⟨x,0,0,0,0,⟨#[]⟩,⟨#[]⟩⟩,⟨λ_=>0,0,(cpc x).toNat,(cpc x).toNat⟩⟩,?_,⟨⟨rfl,rfl,rfl,rfl,rfl,rfl,rfl⟩,rfl,rfl⟩,⟨rfl,λq _=>rfl⟩,λq _=>rfl⟩;exact⟨⟨show 0+(cpc x).toNat<=(cpc x).toNat by omega,show(cpc x).toNat<1099511627776 by omega,λ_=>⟨show(0:Int)<=0 by decide,show(0:Int)<256 by decide⟩⟩,show 28<=(cpc x).toNat by omega,show(0:Nat)<256 by decide,show(0:Nat)<65536 by decide,hx.1,show x<256 by omega,show(0:Int)<=0 by decide,show(0:Int)<256 by decide,show(0:Int)<=0 by decide,show(0:Int)<18446744073709551616 by decide,show(0:Int)<=0 by decide,show(0:Int)<18446744073709551616 by decide,show(0:Int)<=0 by decide,show(0:Int)<18446744073709551616 by decide⟩
theorem yj{z:Int}(h:0<=z/\z<256):isByte [Value.int .u8 z]=true:=by
 unfold isByte;simp only[decide_eq_true h.1,decide_eq_true h.2,Bool.and_self]
theorem ZL{x:AQ}(h:x.b.ok)(i:Nat):0<=x.at_ i/\x.at_ i<256:=by
 unfold AQ.at_;split<;>exact h.2.2 _
theorem ZM{x:AQ}{s q:Nat}(h1: ¬q<28+63*s)(h2:q<28+63*(s+1)):x.at_ q=x.b.g (x.b.q+(64*(s+1)+1)+(q-(28+63*s))):=by
 unfold AQ.at_;have e1:(q-28)/63=s:=by omega
 rw[if_neg (by omega),e1];congr 1;omega
theorem Vo(x:AQ)(hx:x.b.ok/\x.b.n=64*x.s/\1<=x.s/\x.s<=8):ahc x:=by
 obtain⟨ho,hn,h1,h2⟩:=hx;obtain⟨o1,o2,o3⟩:=id ho;have t1: ∀s:Nat,(((64+64*s:Nat):Int)+1).toNat=64*(s+1)+1:=λs=>by omega
 have t2: ∀s:Nat,(((64+64*s:Nat):Int)+64).toNat=64*(s+1)+64:=λs=>by omega
 unfold ahc;simp only[Ip,ahb];simp only[aZ,aV,aU,aA,aI,bQ,bF,aO,aK,ay,aX,aW,bU,bG,bH,bI,bV,bC,bJ,bn,eG,aH,aN,ah,ak,aB,aF,aC,aG,t1,t2];refine⟨by decide,by decide,⟨by decide,by omega,by omega⟩,by omega,by decide,λq hq=> ?_,bf (λh=> ?_) λh=> ?_,λs hs=>bf (λh=> ?_) λh=> ?_⟩
 ·unfold AQ.at_
  rw[if_pos hq];congr 1;omega
 ·have h:=aS h
  refine⟨by unfold I64;omega,by unfold I64;omega,by decide,by decide,⟨by decide,by omega,by omega⟩,by omega,by decide,by unfold I64;omega,1,by omega,by omega,by omega,by omega,λq hq=> ?_⟩;by_cases hq1:q<28
  ·rw[bg.2 hq1];rfl
  ·rw[bT,decide_eq_false hq1,aQ]
   exact ZM (s:=0) (by omega) (by omega)
 ·have h:=aT h
  have:x.s=1:=by omega
  refine⟨by decide,λk _=>yj (ZL ho k),?_⟩;unfold AQ.str;rw[this];rfl
 ·have h:=aS h
  refine⟨by unfold I64;omega,by unfold I64;omega,by omega,by omega,⟨by omega,by omega,by omega⟩,by omega,by omega,by unfold I64;omega,s+1,by omega,by omega,by omega,by omega,λq hq=> ?_⟩;by_cases hq1:q<28+63*s
  ·rw[bg.2 hq1];rfl
  ·rw[bT,decide_eq_false hq1,aQ]
   exact ZM hq1 (by omega)
 ·have h:=aT h
  have:x.s=s+1:=by omega
  refine⟨by omega,λk _=>yj (ZL ho k),?_⟩;unfold AQ.str;rw[this];rfl
theorem aos{s:ByteArray}{o k n B:Nat}(hk:k<64)(hB:64<=B):(bif Nat.ble 1 k&&Nat.blt k B then [Value.int .u8 (bif Nat.blt (o+(k-1)) n then(dY s (o+(k-1)):Int)else 0)]else Cs.eff (λ_=>[Value.int .u8 0]) [(0,[Value.int .u8 2])] k)=
  [Value.int .u8 (if k=0 then 2 else if o+(k-1)<n then(dY s (o+(k-1)):Int)else 0)]:=by
 rw[Eb];simp only[dw,bT,dI,<-Bool.decide_and];by_cases h:k=0
 ·subst h;simp
 ·rw[if_pos ⟨by omega,by omega⟩,if_neg h]
theorem JV(x:ZBlk)(t r:Nat)(hr:r<64):x.enc (64*(t+1)+r)=if r=0 then 2 else x.dat (28+63*t+(r-1)):=by
 unfold ZBlk.enc;rw[if_neg (by omega),show(64*(t+1)+r)%64=r by omega,show(64*(t+1)+r)/64=t+1 by omega,Nat.add_sub_cancel,Nat.mul_comm t 63]
theorem JW(x:ZBlk){t q B o n:Nat}(h1: ¬q<64*(t+1))(h2:q<64*(t+1+1))(hB:64<=B)(ho:o=28+63*t)(hn:n=(x.key++x.value).size):[Value.int .u8 (x.enc q)]=(bif Nat.ble 1 (q-64*(t+1))&&Nat.blt (q-64*(t+1)) B then [Value.int .u8 (bif Nat.blt (o+(q-64*(t+1)-1)) n then(dY (x.key++x.value) (o+(q-64*(t+1)-1)):Int)else 0)]else Cs.eff (λ_=>[Value.int .u8 0]) [(0,[Value.int .u8 2])] (q-64*(t+1))):=by
 rw[aos (by omega) hB,show q=64*(t+1)+(q-64*(t+1)) by omega,JV x t _ (by omega),Nat.add_sub_cancel_left,ho,hn];rfl
theorem ahf{s:ByteArray}{o k n B:Nat}(hk:k<64)(hB:64<=B):((bif Nat.ble 1 k&&Nat.blt k B then [Value.int .u8 (bif Nat.blt (o+(k-1)) n then(dY s (o+(k-1)):Int)else 0)]else Cs.eff (λ_=>[Value.int .u8 0]) [(0,[Value.int .u8 2])] k).length.beq 1&&(bif Nat.ble 1 k&&Nat.blt k B then [Value.int .u8 (bif Nat.blt (o+(k-1)) n then(dY s (o+(k-1)):Int)else 0)]else Cs.eff (λ_=>[Value.int .u8 0]) [(0,[Value.int .u8 2])] k).all Value.oneCell')=true:=by
 rw[aos hk hB];rfl
theorem JX(x:ZBlk)(k:Nat):0<=x.dat k/\x.dat k<256:=by
 unfold ZBlk.dat
 split
 ·unfold dY
  have:=(((x.key++x.value).data.toList.getD k 0)).toNat_lt;exact⟨by omega,by omega⟩
 ·exact⟨by decide,by decide⟩
theorem Cj{x:ZBlk}(h:x.may):x.key.size<256/\x.value.size<65536/\0<=x.kind/\x.kind<256/\0<=x.id/\x.id<18446744073709551616/\0<=x.ver/\x.ver<18446744073709551616/\0<=x.epoch/\x.epoch<18446744073709551616:=by
 have hC:=Vm h;have hc:=uh h.1;obtain⟨hs,h⟩:=h;unfold ZBlk.nums ZBlk.num at h;have e0:ByteArray.size ⟨#[]⟩=0:=rfl;rcases h with ⟨h0,h1,h2,h3,h4,h5⟩|⟨h0,h1,h2,h3,h4,h5,h6,h7⟩|⟨h0,h1,h2,h3,h5,h6,h7⟩|⟨h0,h1,h2,h5,h6,h7⟩
 ·rw[h4,h5];omega
 ·omega
 ·rw[h1];omega
 ·omega
theorem ab7(x:ZBlk)(hx:x.may/\x.key.size<1099511627776/\x.value.size<1099511627776):aqx x:=by
 obtain⟨hm,hk,hv⟩:=hx;have hM:x.N8=true:=yc.2 hm;have hc:=uh hm.1;have hC:=Vm hm;have hD:=Cj hm;have hsz:(x.key++x.value).size=x.key.size+x.value.size:=ByteArray.size_append;have hcap:(cpc x.cls).toNat=x.iE:=rfl;have hb:Nat.ble (x.key++x.value).size x.iE=true:=by rw[Nat.ble_eq,hsz,<-hcap];omega
 have hN:x.iE=28+63*(x.dJ-1):=by unfold ZBlk.iE ZBlk.dJ;omega
 have hS:(x.dJ:Int)=spn x.cls:=by unfold ZBlk.dJ;omega
 have h0:x.cls=0↔x.dJ=1:=by
  have:x.cls=0↔spn x.cls=1:=by unfold spn;grind
  rw[this];omega
 have e1: ∀q,q<64->x.enc q=x.jL x.dat x.iE q:=λq hq=>if_pos hq
 have hN8:x.dJ<=8/\1<=x.dJ:=by omega
 unfold aqx;simp only[ZJ,ZK,ag9,aha,ag8,ab4,Qp,Es,Qv,agZ,qU,Qu,qR,ag6,ag7,ag2,agY,Qq,Qr,Qs,ag4,Ep,ag5,ag3,ab5,ag1,ag0,agW,agX];simp only[aZ,aV,aU,aA,aI,bQ,bF,aO,aK,ay,aX,aW,bU,bG,bH,bI,bV,bC,bJ,bn,eG,aH,aN,ah,ak,aB,aF,aC,aG,hcap];refine⟨x,⟨hk,hv⟩,⟨rfl,rfl,rfl,rfl,rfl,rfl,rfl⟩,?_⟩;rw[hM,Bool.not_true,iq];refine⟨by omega,by omega,by omega,?_⟩;rw[hb,jU];refine⟨⟨x,⟨x.dat,0,x.iE,x.iE⟩⟩,⟨⟨by show 0+x.iE<=x.iE;omega,by show x.iE<1099511627776;omega,JX x⟩,by show 28<=x.iE;omega,hD.1,hD.2.1,hc.1,by show x.cls<256;omega,hD.2.2⟩,⟨⟨rfl,rfl,rfl,rfl,rfl,rfl,rfl⟩,rfl,rfl⟩,⟨rfl,λq _=> ?_⟩,?_⟩
 ·simp only[bT,dI];rfl
 ·simp only[aA]
  refine⟨by decide,by omega,by unfold I64;omega,bf (λh=> ?_) λh=> ?_,λs hs=>bf (λh=> ?_) λh=> ?_⟩
  ·have h:=aS h
   refine⟨by decide,by decide,by decide,by decide,by decide,by decide,bf (λhb=> ?_) λhb=> ?_⟩
   ·have hb:=Nat.le_of_ble_eq_true hb
    refine⟨by omega,by omega,by omega,by decide,by decide,by decide,by unfold I64;omega,1,by omega,by omega,by omega,by omega,λq hq=> ?_⟩;by_cases hq1:q<64
    ·rw[bg.2 hq1,aP,e1 q hq1]
    ·rw[bT,decide_eq_false hq1,aQ]
     exact JW x (t:=0) (by omega) (by omega) (by omega) rfl rfl
   ·refine⟨by omega,by omega,⟨by omega,by omega⟩,by decide,by decide,by decide,by unfold I64;omega,1,by omega,by omega,by omega,by omega,λq hq=> ?_⟩
    by_cases hq1:q<64
    ·rw[bg.2 hq1,aP,e1 q hq1]
    ·rw[bT,decide_eq_false hq1,aQ]
     exact JW x (t:=0) (by omega) (by omega) (by omega) rfl rfl
  ·have h:=aT h
   exact .inl ⟨h0.2 (by omega),λq hq=>e1 q hq⟩
  ·have h:=aS h
   refine⟨by decide,by decide,by decide,by decide,by decide,by decide,bf (λhb=> ?_) λhb=> ?_⟩
   ·have hb:=Nat.le_of_ble_eq_true hb
    refine⟨by omega,by omega,by omega,by decide,λk hk=>ahf hk (by omega),by omega,by unfold I64;omega,s+1,by omega,by omega,by omega,by omega,λq hq=> ?_⟩;by_cases hq1:q<64*(s+1)
    ·rw[bg.2 hq1,aP]
    ·rw[bT,decide_eq_false hq1,aQ]
     exact JW x hq1 (by omega) (by omega) rfl rfl
   ·refine⟨by omega,by omega,⟨by omega,by omega⟩,by decide,λk hk=>ahf hk (by omega),by omega,by unfold I64;omega,s+1,by omega,by omega,by omega,by omega,λq hq=> ?_⟩
    by_cases hq1:q<64*(s+1)
    ·rw[bg.2 hq1,aP]
    ·rw[bT,decide_eq_false hq1,aQ]
     exact JW x hq1 (by omega) (by omega) rfl rfl
  ·have h:=aT h
   exact .inr ⟨λe=>by have:=h0.1 e;omega,by omega⟩
theorem ZN{g:Nat->Int}{a:Nat}{v:Int}(h0:0<=v): ∀w,(∀i,i<w->g (a+i)=v/256^i%256)->vZ g a w=v%256^w
 |0,_=>by show(0:Int)=v%256^0;rw[Int.pow_zero,Int.emod_one]
 |w+1,h=>by
  simp only[vZ];rw[ZN h0 w λi hi=>h i (by omega),h w (by omega),Int.pow_succ];have hp:(0:Int)<256^w:=Int.pow_pos (by omega);have h1:=Int.emod_add_mul_ediv v (256^w);have h2:=Int.emod_add_mul_ediv (v/256^w) 256;have h3:=Int.emod_add_mul_ediv v (256^w*256);have h4:v/(256^w*256)=v/256^w/256:=(Int.ediv_ediv_of_nonneg (Int.le_of_lt hp)).symm;rw[h4]at h3;generalize (256:Int)^w=p at*
  have h5:p*(v/p)=p*((v/p)%256)+p*(256*(v/p/256)):=by rw[<-Int.mul_add,h2]
  have h6:p*256*(v/p/256)=p*(256*(v/p/256)):=Int.mul_assoc _ _ _;have h7:(v/p)%256*p=p*((v/p)%256):=Int.mul_comm _ _;omega
theorem JY{g:Nat->Int}{a w:Nat}{v:Int}(h0:0<=v)(h1:v<256^w)(h: ∀i,i<w->g (a+i)=v/256^i%256):vZ g a w=v:=by
 rw[ZN h0 w h];exact Int.emod_eq_of_lt h0 h1
theorem ata{x:ZBlk}(h:x.may)(k:Nat):0<=x.h32 k/\x.h32 k<256:=by
 have hD:=Cj h;have hc:=uh h.1;unfold ZBlk.h32
 repeat' split
 all_goals first|exact l7 _ _|omega
theorem yu{x:ZBlk}(h:x.may)(k:Nat):0<=x.enc k/\x.enc k<256:=by
 unfold ZBlk.enc;split
 ·unfold ZBlk.jL
  split
  ·exact ata h k
  ·split
   ·exact l7 _ _
   ·exact JX x _
 ·split
  ·exact⟨by decide,by decide⟩
  ·exact JX x _
theorem Et{x:ZBlk}{k:Nat}(h:k<32):x.enc k=x.h32 k:=by
 unfold ZBlk.enc;rw[if_pos (by omega)];unfold ZBlk.jL;rw[if_pos h]
theorem aqz{x:ZBlk}(h:x.may):vZ x.enc 4 2=x.value.size/\vZ x.enc 8 8=x.id/\vZ x.enc 16 8=x.ver/\vZ x.enc 24 8=x.epoch:=by
 have hD:=Cj h;refine⟨JY (by omega) (by omega) λi hi=> ?_,JY (by omega) (by omega) λi hi=> ?_,JY (by omega) (by omega) λi hi=> ?_,JY (by omega) (by omega) λi hi=> ?_⟩
 all_goals
  rw[Et (by omega)];unfold ZBlk.h32
  repeat rw[if_neg (by omega)]
  rw[if_pos (by omega)];congr 2;congr 1;omega
theorem ab8(n:Nat)(f:Nat->UInt8):(mkStr n f).size=n:=by
 show(((List.range n).map f).toArray).size=n;simp
theorem Qy{n a b:Nat}{f:Nat->UInt8}{s:ByteArray}(h1:b=a+s.size)(h2:b<=n)(h: ∀i (hi:i<s.size),f (a+i)=s.data[i]):(mkStr n f).extract a b=s:=by
 have e:((mkStr n f).extract a b).data=s.data:=by
  rw[ByteArray.data_extract];refine Array.ext ?_ λi h3 h4=> ?_
  ·show((List.map f (List.range n)).toArray.extract a b).size=s.size
   simp;omega
  ·show((List.map f (List.range n)).toArray.extract a b)[i]=_
   rw[<-h i h4];simp
 cases s;cases h':(mkStr n f).extract a b;rw[h']at e;cases e;rfl
theorem ab9(x:ZBlk)(i:Nat)(hi:i<(x.key++x.value).size):UInt8.ofNat (x.dat i).toNat=(x.key++x.value).data[i]:=by
 unfold ZBlk.dat
 rw[if_pos hi];unfold dY;rw[ay,List.getD_eq_getElem?_getD,Array.getElem?_toList];have e:(x.key++x.value).data[i]? =some (x.key++x.value).data[i]:=Array.getElem?_eq_getElem hi;rw[e,Option.getD_some];exact UInt8.ofNat_toNat
theorem atb{x:ZBlk}{s:Nat}(i:Nat):(AQ.mk ⟨x.enc,0,64*s,64*s⟩ s).at_ i=x.dat i:=by
 unfold AQ.at_;simp only[aA];split
 ·rename_i h
  unfold ZBlk.enc;rw[if_pos (by omega)];unfold ZBlk.jL;rw[if_neg (by omega),if_neg (by omega)];congr 1;omega
 ·rename_i h
  rw[show 64*((i-28)/63+1)+1+(i-28)%63=64*((i-28)/63+1)+(1+(i-28)%63) by omega,JV x _ _ (by omega),if_neg (by omega)];congr 1;omega
theorem acd(x:agV)(hx:x.b.may/\x.b.key.size<1099511627776/\x.b.value.size<1099511627776/\ ∀k,k<64*x.b.dJ->x.g k=x.b.enc k):aqy x:=by
 obtain⟨hm,hk,hv,hg⟩:=hx;have hc:=uh hm.1;have hC:=Vm hm;have hD:=Cj hm;have hE:=aqz hm;have hS:(x.b.dJ:Int)=spn x.b.cls:=by unfold ZBlk.dJ;omega
 have g0:x.g 0=1:=by rw[hg 0 (by omega),Et (by omega)];rfl
 have g1:x.g 1=x.b.cls:=by rw[hg 1 (by omega),Et (by omega)];rfl
 have g2:x.g 2=x.b.kind:=by rw[hg 2 (by omega),Et (by omega)];rfl
 have g3:x.g 3=x.b.key.size:=by rw[hg 3 (by omega),Et (by omega)];rfl
 have hB:Bys.ok ⟨x.b.enc,0,64*x.b.dJ,64*x.b.dJ⟩:=⟨by simp,by show 64*x.b.dJ<_;omega,yu hm⟩;have hkd:x.b.kind<=3:=by
  have:=hm.2;omega
 unfold aqy;simp only[zi,Es,yh,AU,uM,Io,ZI,ZG,ni,ZH,Qo,uN,En,Eo,Qn,ZF,aqw,ZE];simp only[aZ,aV,aU,aA,aI,bQ,bF,aO,aK,ay,aX,aW,bU,bG,bH,bI,bV,bC,bJ,bn,eG,aH,aN,ah,ak,aB,aF,aC,aG,g0,g1,g2,g3]
 refine bf (λh=>absurd (aS h) (by omega)) λ_=>⟨by decide,⟨by decide,by omega,by omega⟩,by decide,by omega,bf (λh=>absurd h (by decide)) λ_=>⟨by decide,by omega,by unfold I64;omega,bf (λh=>absurd (beq_iff_eq.1 h) hm.1) λ_=>⟨by decide,by omega,bf (λh=>absurd (aS h) (by omega)) λ_=>⟨by decide,by omega,by unfold I64;omega,by decide,by omega,by unfold I64;omega,by unfold I64;omega,bf (λh=>absurd (bne_iff_ne.1 h) (by omega)) λ_=>⟨⟨by decide,by omega⟩,by omega,by unfold I64;omega,
  ⟨⟨x.b.enc,0,64*x.b.dJ,64*x.b.dJ⟩,4,2⟩,⟨hB,by show 4+2<=64*x.b.dJ;omega,by show 1<=2;decide,by show 2<=8;decide⟩,⟨⟨rfl,rfl⟩,rfl,rfl⟩,⟨rfl,λq hq=>(hg q hq).symm⟩,by omega,?_⟩⟩⟩⟩⟩
 simp only[aA,hE];refine⟨by unfold I64;omega,⟨⟨x.b.enc,0,64*x.b.dJ,64*x.b.dJ⟩,x.b.dJ⟩,⟨hB,rfl,by show 1<=x.b.dJ;omega,by show x.b.dJ<=8;omega⟩,⟨rfl,rfl⟩,⟨rfl,λq hq=>(hg q hq).symm⟩,?_⟩;have hsz:(x.b.key++x.b.value).size=x.b.key.size+x.b.value.size:=ByteArray.size_append;have hstr: ∀i (hi:i<(x.b.key++x.b.value).size),UInt8.ofNat ((AQ.mk ⟨x.b.enc,0,64*x.b.dJ,64*x.b.dJ⟩ x.b.dJ).at_ i).toNat=(x.b.key++x.b.value).data[i]:=λi hi=>by rw[atb];exact ab9 x.b i hi
 have s1:(AQ.mk ⟨x.b.enc,0,64*x.b.dJ,64*x.b.dJ⟩ x.b.dJ).str.size=28+63*(x.b.dJ-1):=ab8 _ _;have s2:(AQ.mk ⟨x.b.enc,0,64*x.b.dJ,64*x.b.dJ⟩ x.b.dJ).str.extract 0 x.b.key.size=x.b.key:=Qy (by omega) (by show x.b.key.size<=28+63*(x.b.dJ-1);omega) λi hi=>by
  rw[hstr (0+i) (by omega)];simp only[aA,ByteArray.data_append];exact Array.getElem_append_left hi
 have s3:(AQ.mk ⟨x.b.enc,0,64*x.b.dJ,64*x.b.dJ⟩ x.b.dJ).str.extract x.b.key.size ((x.b.key.size:Int)+(x.b.value.size:Int)).toNat=x.b.value:=Qy (by omega) (by show((x.b.key.size:Int)+(x.b.value.size:Int)).toNat<=28+63*(x.b.dJ-1);omega) λi hi=>by
  rw[hstr (x.b.key.size+i) (by omega)];simp only[ByteArray.data_append];have:x.b.key.data.size=x.b.key.size:=rfl;rw[Array.getElem_append_right (by omega)];congr 1;omega
 rw[s2,s3,s1];have hget: ∀a,a+8<=64->(Ei.mk ⟨x.b.enc,0,64*x.b.dJ,64*x.b.dJ⟩ a 8).b.ok/\a+8<=64*x.b.dJ/\1<=8/\8<=8:=λa ha=>⟨hB,by omega,by decide,by decide⟩
 refine⟨by unfold I64;omega,bf (λh=>absurd (aS h) (by omega)) λ_=>⟨by omega,by omega,by unfold I64;omega,by omega,by omega,by omega,
  ⟨⟨x.b.enc,0,64*x.b.dJ,64*x.b.dJ⟩,8,8⟩,hget 8 (by decide),⟨⟨rfl,rfl⟩,rfl,rfl⟩,⟨rfl,λq hq=>(hg q hq).symm⟩,
  ⟨⟨x.b.enc,0,64*x.b.dJ,64*x.b.dJ⟩,16,8⟩,hget 16 (by decide),⟨⟨rfl,rfl⟩,rfl,rfl⟩,⟨rfl,λq hq=>(hg q hq).symm⟩,
  ⟨⟨x.b.enc,0,64*x.b.dJ,64*x.b.dJ⟩,24,8⟩,hget 24 (by decide),⟨⟨rfl,rfl⟩,rfl,rfl⟩,⟨rfl,λq hq=>(hg q hq).symm⟩,?_⟩⟩
 simp only[aA,hE];refine⟨x.b,⟨hm,hk,hv⟩,⟨rfl,rfl,rfl,rfl,rfl,rfl,rfl⟩,?_⟩;have hb: ∀k,k<64*x.b.dJ->isByte [Value.int .u8 (x.g k)]=true:=λk hk=>by rw[hg k hk];exact yj (yu hm k)
 have he: ∀k,isByte [Value.int .u8 (x.b.enc k)]=true:=λk=>yj (yu hm k)
 have hq: ∀n,n=64*x.b.dJ->(!(ByteArray.toList ⟨(List.map (λk=>(⟨BitVec.ofNat 8 (x.b.enc k).toNat⟩:UInt8)) (List.range n)).toArray⟩==ByteArray.toList ⟨(List.map (λk=>(⟨BitVec.ofNat 8 (x.g k).toNat⟩:UInt8)) (List.range (64*x.b.dJ))).toArray⟩))=false:=λn hn=>by
  subst hn;rw[Bool.not_eq_false',Ej];congr 2;exact List.map_congr_left λk hk=>by rw[hg k (List.mem_range.1 hk)]
 have h1:x.b.cls=0->64=64*x.b.dJ:=λh=>by
  have:spn x.b.cls=1:=by rw[h];rfl
  omega
 refine⟨λh=>⟨aY _,λk _=>he k,aY _,hb,?_⟩,λh=>⟨aY _,λk _=>he k,aY _,hb,?_⟩⟩
 ·rw[hq 64 (h1 h),iq]
  exact⟨trivial,trivial,trivial,trivial,trivial⟩
 ·rw[hq _ rfl,iq]
  exact⟨trivial,trivial,trivial,trivial,trivial⟩
theorem ZO:dX Tryz.prog aqv:= .cons (bM ng) (.cons (bM aoi) (.cons (bM agU) (.cons (bM aqt) .nil)))
theorem aot:bZ Tryz.prog 180 aoq:=iZ dD mixed ZO as8 200 5 (λ_=>rfl) (λ_=>⟨λ_=>rfl,λ_=>rfl,trivial⟩) λx hx=>Eq.mp (alM x) (ab7 x (aZ.1 hx))
theorem alO:bZ Tryz.prog 63 Em:=dM dD mixed ZO noA 200 5 (λ_=>rfl) (λ_=>rfl) λx hx=>Eq.mp (ab6 x) (Qw x (aZ.1 hx))
theorem aqA:bZ Tryz.prog 179 Vk:=dM dD mixed .nil aor 200 5 (λ_=>rfl) (λ_=>rfl) λx hx=>Eq.mp (ahd x) (Vo x (aZ.1 hx))
theorem alP:dX Tryz.prog as9:= .cons (bM ng) (.cons (bM as7) (.cons (bM aqA) (.cons (bM aot) .nil)))
theorem atc:bZ Tryz.prog 121 aqu:=dM dD mixed alP noA 200 5 (λ_=>rfl) (λ_=>rfl) λx hx=>Eq.mp (alN x) (acd x (aZ.1 hx))



end Go.Proofs.YtenfleoejgjklaaGreat
end
section
namespace Go.Proofs.YtenfleoejgjklaaGreat
open Go
theorem disable(w:World):(callFunc 268 #[]).run Tryz.prog w= .ok (.value (.tuple #[])) w:=run_call_mark0 Tryz.func268 (by kernel_rfl) (by kernel_rfl) (by kernel_rfl) .disable (by kernel_rfl) w
theorem enable(w:World):(callFunc 270 #[]).run Tryz.prog w= .ok (.value (.tuple #[])) w:=run_call_mark0 Tryz.func270 (by kernel_rfl) (by kernel_rfl) (by kernel_rfl) .enable (by kernel_rfl) w
theorem acquire(a:Addr)(w:World):(callFunc 271 #[.pointer (some a)]).run Tryz.prog w= .ok (.value (.tuple #[])) w:=run_call_marked Tryz.func271 (by kernel_rfl) (by kernel_rfl) (by kernel_rfl) .acquire (by kernel_rfl) a w
theorem releaseMerge(a:Addr)(w:World):(callFunc 273 #[.pointer (some a)]).run Tryz.prog w= .ok (.value (.tuple #[])) w:=run_call_marked Tryz.func273 (by kernel_rfl) (by kernel_rfl) (by kernel_rfl) .releaseMerge (by kernel_rfl) a w
set_option maxRecDepth 100000 in
set_option maxHeartbeats 1600000 in
theorem ilock_free(a:Addr)(w:World)(hc:w.cell? a=some (.int .i32 0))(hz:w.frozen? a=false):
  Calls Tryz.prog 237 #[.pointer (some a)] w λe w'=>e= .returned (.tuple #[])/\w'=w.setCell a (.int .i32 1):=by
 have hd:=disable;have he:=enable;have ha:=acquire;have hcas:=run_call_cas_hit (P:=Tryz.prog) Tryz.func269 (by kernel_rfl) (by kernel_rfl) (by kernel_rfl) .i32 (by kernel_rfl) (y:=1) hc hz;have hc':(w.setCell a (.int .i32 1)).cell? a=some (.int .i32 1):=World.cell?_setCell_same w a _ hc;have hcv:=run_convert_to_unsafe (P:=Tryz.prog) (src:=368) (dst:=372) Tryz.underlying368 Tryz.underlying372 (by kernel_rfl) hc'
 go_enter Tryz.func237,Tryz.ntmps237
 go_wp2
 all_goals first|exact⟨rfl,rfl⟩|(first|go_end0|(simp only[Exit.inBlock,Exit.then];refine bodyPost_ret (results_none rfl _ _ _) rfl ?_)|refine bodyPost_ret (results_none rfl _ _ _) rfl ?_)
 all_goals exact⟨rfl,rfl⟩
set_option maxRecDepth 100000 in
set_option maxHeartbeats 1600000 in
theorem lock_free(a:Addr)(w:World)(hc:w.cell? a=some (.int .i32 0))(hz:w.frozen? a=false):
  Calls Tryz.prog 194 #[.pointer (some a)] w λe w'=>e= .returned (.tuple #[])/\w'=w.setCell a (.int .i32 1):=by
 go_enter Tryz.func194,Tryz.ntmps194
 go_wp2_with (go_at_call 237;refine(ilock_free a w hc hz).mono ?_;rintro e w' ⟨rfl,rfl⟩)
 all_goals first|exact⟨rfl,rfl⟩|(go_wp2;go_end0;exact⟨rfl,rfl⟩)|(go_end0;exact⟨rfl,rfl⟩)
set_option maxRecDepth 100000 in
set_option maxHeartbeats 1600000 in
theorem store_deferred(a:Addr)(x:Value)(u:FrameMode)(w:World)(hc:w.cell? a=some x)(hz:w.frozen? a=false):
  CallsD Tryz.prog 196 #[.pointer (some a),.bool true] u w λe u' w'=>u'=u/\(e= .returned (.tuple #[])/\w'=w.drew.setCell a (.int .u32 1)):=by
 have hc':w.drew.cell? a=some x:=by go_simp
 have hz':w.drew.frozen? a=false:=by go_simp
 have hst:=run_call_store (P:=Tryz.prog) Tryz.func239 (by kernel_rfl) (by kernel_rfl) (by kernel_rfl) (by kernel_rfl) (k:= .u32) (y:=1) hc' hz'
 go_enter_d Tryz.func196,Tryz.ntmps196
 go_wp2
 go_region_calls
 all_goals (go_end0;exact⟨rfl,rfl⟩)
set_option maxRecDepth 100000 in
set_option maxHeartbeats 1600000 in
theorem iunlock(a:Addr)(w:World)(hc:w.cell? a=some (.int .i32 1))(hz:w.frozen? a=false):
  Calls Tryz.prog 238 #[.pointer (some a)] w λe w'=>e= .returned (.tuple #[])/\w'=w.setCell a (.int .i32 0):=by
 have hd:=disable;have he:=enable;have hr:=releaseMerge;have hadd:=run_call_add (P:=Tryz.prog) Tryz.func274 (by kernel_rfl) (by kernel_rfl) (by kernel_rfl) .i32 (by kernel_rfl) (y:= -1) (s:=0) hc hz (by simp[go_sem];rfl);have hcv:=run_convert_to_unsafe (P:=Tryz.prog) (src:=368) (dst:=372) Tryz.underlying368 Tryz.underlying372 (by kernel_rfl) hc
 go_enter Tryz.func238,Tryz.ntmps238
 go_wp2
 all_goals first|exact⟨rfl,rfl⟩|go_end0
 all_goals first|exact⟨rfl,rfl⟩|go_wp2
 all_goals first|exact⟨rfl,rfl⟩|go_end0
 all_goals first|exact⟨rfl,rfl⟩
set_option maxRecDepth 100000 in
set_option maxHeartbeats 1600000 in
theorem unlock_deferred(a:Addr)(u:FrameMode)(w:World)(hc:w.cell? a=some (.int .i32 1))(hz:w.frozen? a=false):
  CallsD Tryz.prog 195 #[.pointer (some a)] u w λe u' w'=>u'=u/\(e= .returned (.tuple #[])/\w'=w.setCell a (.int .i32 0)):=by
 go_enter_d Tryz.func195,Tryz.ntmps195
 go_wp2_with (go_at_call 238;refine(iunlock a w hc hz).mono ?_;rintro e w' ⟨rfl,rfl⟩)
 all_goals first|exact⟨rfl,rfl⟩|(go_wp2;go_end0;exact⟨rfl,rfl⟩)|(go_end0;exact⟨rfl,rfl⟩)
set_option maxRecDepth 100000 in
set_option maxHeartbeats 1600000 in
theorem slow_any(b off:Nat)(g:FuncId)(fa ca:Array Value)(w:World)(R:World->Prop)(hc:SE.nT Tryz.prog g)
  (h0:w.cell? ⟨b,off,none⟩=some (.int .u32 0)) (h1:w.cell? ⟨b,off+1,none⟩=some (.int .i32 0)) (f0:w.frozen? ⟨b,off,none⟩=false) (f1:w.frozen? ⟨b,off+1,none⟩=false)
  (hf:Calls Tryz.prog g (fa++ca) (w.setCell ⟨b,off+1,none⟩ (.int .i32 1)) λe w'=>(∃u,e= .returned u)/\w'.cell? ⟨b,off,none⟩=some (.int .u32 0)/\w'.frozen? ⟨b,off,none⟩=false/\
   w'.cell? ⟨b,off+1,none⟩=some (.int .i32 1)/\w'.frozen? ⟨b,off+1,none⟩=false/\R w'):
  Calls Tryz.prog 148 #[.pointer (some ⟨b,off,none⟩),.func (.func g) fa ca] w λe w'=>e= .returned (.tuple #[])/\ ∃w2,R w2/\
   w'=(w2.drew.setCell ⟨b,off,none⟩ (.int .u32 1)).setCell ⟨b,off+1,none⟩ (.int .i32 0):=by
 have hl:=run_call_load (P:=Tryz.prog) Tryz.func193 (by kernel_rfl) (by kernel_rfl) (by kernel_rfl) .u32 (by kernel_rfl) (w:=w.setCell ⟨b,off+1,none⟩ (.int .i32 1)) (a:=⟨b,off,none⟩) (x:=0) ((World.cell?_setCell_other _ ⟨b,off+1,none⟩ ⟨b,off,none⟩ _ (by simp)).trans h0);have hnot: ∀(x:Bool) (w:World),(Op.unary .not (.bool x)).run Tryz.prog w= .ok (.bool (!x)) w:=λ_ _=>rfl
 have hrun:=SE.Ar hc
 go_enter_defers Tryz.func148,Tryz.ntmps148
 go_wp2_with (go_at_call 194;refine(lock_free ⟨b,off+1,none⟩ _ (by go_simp) (by go_simp)).mono ?_;rintro e w' ⟨rfl,rfl⟩)
 go_wp2
 refine hf.mono ?_
 rintro e w' ⟨⟨u,rfl⟩,c0,z0,c1,z1,hR⟩
 go_wp2
 refine leaves_cons (f:=196) (args:= #[.pointer (some ⟨b,off,none⟩),.bool true]) (by simp) (by simp[go_sem]) ?_;refine(store_deferred ⟨b,off,none⟩ (.int .u32 0) .returning _ c0 z0).mono ?_
 rintro e u' w'' ⟨rfl,rfl,rfl⟩
 refine leaves_cons (f:=195) (args:= #[.pointer (some ⟨b,off+1,none⟩)]) (by simp[settle]) (by simp[go_sem]) ?_;refine(unlock_deferred ⟨b,off+1,none⟩ _ _ ?_ ?_).mono ?_
 ·refine(World.cell?_setCell_other _ ⟨b,off,none⟩ ⟨b,off+1,none⟩ _ (by simp)).trans ?_
  rw[World.cell?_drew];exact c1
 ·simp[z1]
 rintro e u' w'' ⟨rfl,rfl,rfl⟩
 simp[Leaves,settle,results,Tryz.results148];exact⟨w',hR,rfl⟩
end Go.Proofs.YtenfleoejgjklaaGreat
end
section
namespace Go.Proofs.YtenfleoejgjklaaGreat
open Go SE
def ace(k:IntKind)(z:Int)(x:Option AV):Bool:=match x with
 |some (.lit (.int k' z'))=>decide (k'=k)&&decide (z'=z)
 |_=>false
theorem alQ{k:IntKind}{z:Int}{x:Option AV}(h:ace k z x=true):x=some (.lit (.int k z)):=by
 unfold ace at h;split at h
 ·simp only[aJ,decide_eq_true_eq]at h
  obtain⟨rfl,rfl⟩:=h;rfl
 ·cases h
def JZ(i o:Nat)(K:AV->Heap->Prop)(h2:Heap):Prop:=
 bif ace .u32 0 (cellAt h2 i o)&&ace .i32 1 (cellAt h2 i (o+1))&&(setCell h2 i (o+1) (.lit (.int .i32 0))).isSome then(match setCell h2 i o (.lit (.int .u32 1))with
  |some h3=>match setCell h3 i (o+1) (.lit (.int .i32 0))with
   |some h4=>K (.tup []) h4
   |none=>False
  |none=>False)else False
def aqB(tbl:jd):WTr:=λargs h K=>match args with
 |[.ptr i o,.fn (.func g) first cap]=>bif ace .u32 0 (cellAt h i o)&&ace .i32 0 (cellAt h i (o+1))&&(setCell h i o (.lit (.int .u32 1))).isSome then(match setCell h i (o+1) (.lit (.int .i32 1))with
  |some h1=>wpF Tryz.prog tbl tt (λ_ _ _ _=>[]) 200 5 g (first++cap) h1 (λ_ h2=>JZ i o K h2)
  |none=>False)else False
 |_=>False
theorem J3{h:Heap}{ρ:Ren}{T:Nat->Prop}{w:World}(hR:Rel h ρ T w){i o:Nat}{b:SE.Loc}{k:IntKind}{z:Int}(hb:ρ i=some b)(hc:ace k z (cellAt h i o)=true):w.cell? ⟨b.blk,b.base+o,none⟩=some (.int k z):=by
 obtain⟨b',hb',y,hy,hr⟩:=hR.cell (alQ hc);obtain rfl:b'=b:=Option.some.inj (hb'.symm.trans hb);simp only[bD]at hr;subst hr;exact hy
theorem Qz{h h':Heap}{i o:Nat}{k:IntKind}{z:Int}(hs:setCell h i o (.lit (.int k z))=some h'):ak1 h i o k z (λx=>x=h'):=by unfold ak1;rw[hs]
theorem alR{tbl:jd}(ht:dX Tryz.prog tbl)(args:List AV)(h:Heap)(K:AV->Heap->Prop)(hq:aqB tbl args h K):Sp Tryz.prog 148 args h K:=by
 unfold aqB at hq;split at hq
 ·rename_i i o g first cap
  cases hc:(ace .u32 0 (cellAt h i o)&&ace .i32 0 (cellAt h i (o+1))&&(setCell h i o (.lit (.int .u32 1))).isSome)<;>rw[hc]at hq
  ·exact hq.elim
  ·simp only[aP]at hq
   simp only[aJ]at hc;obtain⟨⟨c0,c1⟩,c2⟩:=hc;split at hq
   ·rename_i h1 hs1
    have hsp:=qN dD mixed ht _ _ _ _ _ _ _ hq;refine⟨⟨_,Tryz.func148,by kernel_rfl,by kernel_rfl⟩,λρ T w vs hR hl=> ?_⟩;simp only[dP]at hl;obtain⟨u0,_,hvs,hu0,u1,_,rfl,hu1,rfl⟩:=hl;simp only[bD]at hu0 hu1;obtain⟨b,hb,rfl⟩:=hu0;obtain⟨fa,ca,rfl,hfa,hca⟩:=hu1;have hvs':=vs2 hvs;rw[hvs'];have e1:b.base+(o+1)=b.base+o+1:=by omega
    obtain⟨h1',f1,R1,n1,K1,rfl⟩:=oD (P:=Tryz.prog) hR (Qz hs1) hb;have f0:w.frozen? ⟨b.blk,b.base+o,none⟩=false:=by
     obtain⟨h5,hs5⟩:=Option.isSome_iff_exists.1 c2;exact hR.afp hs5 hb
    have g0:=J3 hR hb c0;have g1:=J3 hR hb c1;rw[e1]at g1 f1;refine(slow_any b.blk (b.base+o) g fa ca w (λw2=> ∃ρ2 h2,(∀j,j<h.next->ρ2 j=ρ j)/\h.next<=h2.next/\Rel h2 ρ2 T w2/\Keeps T w w2/\JZ i o K h2) hsp.1 g0 g1 f0 f1 ?_).mono ?_
    ·refine(hsp.2 ρ T _ (fa++ca) (by rw[<-e1];exact R1) (by rw[Array.toList_append];exact hfa.append hca)).mono ?_
     rintro e w2 ⟨ρ2,v3,u,h2,q1,q2,q3,q4,rfl,q5,hq⟩
     have hi:i<h1'.next:=by
      rcases Nat.lt_or_ge i h1'.next with hlt|hge
      ·exact hlt
      ·obtain⟨_,_,_,_,r4,_⟩:=R1
       rw[r4 i hge]at hb;cases hb
     have hb2:ρ2 i=some b:=(q1 i hi).trans hb;have hq0:=hq;unfold JZ at hq;cases hc2:(ace .u32 0 (cellAt h2 i o)&&ace .i32 1 (cellAt h2 i (o+1))&&(setCell h2 i (o+1) (.lit (.int .i32 0))).isSome)<;>rw[hc2]at hq
     ·exact hq.elim
     ·simp only[aP]at hq
      simp only[aJ]at hc2;obtain⟨⟨d0,d1⟩,d2⟩:=hc2;split at hq
      ·rename_i h3 hs3
       obtain⟨h5,hs5⟩:=Option.isSome_iff_exists.1 d2;obtain⟨_,z1,_⟩:=oD (P:=Tryz.prog) q3 (Qz hs5) hb2;obtain⟨_,z0,_⟩:=oD (P:=Tryz.prog) q3 (Qz hs3) hb2;have m0:=J3 q3 hb2 d0;have m1:=J3 q3 hb2 d1;rw[e1]at m1 z1;exact⟨⟨u,rfl⟩,m0,z0,m1,z1,ρ2,h2,λj hj=>q1 j (by rw[n1];exact hj),by rw[<-n1];exact q2,q3,(by rw[e1]at K1;exact K1.trans q5),hq0⟩
      ·exact hq.elim
    ·rintro e w' ⟨rfl,w2,⟨ρ2,h2,q1,q2,q3,q5,hq⟩,rfl⟩
     have hi:i<h.next:=by
      rcases Nat.lt_or_ge i h.next with hlt|hge
      ·exact hlt
      ·obtain⟨_,_,_,_,r4,_⟩:=hR
       rw[r4 i hge]at hb;cases hb
     have hb2:ρ2 i=some b:=(q1 i hi).trans hb;unfold JZ at hq;cases hc2:(ace .u32 0 (cellAt h2 i o)&&ace .i32 1 (cellAt h2 i (o+1))&&(setCell h2 i (o+1) (.lit (.int .i32 0))).isSome)<;>rw[hc2]at hq
     ·exact hq.elim
     ·simp only[aP]at hq
      split at hq
      ·rename_i h3 hs3
       split at hq
       ·rename_i h4 hs4
        obtain⟨h3',_,R3,n3,K3,rfl⟩:=oD (P:=Tryz.prog) q3.drew (Qz hs3) hb2;obtain⟨h4',_,R4,n4,K4,rfl⟩:=oD (P:=Tryz.prog) R3 (Qz hs4) hb2;rw[e1]at R4 K4;exact⟨ρ2,_,_,_,q1,by omega,R4,by simp only[bD];exact⟨_,rfl,.nil⟩,rfl,((q5.trans (Keeps.drew T w2)).trans K3).trans K4,hq⟩
       ·exact hq.elim
      ·exact hq.elim
   ·exact hq.elim
 ·exact hq.elim
def acf(n:Nat)(k:Nat):Int:=if k=0 then 4 else if k=1 then 70 else if k=2 then 85 else if k=3 then 83 else if k=4 then 69 else(n:Int)/256^(k-5)%256
noncomputable def ny(n:Nat)(k:Nat):Int:=if k<9 then acf n k else if k<13 then nM 0 (acf n) 9/256^(k-9)%256 else 0
noncomputable def Eu:Ctr:=det Nat (λn=>[i64 n]) 0 (λ_=>[]) (λn=>Hd (10<=n/\n<=258)) (λ_=> .tup [.slE 0 0 1 64 64,i64 0]) 1 (λn=>[.cells 312 (rowB (ny n) 64)])
def DevM.wide(d:DevM)(k:Int):Prop:=d.st+k<1099511627776/\d.fl+k<1099511627776/\d.fe+k<1099511627776
noncomputable def Ew:jw:={X:=DevM,args:=λ_=>[.ptr 0 0],k:=1,l:=λd=>[.m d.os],pre:=λd=>Hd (d.ok/\10<=d.n/\d.wide 10),outs:=[
 {Y:=DevM,post:=λd d'=>Hd (d'.ok/\d'.n=d.n/\d'.st=d.st+2/\d'.fl=d.fl+2/\d'.fe=d.fe+1),ret:=λ_ _=>i64 0,m:=1,l:=λ_ d'=>[.m d'.os]}]}
noncomputable def atd:jd:=[(149,ctrT Eu),(150,ctrT DV),(62,ctrT DY),(105,ctrT DW),(106,ctrT DX)]
def aqC(a:ug)(b:Nat):Prop:=(Nat.beq (List.length [Value.int .u8 (a.res (0+b))]) 1&&List.all [Value.int .u8 (a.res (0+b))] Value.oneCell')=true
def alS(a:DevM)(b:DevM):Prop:=a.fe=b.fe/\a.ba=b.ba/\a.cu=b.cu/\True
def aqD(a:DevM)(b:Pq):Prop:=((0=0/\a.n=b.d.n/\a.n=b.d.n)/\a.st=b.d.st/\a.fl=ite (b.k<b.d.n) (b.d.fl+1) b.d.fl/\alS a b.d)/\(a.n*193=b.d.n*193/\ ∀q:Nat,q<a.n*193->Cs.eff (kR a) [] q=Cs.eff (kR (b.d.flush b.k)) [] q)/\True
def alT(a:ug):Prop:= ∀k:Nat,k<a.b.n->aqC a k
def alU(a:ug):Prop:= ∀k:Nat,k<64->aqC a k
def Gt:Prop:=0<=64/\64<=64/\64<=64
def ahg:Prop:=(0=0/\64=64/\64=64)/\(0:Int)=0/\True
def ahh(a:DevM)(b:lX):Prop:=a.n*193=b.d.n*193/\ ∀q:Nat,q<a.n*193->Cs.eff (kR a) [] q=Cs.eff (kR (b.d.store b.k b.a b.b.n (λ(q_1:Nat)=>b.b.g (b.b.q+q_1)))) [] q
def ahi(a:ug)(b: ∀a:Nat,Int)(c:Nat):Prop:=(a.b.q=0/\a.b.n=64/\a.c=64)/\(a.at_:Int)=9/\(a.w:Int)=4/\a.v=IntKind.wrap .u64 (nM (0:Int) b c)/\True
def ahj(a:DevM)(b:DevM):Prop:=(0=0/\a.n=b.n/\a.n=b.n)/\a.st=b.st+1/\a.fl=b.fl/\alS a b
def ahk:Prop:= ∃y:Unit,True/\(False/\(0:Int)=2/\True)/\False/\True
def Vp(x:Nat):Prop:=
 cP (decide ((x:Int)<10)) ahk (cP (decide ((x:Int)>(258:Int))) ahk (∃x_1:ug,Hd x_1.ok/\((x_1.b.q=0/\x_1.b.n=9/\x_1.c=9)/\(x_1.at_:Int)=5/\(x_1.w:Int)=4/\x_1.v=IntKind.wrap .u64 (x:Int)/\True)/\((x_1.b.N=9/\ ∀q:Nat,q<x_1.b.N->[Value.int .u8 (x_1.b.g q)]=[List.getD [Value.int .u8 4,Value.int .u8 70,Value.int .u8 85,Value.int .u8 83,Value.int .u8 69,Value.int .u8 0,Value.int .u8 0,Value.int .u8 0,Value.int .u8 0] q (@Inhabited.default Value @instInhabitedValue)])/\True)/\ ∀y:Unit,True->Gt/\64<=64/\cP (Nat.ble x_1.b.n 64) (0+x_1.b.n<=x_1.b.n/\alT x_1/\Gt/\0+x_1.b.n<=x_1.b.n/\ ∃n:Nat,∃g: ∀a:Nat,Int,x_1.b.n=n/\n<1099511627776/\(∀k:Nat,k<n->[Value.int .u8 (x_1.res (0+k))]=[Value.int .u8 (g k)])/\(∀k:Nat,0<=g k/\g k<256)/\True/\ ∃x_2:ug,Hd x_2.ok/\ahi x_2 g n/\((x_2.b.N=64/\ ∀q:Nat,q<x_2.b.N->[Value.int .u8 (x_2.b.g q)]=Cs.eff (λ(p:Nat)=>cond (Nat.ble 0 p&&Nat.blt p (0+x_1.b.n)) [Value.int .u8 (x_1.res (0+(p-0)))] [Value.int .u8 0]) [] q)/\True)/\ ∀y_1:Unit,True->True/\Gt/\64<=64/\cP (Nat.ble x_2.b.n 64) (0+x_2.b.n<=x_2.b.n/\alT x_2/\
 (∀k:Nat,k<64->(Nat.beq (List.length (Cs.eff (λ(p:Nat)=>cond (Nat.ble 0 p&&Nat.blt p (0+x_2.b.n)) [Value.int .u8 (x_2.res (0+(p-0)))] (Cs.eff (λ(p_1:Nat)=>cond (Nat.ble 0 p_1&&Nat.blt p_1 (0+x_1.b.n)) [Value.int .u8 (x_1.res (0+(p_1-0)))] [Value.int .u8 0]) [] p)) [] k)) 1&&List.all (Cs.eff (λ(p:Nat)=>cond (Nat.ble 0 p&&Nat.blt p (0+x_2.b.n)) [Value.int .u8 (x_2.res (0+(p-0)))] (Cs.eff (λ(p_1:Nat)=>cond (Nat.ble 0 p_1&&Nat.blt p_1 (0+x_1.b.n)) [Value.int .u8 (x_1.res (0+(p_1-0)))] [Value.int .u8 0]) [] p)) [] k) Value.oneCell')=true)/\(∀k:Nat,k<64->(Nat.beq (List.length (Cs.eff (Cs.eff (λ(p:Nat)=>cond (Nat.ble 0 p&&Nat.blt p (0+x_2.b.n)) [Value.int .u8 (x_2.res (0+(p-0)))] (Cs.eff (λ(p_1:Nat)=>cond (Nat.ble 0 p_1&&Nat.blt p_1 (0+x_1.b.n)) [Value.int .u8 (x_1.res (0+(p_1-0)))] [Value.int .u8 0]) [] p)) []) [] k)) 1&&List.all (Cs.eff (Cs.eff (λ(p:Nat)=>cond (Nat.ble 0 p&&Nat.blt p (0+x_2.b.n)) [Value.int .u8 (x_2.res (0+(p-0)))] (Cs.eff (λ(p_1:Nat)=>cond (Nat.ble 0 p_1&&Nat.blt p_1 (0+x_1.b.n)) [Value.int .u8 (x_1.res (0+(p_1-0)))] [Value.int .u8 0]) [] p)) []) [] k) Value.oneCell')=true)/\
 (∀k:Nat,k<64->(Nat.beq (List.length (Cs.eff (Cs.eff (Cs.eff (λ(p:Nat)=>cond (Nat.ble 0 p&&Nat.blt p (0+x_2.b.n)) [Value.int .u8 (x_2.res (0+(p-0)))] (Cs.eff (λ(p_1:Nat)=>cond (Nat.ble 0 p_1&&Nat.blt p_1 (0+x_1.b.n)) [Value.int .u8 (x_1.res (0+(p_1-0)))] [Value.int .u8 0]) [] p)) []) []) [] k)) 1&&List.all (Cs.eff (Cs.eff (Cs.eff (λ(p:Nat)=>cond (Nat.ble 0 p&&Nat.blt p (0+x_2.b.n)) [Value.int .u8 (x_2.res (0+(p-0)))] (Cs.eff (λ(p_1:Nat)=>cond (Nat.ble 0 p_1&&Nat.blt p_1 (0+x_1.b.n)) [Value.int .u8 (x_1.res (0+(p_1-0)))] [Value.int .u8 0]) [] p)) []) []) [] k) Value.oneCell')=true)/\Gt/\ ∃y_2:Unit,True/\ahg/\(64=64/\ ∀q:Nat,q<64->[Value.int .u8 (ny x q)]=Cs.eff (Cs.eff (Cs.eff (Cs.eff (λ(p:Nat)=>cond (Nat.ble 0 p&&Nat.blt p (0+x_2.b.n)) [Value.int .u8 (x_2.res (0+(p-0)))] (Cs.eff (λ(p_1:Nat)=>cond (Nat.ble 0 p_1&&Nat.blt p_1 (0+x_1.b.n)) [Value.int .u8 (x_1.res (0+(p_1-0)))] [Value.int .u8 0]) [] p)) []) []) []) [] q)/\True) (64<=x_2.b.n/\alU x_2/\(∀k:Nat,k<64->(Nat.beq (List.length (Cs.eff (λ(p:Nat)=>cond (Nat.ble 0 p&&Nat.blt p 64) [Value.int .u8 (x_2.res (0+(p-0)))] (Cs.eff (λ(p_1:Nat)=>cond (Nat.ble 0 p_1&&Nat.blt p_1 (0+x_1.b.n)) [Value.int .u8 (x_1.res (0+(p_1-0)))] [Value.int .u8 0]) [] p)) [] k)) 1&&List.all (Cs.eff (λ(p:Nat)=>cond (Nat.ble 0 p&&Nat.blt p 64) [Value.int .u8 (x_2.res (0+(p-0)))] (Cs.eff (λ(p_1:Nat)=>cond (Nat.ble 0 p_1&&Nat.blt p_1 (0+x_1.b.n)) [Value.int .u8 (x_1.res (0+(p_1-0)))] [Value.int .u8 0]) [] p)) [] k) Value.oneCell')=true)/\
 (∀k:Nat,k<64->(Nat.beq (List.length (Cs.eff (Cs.eff (λ(p:Nat)=>cond (Nat.ble 0 p&&Nat.blt p 64) [Value.int .u8 (x_2.res (0+(p-0)))] (Cs.eff (λ(p_1:Nat)=>cond (Nat.ble 0 p_1&&Nat.blt p_1 (0+x_1.b.n)) [Value.int .u8 (x_1.res (0+(p_1-0)))] [Value.int .u8 0]) [] p)) []) [] k)) 1&&List.all (Cs.eff (Cs.eff (λ(p:Nat)=>cond (Nat.ble 0 p&&Nat.blt p 64) [Value.int .u8 (x_2.res (0+(p-0)))] (Cs.eff (λ(p_1:Nat)=>cond (Nat.ble 0 p_1&&Nat.blt p_1 (0+x_1.b.n)) [Value.int .u8 (x_1.res (0+(p_1-0)))] [Value.int .u8 0]) [] p)) []) [] k) Value.oneCell')=true)/\(∀k:Nat,k<64->(Nat.beq (List.length (Cs.eff (Cs.eff (Cs.eff (λ(p:Nat)=>cond (Nat.ble 0 p&&Nat.blt p 64) [Value.int .u8 (x_2.res (0+(p-0)))] (Cs.eff (λ(p_1:Nat)=>cond (Nat.ble 0 p_1&&Nat.blt p_1 (0+x_1.b.n)) [Value.int .u8 (x_1.res (0+(p_1-0)))] [Value.int .u8 0]) [] p)) []) []) [] k)) 1&&List.all (Cs.eff (Cs.eff (Cs.eff (λ(p:Nat)=>cond (Nat.ble 0 p&&Nat.blt p 64) [Value.int .u8 (x_2.res (0+(p-0)))] (Cs.eff (λ(p_1:Nat)=>cond (Nat.ble 0 p_1&&Nat.blt p_1 (0+x_1.b.n)) [Value.int .u8 (x_1.res (0+(p_1-0)))] [Value.int .u8 0]) [] p)) []) []) [] k) Value.oneCell')=true)/\Gt/\ ∃y_2:Unit,True/\ahg/\(64=64/\ ∀q:Nat,q<64->[Value.int .u8 (ny x q)]=Cs.eff (Cs.eff (Cs.eff (Cs.eff (λ(p:Nat)=>cond (Nat.ble 0 p&&Nat.blt p 64) [Value.int .u8 (x_2.res (0+(p-0)))] (Cs.eff (λ(p_1:Nat)=>cond (Nat.ble 0 p_1&&Nat.blt p_1 (0+x_1.b.n)) [Value.int .u8 (x_1.res (0+(p_1-0)))] [Value.int .u8 0]) [] p)) []) []) []) [] q)/\True)) (64<=x_1.b.n/\alU x_1/\Gt/\0+x_1.b.n<=x_1.b.n/\ ∃n:Nat,∃g: ∀a:Nat,Int,x_1.b.n=n/\n<1099511627776/\
 (∀k:Nat,k<n->[Value.int .u8 (x_1.res (0+k))]=[Value.int .u8 (g k)])/\(∀k:Nat,0<=g k/\g k<256)/\True/\ ∃x_2:ug,Hd x_2.ok/\ahi x_2 g n/\((x_2.b.N=64/\ ∀q:Nat,q<x_2.b.N->[Value.int .u8 (x_2.b.g q)]=Cs.eff (λ(p:Nat)=>cond (Nat.ble 0 p&&Nat.blt p 64) [Value.int .u8 (x_1.res (0+(p-0)))] [Value.int .u8 0]) [] q)/\True)/\ ∀y_1:Unit,True->True/\Gt/\64<=64/\cP (Nat.ble x_2.b.n 64) (0+x_2.b.n<=x_2.b.n/\alT x_2/\(∀k:Nat,k<64->(Nat.beq (List.length (Cs.eff (λ(p:Nat)=>cond (Nat.ble 0 p&&Nat.blt p (0+x_2.b.n)) [Value.int .u8 (x_2.res (0+(p-0)))] (Cs.eff (λ(p_1:Nat)=>cond (Nat.ble 0 p_1&&Nat.blt p_1 64) [Value.int .u8 (x_1.res (0+(p_1-0)))] [Value.int .u8 0]) [] p)) [] k)) 1&&List.all (Cs.eff (λ(p:Nat)=>cond (Nat.ble 0 p&&Nat.blt p (0+x_2.b.n)) [Value.int .u8 (x_2.res (0+(p-0)))] (Cs.eff (λ(p_1:Nat)=>cond (Nat.ble 0 p_1&&Nat.blt p_1 64) [Value.int .u8 (x_1.res (0+(p_1-0)))] [Value.int .u8 0]) [] p)) [] k) Value.oneCell')=true)/\(∀k:Nat,k<64->(Nat.beq (List.length (Cs.eff (Cs.eff (λ(p:Nat)=>cond (Nat.ble 0 p&&Nat.blt p (0+x_2.b.n)) [Value.int .u8 (x_2.res (0+(p-0)))] (Cs.eff (λ(p_1:Nat)=>cond (Nat.ble 0 p_1&&Nat.blt p_1 64) [Value.int .u8 (x_1.res (0+(p_1-0)))] [Value.int .u8 0]) [] p)) []) [] k)) 1&&List.all (Cs.eff (Cs.eff (λ(p:Nat)=>cond (Nat.ble 0 p&&Nat.blt p (0+x_2.b.n)) [Value.int .u8 (x_2.res (0+(p-0)))] (Cs.eff (λ(p_1:Nat)=>cond (Nat.ble 0 p_1&&Nat.blt p_1 64) [Value.int .u8 (x_1.res (0+(p_1-0)))] [Value.int .u8 0]) [] p)) []) [] k) Value.oneCell')=true)/\
 (∀k:Nat,k<64->(Nat.beq (List.length (Cs.eff (Cs.eff (Cs.eff (λ(p:Nat)=>cond (Nat.ble 0 p&&Nat.blt p (0+x_2.b.n)) [Value.int .u8 (x_2.res (0+(p-0)))] (Cs.eff (λ(p_1:Nat)=>cond (Nat.ble 0 p_1&&Nat.blt p_1 64) [Value.int .u8 (x_1.res (0+(p_1-0)))] [Value.int .u8 0]) [] p)) []) []) [] k)) 1&&List.all (Cs.eff (Cs.eff (Cs.eff (λ(p:Nat)=>cond (Nat.ble 0 p&&Nat.blt p (0+x_2.b.n)) [Value.int .u8 (x_2.res (0+(p-0)))] (Cs.eff (λ(p_1:Nat)=>cond (Nat.ble 0 p_1&&Nat.blt p_1 64) [Value.int .u8 (x_1.res (0+(p_1-0)))] [Value.int .u8 0]) [] p)) []) []) [] k) Value.oneCell')=true)/\Gt/\ ∃y_2:Unit,True/\ahg/\(64=64/\ ∀q:Nat,q<64->[Value.int .u8 (ny x q)]=Cs.eff (Cs.eff (Cs.eff (Cs.eff (λ(p:Nat)=>cond (Nat.ble 0 p&&Nat.blt p (0+x_2.b.n)) [Value.int .u8 (x_2.res (0+(p-0)))] (Cs.eff (λ(p_1:Nat)=>cond (Nat.ble 0 p_1&&Nat.blt p_1 64) [Value.int .u8 (x_1.res (0+(p_1-0)))] [Value.int .u8 0]) [] p)) []) []) []) [] q)/\True) (64<=x_2.b.n/\alU x_2/\(∀k:Nat,k<64->(Nat.beq (List.length (Cs.eff (λ(p:Nat)=>cond (Nat.ble 0 p&&Nat.blt p 64) [Value.int .u8 (x_2.res (0+(p-0)))] (Cs.eff (λ(p_1:Nat)=>cond (Nat.ble 0 p_1&&Nat.blt p_1 64) [Value.int .u8 (x_1.res (0+(p_1-0)))] [Value.int .u8 0]) [] p)) [] k)) 1&&List.all (Cs.eff (λ(p:Nat)=>cond (Nat.ble 0 p&&Nat.blt p 64) [Value.int .u8 (x_2.res (0+(p-0)))] (Cs.eff (λ(p_1:Nat)=>cond (Nat.ble 0 p_1&&Nat.blt p_1 64) [Value.int .u8 (x_1.res (0+(p_1-0)))] [Value.int .u8 0]) [] p)) [] k) Value.oneCell')=true)/\
 (∀k:Nat,k<64->(Nat.beq (List.length (Cs.eff (Cs.eff (λ(p:Nat)=>cond (Nat.ble 0 p&&Nat.blt p 64) [Value.int .u8 (x_2.res (0+(p-0)))] (Cs.eff (λ(p_1:Nat)=>cond (Nat.ble 0 p_1&&Nat.blt p_1 64) [Value.int .u8 (x_1.res (0+(p_1-0)))] [Value.int .u8 0]) [] p)) []) [] k)) 1&&List.all (Cs.eff (Cs.eff (λ(p:Nat)=>cond (Nat.ble 0 p&&Nat.blt p 64) [Value.int .u8 (x_2.res (0+(p-0)))] (Cs.eff (λ(p_1:Nat)=>cond (Nat.ble 0 p_1&&Nat.blt p_1 64) [Value.int .u8 (x_1.res (0+(p_1-0)))] [Value.int .u8 0]) [] p)) []) [] k) Value.oneCell')=true)/\(∀k:Nat,k<64->(Nat.beq (List.length (Cs.eff (Cs.eff (Cs.eff (λ(p:Nat)=>cond (Nat.ble 0 p&&Nat.blt p 64) [Value.int .u8 (x_2.res (0+(p-0)))] (Cs.eff (λ(p_1:Nat)=>cond (Nat.ble 0 p_1&&Nat.blt p_1 64) [Value.int .u8 (x_1.res (0+(p_1-0)))] [Value.int .u8 0]) [] p)) []) []) [] k)) 1&&List.all (Cs.eff (Cs.eff (Cs.eff (λ(p:Nat)=>cond (Nat.ble 0 p&&Nat.blt p 64) [Value.int .u8 (x_2.res (0+(p-0)))] (Cs.eff (λ(p_1:Nat)=>cond (Nat.ble 0 p_1&&Nat.blt p_1 64) [Value.int .u8 (x_1.res (0+(p_1-0)))] [Value.int .u8 0]) [] p)) []) []) [] k) Value.oneCell')=true)/\Gt/\ ∃y_2:Unit,True/\ahg/\(64=64/\ ∀q:Nat,q<64->[Value.int .u8 (ny x q)]=Cs.eff (Cs.eff (Cs.eff (Cs.eff (λ(p:Nat)=>cond (Nat.ble 0 p&&Nat.blt p 64) [Value.int .u8 (x_2.res (0+(p-0)))] (Cs.eff (λ(p_1:Nat)=>cond (Nat.ble 0 p_1&&Nat.blt p_1 64) [Value.int .u8 (x_1.res (0+(p_1-0)))] [Value.int .u8 0]) [] p)) []) []) []) [] q)/\True))))
theorem acg(x:Nat):Vp x=wpF Tryz.prog tblK tt (noA x) 200 5 149 (Eu.args x) (hO Eu.k (Eu.os x)) (λv h'=>eF Eu.k x v h' Eu.outs):=by kernel_rfl
def J4(x:DevM):Prop:=
 ∃x_1:Nat,Hd (10<=x_1/\x_1<=258)/\((x_1:Int)=(x.n:Int)/\True)/\True/\ ∀y:Unit,True-> ∃x_2:lX,Hd (x_2.d.ok/\x_2.k<x_2.d.n/\x_2.b.ok/\x_2.a+x_2.b.n<=64)/\(0=0/\(x_2.k:Int)=0/\(x_2.a:Int)=0/\(x_2.b.q=0/\x_2.b.n=64)/\True)/\(((0=0/\x_2.d.n=x.n/\x_2.d.n=x.n)/\x_2.d.st=x.st/\x_2.d.fl=x.fl/\alS x_2.d x)/\(x_2.d.n*193=x.n*193/\ ∀q:Nat,q<x_2.d.n*193->Cs.eff (kR x_2.d) [] q=Cs.eff (kR x) [] q)/\(x_2.b.N=64/\ ∀q:Nat,q<x_2.b.N->[Value.int .u8 (x_2.b.g q)]=[Value.int .u8 (ny x_1 q)])/\True)/\ ∀y_1:Unit,True-> ∃x_3:Int,Hd (0<=x_3/\x_3<18446744073709551616)/\(x_3=0/\True)/\True/\ ∀y_2:Unit,True-> ∃x_4:lX,Hd (x_4.d.ok/\x_4.k<x_4.d.n/\x_4.b.ok/\x_4.a+x_4.b.n<=64)/\(0=0/\(x_4.k:Int)=1/\(x_4.a:Int)=0/\(x_4.b.q=0/\x_4.b.n=64)/\True)/\(ahj x_4.d x_2.d/\ahh x_4.d x_2/\(x_4.b.N=64/\ ∀q:Nat,q<x_4.b.N->[Value.int .u8 (x_4.b.g q)]=[Value.int .u8 (mZ x_3 q)])/\True)/\ ∀y_3:Unit,True-> ∃x_5:Pq,Hd (x_5.d.ok/\x_5.k<258)/\(0=0/\(x_5.k:Int)=0/\True)/\(ahj x_5.d x_4.d/\ahh x_5.d x_4/\True)/\ ∀y_4:Unit,True-> ∃x_6:Pq,Hd (x_6.d.ok/\x_6.k<258)/\(0=0/\(x_6.k:Int)=1/\True)/\aqD x_6.d x_5/\ ∀y_5:Unit,True-> ∃x_7:DevM,Hd x_7.ok/\(0=0/\True)/\aqD x_7 x_6/\ ∀y_6:Unit,True-> ∃y_7:DevM,Hd (y_7.ok/\y_7.n=x.n/\y_7.st=x.st+2/\y_7.fl=x.fl+2/\y_7.fe=x.fe+1)/\(0:Int)=0/\((0=0/\y_7.n=x_7.n/\y_7.n=x_7.n)/\y_7.st=x_7.st/\y_7.fl=x_7.fl/\y_7.fe=x_7.fe+1/\y_7.ba=x_7.ba/\y_7.cu=x_7.cu/\True)/\(y_7.n*193=x_7.n*193/\ ∀q:Nat,q<y_7.n*193->Cs.eff (kR y_7) [] q=Cs.eff (kR x_7.fence) [] q)/\True
theorem Vq(x:DevM):J4 x=wpF Tryz.prog atd tt (noA x) 200 5 90 (Ew.args x) (hO 2 (flatP 1 (Ew.l x))) (λv h'=>endsPK 1 x v h' Ew.outs):=by kernel_rfl
theorem QA(v:Nat)(hv:10<=v/\v<=258):Vp v:=by
 have hw:IntKind.u64.wrap (v:Int)=v:=jc (by omega) (by omega);let b0:Bys:=⟨λk=>if k=0 then 4 else if k=1 then 70 else if k=2 then 85 else if k=3 then 83 else if k=4 then 69 else 0,0,9,9⟩
 let x1:ug:=⟨b0,5,4,v,9⟩
 have ok1:x1.ok:=⟨⟨by simp[x1,b0],by simp[x1,b0],λk=>by simp only[x1,b0];grind⟩,by simp[x1,b0],by simp[x1],by simp[x1],by show(0:Int)<=v;omega,by show(v:Int)<256^4;omega⟩;have r1: ∀k,k<9->x1.res k=acf v k:=λk hk=>by
  simp only[ug.res,pq,acf,x1,b0];by_cases h:k<5
  ·rw[if_neg (by omega),aA];grind
  ·rw[if_pos (by omega)];grind
 have u1: ∀k,0<=x1.res k/\x1.res k<256:=yY (λk=>ok1.1.2.2 _) _ _ _;let b1:Bys:=⟨λk=>if k<9 then x1.res k else 0,0,64,64⟩
 let x2:ug:=⟨b1,9,4,nM 0 x1.res 9,64⟩
 have c1:nM 0 x1.res 9=nM 0 (acf v) 9:=yX r1;have hU:=Zb 0 x1.res 9
 have ok2:x2.ok:=⟨⟨by simp[x2,b1],by simp[x2,b1],λk=>by
  show 0<=(if k<9 then x1.res k else 0)/\(if k<9 then x1.res k else 0)<256;split
  ·exact u1 k
  ·exact⟨by omega,by omega⟩⟩,by simp[x2,b1],by simp[x2],by simp[x2],hU.1,hU.2⟩
 have w64:IntKind.u64.wrap (nM 0 x1.res 9)=nM 0 x1.res 9:=jc hU.1 (by have:=hU.2;omega);have nb:x1.b.n=9:=rfl;have nb2:x2.b.n=64:=rfl;have ble9:Nat.ble 9 64=true:=rfl;have ap1:Nat.ble 64 64=true:=rfl;unfold Vp;simp only[ahk,Gt,alT,ahi,ahg,alU,aqC];simp only[aZ,aV,aU,aA,aI,bQ,bF,aO,aK,ay,aX,aW,bU,bG,bH,bI,bV,bC,bJ,bn,eG,aH,aN,ah,ak,aB,aF,aC,aG,hw];refine bf (λh=>absurd (aS h) (by omega)) λ_=>bf (λh=>absurd (aS h) (by omega)) λ_=> ?_
 refine⟨x1,ok1,⟨⟨rfl,rfl,rfl⟩,rfl,rfl,rfl⟩,⟨rfl,λq hq=> ?_⟩,by omega,by omega,?_⟩
 ·have hq:q<9:=hq
  match q,hq with
  |0,_|1,_|2,_|3,_|4,_|5,_|6,_|7,_|8,_=>rfl
 simp only[nb,ble9,cP,bU,bG,bH,bI,bV,bC,bJ,bn,eG,aH,aN,ah,ak,aB,aF,aC,aG,aK,aU];refine⟨by omega,by omega,by omega,9,x1.res,rfl,by omega,λ_ _=>rfl,u1,x2,ok2,⟨⟨rfl,rfl,rfl⟩,rfl,rfl,w64.symm⟩,⟨rfl,λq hq=> ?_⟩,by omega,by omega,?_⟩
 ·show(if q<9 then x1.res q else 0)=_
  rw[bT,dI]
 simp only[nb2,ap1,cP,bU,bG,bH,bI,bV,bC,bJ,bn,eG,aH,aN,ah,ak,aB,aF,aC,aG,aK,aU];refine⟨by omega,by omega,λq hq=> ?_⟩;simp[bg.2 hq];show ny v q=pq (λk=>if 0+k<9 then x1.res (0+k)else 0) 9 4 (nM 0 x1.res 9) q;simp only[ny,pq,c1,aA];by_cases h:q<9
 ·rw[if_pos h,if_neg (by omega),if_pos h,r1 q h]
 ·by_cases h2:q<13
  ·rw[if_neg h,if_pos h2,if_pos (by omega)]
  ·rw[if_neg h,if_neg h2,if_neg (by omega),if_neg h]
theorem QB{v:Nat}(hv:v<=258)(k:Nat):0<=ny v k/\ny v k<256:=by
 unfold ny acf
 repeat' split
 all_goals first|exact l7 _ _|omega
theorem DevM.Iq{d:DevM}(h:d.ok)(k:Nat)(hf:d.fl+1<1099511627776):(d.flush k).ok:=by
 obtain⟨h1,h2,h3,h4,h5,h6⟩:=h;refine⟨h1,λp=> ?_,h3,?_,h5,h6⟩
 ·simp only[DevM.flush];split<;>exact h2 _
 ·unfold small at*;simp only[DevM.flush];split<;>omega
theorem DevM.ach{d:DevM}(h:d.ok)(hf:d.fe+1<1099511627776):d.fence.ok:=by
 obtain⟨h1,h2,h3,h4,h5,h6⟩:=h;refine⟨h1,λp=> ?_,h3,h4,?_,h6⟩
 ·simp only[DevM.fence,DevM.iG];split<;>exact h2 _
 ·unfold small at*;simp only[DevM.fence,DevM.iG];omega
theorem DevM.uj{d:DevM}(h:d.ok)(k a n:Nat){g:Nat->Int}(hg: ∀q,0<=g q/\g q<256)(hf:d.st+1<1099511627776):(d.store k a n g).ok:=by
 obtain⟨h1,h2,h3,h4,h5,h6⟩:=h;refine⟨h1,λp=> ?_,?_,h4,h5,h6⟩
 ·simp only[DevM.store]
  split
  ·exact hg _
  ·exact h2 _
 ·unfold small at*;simp only[DevM.store];omega
theorem J5(x:DevM)(hx:x.ok/\10<=x.n/\x.wide 10):J4 x:=by
 obtain⟨ho,hn,w1,w2,w3⟩:=hx;have hn2:=ho.1;let s1:=x.store 0 0 64 (ny x.n)
 let s2:=s1.store 1 0 64 (mZ 0)
 let f1:=s2.flush 0
 let f2:=f1.flush 1
 have o1:s1.ok:=DevM.uj ho _ _ _ (QB (by omega)) (by omega);have o2:s2.ok:=DevM.uj o1 _ _ _ (PD 0) (by show x.st+1+1<_;omega);have o3:f1.ok:=DevM.Iq o2 0 (by show x.fl+1<_;omega);have e3:f1.fl=x.fl+1:=if_pos (by show 0<x.n;omega);have o4:f2.ok:=DevM.Iq o3 1 (by rw[e3];omega);have e4:f2.fl=x.fl+2:=(if_pos (show 1<x.n by omega)).trans (by rw[e3];omega);have o5:f2.fence.ok:=DevM.ach o4 (by show x.fe+1<_;omega);have z1:(x.store 0 0 64 λq=>ny x.n (0+q))=s1:=by simp only[aA];rfl
 have z2:(s1.store 1 0 64 λq=>mZ 0 (0+q))=s2:=by simp only[aA];rfl
 unfold J4;simp only[alS,ahj,ahh,aqD];simp only[aZ,aV,aU,aA,aI,bQ,bF,aO,aK,ay,aX,aW,bU,bG,bH,bI,bV,bC,bJ,bn,eG,aH,aN,ah,ak,aB,aF,aC,aG]
 refine⟨x.n,⟨hn,hn2⟩,rfl,⟨x,0,0,⟨ny x.n,0,64,64⟩⟩,⟨ho,by show 0<x.n;omega,⟨by simp,by simp,QB hn2⟩,by simp⟩,⟨rfl,rfl,rfl,rfl⟩,⟨⟨rfl,rfl,rfl,rfl,rfl,rfl⟩,⟨rfl,λq _=>rfl⟩,rfl,λq _=>rfl⟩,
  0,⟨by decide,by decide⟩,rfl,⟨s1,1,0,⟨mZ 0,0,64,64⟩⟩,⟨o1,by show 1<x.n;omega,⟨by simp,by simp,PD 0⟩,by simp⟩,⟨rfl,rfl,rfl,rfl⟩,⟨⟨rfl,rfl,rfl,rfl,rfl,rfl⟩,⟨rfl,λq _=> ?_⟩,rfl,λq _=>rfl⟩,
  ⟨s2,0⟩,⟨o2,show 0<258 by decide⟩,rfl,⟨⟨rfl,rfl,rfl,rfl,rfl,rfl⟩,rfl,λq _=> ?_⟩,⟨f1,1⟩,⟨o3,show 1<258 by decide⟩,rfl,⟨⟨rfl,rfl,rfl,rfl,rfl,rfl⟩,rfl,λq _=>rfl⟩,f2,o4,⟨⟨rfl,rfl,rfl,rfl,rfl,rfl⟩,rfl,λq _=>rfl⟩,f2.fence,⟨o5,rfl,by show x.st+1+1=x.st+2;omega,e4,rfl⟩,⟨rfl,rfl,rfl,rfl,rfl,rfl⟩,rfl,λq _=>rfl⟩
 ·show kR s1 q=kR (x.store 0 0 64 λq=>ny x.n (0+q)) q
  rw[z1]
 ·show kR s2 q=kR (s1.store 1 0 64 λq=>mZ 0 (0+q)) q
  rw[z2]
theorem alV:bZ Tryz.prog 149 Eu:=dM dD mixed afK noA 200 5 (λ_=>rfl) (λ_=>rfl) λx hx=>Eq.mp (acg x) (QA x (aZ.1 hx))
theorem alW:dX Tryz.prog atd:= .cons (bM alV) (.cons (bM alh) (.cons (bM aln) (.cons (bM alk) (.cons (bM alm) .nil))))
theorem ahl:bZ Tryz.prog 90 Ew.ctr:=cO dD mixed alW 2 noA 200 5 (λ_=>⟨rfl,rfl,rfl,rfl⟩) λx hx=>Eq.mp (Vq x) (J5 x (aZ.1 hx))
noncomputable def ahm:jw:=qC Nat (λn=>[i64 n]) 0 (λ_=>[]) (λn=>Hd (1<=n/\n<=258)) (λ_=> .tup [.ptr 0 0,i64 0]) 1 (λn=>[.m (xJ n).os])
def ahn:jw:=qC Nat (λt=>[i64 t]) 0 (λ_=>[]) (λt=>Hd (1<=t/\t<=4)) (λ_=> .tup [.ptr 0 0,i64 0]) 1 (λt=>[.m (alz t).os])
def aho:jw:=qC (Nat×Int) (λp=>[i64 p.1,u64 p.2]) 0 (λ_=>[]) (λp=>Hd (1<=p.1/\p.1<=4/\0<=p.2/\p.2<=1152921504606846976)) (λ_=> .tup [.ptr 0 0,i64 0]) 1 (λp=>[.m ((afS p.1 p.2).os 0)])
noncomputable def ahp:jw:=qC Nat (λn=>[i64 n]) 0 (λ_=>[]) (λn=>Hd (1<=n/\n<=32)) (λ_=> .tup [.ptr 0 0,i64 0]) 1 (λn=>[.m (eX n n).os])
noncomputable def QC:jw:=qC DevM (λ_=>[.ptr 0 0]) 1 (λd=>[.m d.os]) (λd=>Hd d.ok) (λd=>i64 d.n) 1 (λd=>[.m d.os])
def ZP:iy:=⟨true,0,λ_=>⟨0,0,0,0,0⟩⟩
def alX:ZLn:=⟨0,0,0,0,λ_=>iO⟩
def ahq:jw:=qC Unit (λ_=>[]) 0 (λ_=>[]) (λ_=>Hd True) (λ_=> .ptr 0 0) 1 (λ_=>[.m ZP.os])
def ahr:jw:=qC Unit (λ_=>[]) 0 (λ_=>[]) (λ_=>Hd True) (λ_=> .ptr 0 0) 1 (λ_=>[.m alX.os])
def BG:Prop:= ∃y:Unit,True/\(False/\(0:Int)=2/\True)/\False/\False/\True
def QD:Prop:=0=0/\(0:Int)=0/\True
def Gu(a:Nat):Prop:=0=0/\a=a/\a=a
def aqE:Prop:=258=258/\ ∀q:Nat,q<258->[Value.bool false]=[Value.bool false]
def Vr(x:Nat):Prop:=
 cP (decide ((x:Int)<1)) BG (cP (decide ((x:Int)>(258:Int))) BG ((0<=(x:Int)/\(x:Int)<=(x:Int)/\193*(x:Int)<=281474976710656/\(x:Int)<4611686018427387904)/\ ∃y:Unit,True/\QD/\(Gu x/\(0:Int)=0/\(0:Int)=0/\(0:Int)=0/\(0:Int)=0/\(0:Int)=0/\True)/\(x*193=x*193/\ ∀q:Nat,∀j:Nat,q<x->j<193-> ∃v:Value,getElem? (List.replicate 192 (Value.int .u8 0)++[Value.bool false]) j=some v/\Cs.eff (kR (xJ x)) [] (q*193+j)=[v])/\True))
theorem aci(x:Nat):Vr x=wpF Tryz.prog [] tt (noA x) 200 5 48 (ahm.args x) (hO 0 (flatP 0 (ahm.l x))) (λv h'=>endsPK 0 x v h' ahm.outs):=by kernel_rfl
def Vs(x:Nat):Prop:=
 cP (decide ((x:Int)<1)) BG (cP (decide ((x:Int)>(4:Int))) BG ((0<=(x:Int)/\(x:Int)<=(x:Int)/\8*(x:Int)<=281474976710656/\(x:Int)<4611686018427387904)/\ ∃y:Unit,True/\QD/\((1:Int)=1/\Gu x/\True)/\(x=x/\ ∀q:Nat,q<x->[Value.int .u64 0]=[Value.int .u64 0])/\True))
theorem acj(x:Nat):Vs x=wpF Tryz.prog pJ tt (noA x) 200 5 79 (ahn.args x) (hO 0 (flatP 0 (ahn.l x))) (λv h'=>endsPK 0 x v h' ahn.outs):=by kernel_rfl
def Vt(x:Nat×Int):Prop:=
 cP (decide ((x.1:Int)<1)) BG (cP (decide ((x.1:Int)>(4:Int))) BG (cP (decide (x.2>(1152921504606846976:Int))) (∃y:Unit,True/\(False/\(0:Int)=10/\True)/\False/\False/\True) ((0<=(x.1:Int)/\(x.1:Int)<=(x.1:Int)/\8*(x.1:Int)<=281474976710656/\(x.1:Int)<4611686018427387904)/\ ∃y:Unit,True/\QD/\((x.2+1=IntKind.wrap .u64 (x.2+1)/\x.2=x.2/\(0:Int)=0/\(0=0/\x.1=x.1/\x.1=x.1)/\True)/\aqE/\aqE/\Value.nilFunc=Value.nilFunc/\True)/\(x.1=x.1/\ ∀q:Nat,q<x.1->[Value.int .i64 0]=[Value.int .i64 0])/\True)))
theorem acn(x:Nat×Int):Vt x=wpF Tryz.prog pJ tt (noA x) 200 5 81 (aho.args x) (hO 0 (flatP 0 (aho.l x))) (λv h'=>endsPK 0 x v h' aho.outs):=by kernel_rfl
def Vu(x:Nat):Prop:=
 cP (decide ((x:Int)<1)) BG (I64 (256:Int)/\((8:Int)=0->False)/\I64 (32:Int)/\cP (decide ((x:Int)>(32:Int))) BG ((0<=(x:Int)/\(x:Int)<=(x:Int)/\24*(x:Int)<=281474976710656/\(x:Int)<4611686018427387904)/\(∃s:Nat,s<=x/\True/\((s:Int)=0/\True)/\(Gu x/\True)/\(x*10=x*10/\ ∀q:Nat,∀j:Nat,q<x->j<10-> ∃v:Value,getElem? [Value.int .i64 0,Value.bool false,Value.bool false,Value.bool false,Value.bool false,Value.bool false,Value.bool false,Value.bool false,Value.bool false,Value.int .i64 0] j=some v/\Cs.eff (fZ (eX x s)) [] (q*10+j)=[v])/\True)/\(∀s:Nat,s<=x->cP (decide ((s:Int)<(x:Int))) ((0<=(s:Int)/\(s:Int)<(x:Int))/\(0+s)*10+0<x*10/\I64 ((s:Int)+1)/\ ∃s_1:Nat,s_1<=x/\x-s_1<x-s/\((s_1:Int)=(s:Int)+1/\True)/\(Gu x/\True)/\(x*10=x*10/\ ∀q:Nat,q<x*10->Cs.eff (fZ (eX x s_1)) [] q=Cs.eff (fZ (eX x s)) [((0+s)*10+0,[Value.int .i64 (-(1:Int))])] q)/\True) (∃y:Unit,True/\QD/\(Gu x/\True)/\(x*10=x*10/\ ∀q:Nat,q<x*10->Cs.eff (fZ (eX x x)) [] q=Cs.eff (fZ (eX x s)) [] q)/\True))/\True))
theorem aco(x:Nat):Vu x=wpF Tryz.prog [] tt (aoj x) 200 5 82 (ahp.args x) (hO 0 (flatP 0 (ahp.l x))) (λv h'=>endsPK 0 x v h' ahp.outs):=by kernel_rfl
def Vw(x:DevM):Prop:=
 ∃y:Unit,True/\(x.n:Int)=(x.n:Int)/\(Gu x.n/\x.st=x.st/\x.fl=x.fl/\x.fe=x.fe/\x.ba=x.ba/\x.cu=x.cu/\True)/\(x.n*193=x.n*193/\ ∀q:Nat,q<x.n*193->Cs.eff (kR x) [] q=Cs.eff (kR x) [] q)/\True
theorem acp(x:DevM):Vw x=wpF Tryz.prog pJ tt (noA x) 200 5 80 (QC.args x) (hO 2 (flatP 1 (QC.l x))) (λv h'=>endsPK 1 x v h' QC.outs):=by kernel_rfl
def ahs(x:Unit):Prop:=
 ∃y:Unit,True/\0=0/\(Value.slice none 0 0=Value.slice none 0 0/\True)/\True
theorem aht(x:Unit):ahs x=wpF Tryz.prog [] tt (noA x) 200 5 84 (ahq.args x) (hO 0 (flatP 0 (ahq.l x))) (λv h'=>endsPK 0 x v h' ahq.outs):=by kernel_rfl
def ahu(x:Unit):Prop:=
 ∃y:Unit,True/\0=0/\(Value.slice none 0 0=Value.slice none 0 0/\(0:Int)=0/\(0:Int)=0/\True)/\True
theorem ahv(x:Unit):ahu x=wpF Tryz.prog [] tt (noA x) 200 5 87 (ahr.args x) (hO 0 (flatP 0 (ahr.l x))) (λv h'=>endsPK 0 x v h' ahr.outs):=by kernel_rfl
theorem QE(x:Nat)(hx:1<=x/\x<=258):Vr x:=by
 have h:=Uz x hx;unfold afQ at h;simp only[Zi,nX,lJ]at h;unfold Vr;simp only[BG,QD,Gu];simp only[aZ,aV,aU,aA,aI,bQ,bF,aO,aK,ay,aX,aW,bU,bG,bH,bI,bV,bC,bJ,bn,eG,aH,aN,ah,ak,aB,aF,aC,aG]at h ⊢;exact h
theorem QF(x:Nat)(hx:1<=x/\x<=4):Vs x:=by
 have h:=U5 x hx;unfold agu at h;simp only[Zu,kT]at h;unfold Vs;simp only[BG,QD,Gu];simp only[aZ,aV,aU,aA,aI,bQ,bF,aO,aK,ay,aX,aW,bU,bG,bH,bI,bV,bC,bJ,bn,eG,aH,aN,ah,ak,aB,aF,aC,aG]at h ⊢;exact h
theorem QG(x:Nat×Int)(hx:1<=x.1/\x.1<=4/\0<=x.2/\x.2<=1152921504606846976):Vt x:=by
 have h:=UA x hx;unfold afT at h;simp only[Zk,Zj,H9]at h;unfold Vt;simp only[BG,QD,aqE];simp only[aZ,aV,aU,aA,aI,bQ,bF,aO,aK,ay,aX,aW,bU,bG,bH,bI,bV,bC,bJ,bn,eG,aH,aN,ah,ak,aB,aF,aC,aG]at h ⊢;exact h
theorem QH(x:Nat)(hx:1<=x/\x<=32):Vu x:=by
 have h:=UQ x hx;unfold aga at h;simp only[Zq,nY,xR]at h;unfold Vu;simp only[BG,Gu,QD];simp only[aZ,aV,aU,aA,aI,bQ,bF,aO,aK,ay,aX,aW,bU,bG,bH,bI,bV,bC,bJ,bn,eG,aH,aN,ah,ak,aB,aF,aC,aG]at h ⊢;exact h
theorem QI(x:DevM)(_:x.ok):Vw x:=by
 unfold Vw;simp only[Gu];simp only[aZ,aV,aU,aA,aI,bQ,bF,aO,aK,ay,aX,aW,bU,bG,bH,bI,bV,bC,bJ,bn,eG,aH,aN,ah,ak,aB,aF,aC,aG]
theorem alY:bZ Tryz.prog 48 ahm.ctr:=cO dD mixed .nil 0 noA 200 5 (λ_=>⟨rfl,rfl,rfl,rfl⟩) λx hx=>Eq.mp (aci x) (QE x (aZ.1 hx))
theorem alZ:bZ Tryz.prog 79 ahn.ctr:=cO dD mixed dQ 0 noA 200 5 (λ_=>⟨rfl,rfl,rfl,rfl⟩) λx hx=>Eq.mp (acj x) (QF x (aZ.1 hx))
theorem al0:bZ Tryz.prog 81 aho.ctr:=cO dD mixed dQ 0 noA 200 5 (λ_=>⟨rfl,rfl,rfl,rfl⟩) λx hx=>Eq.mp (acn x) (QG x (aZ.1 hx))
theorem al1:bZ Tryz.prog 82 ahp.ctr:=cO dD mixed .nil 0 aoj 200 5 (λ_=>⟨rfl,rfl,rfl,rfl⟩) λx hx=>Eq.mp (aco x) (QH x (aZ.1 hx))
theorem al2:bZ Tryz.prog 80 QC.ctr:=cO dD mixed dQ 2 noA 200 5 (λ_=>⟨rfl,rfl,rfl,rfl⟩) λx hx=>Eq.mp (acp x) (QI x (aZ.1 hx))
theorem Vx(x:Unit):ahs x:=by
 unfold ahs;simp only[aZ,aV,aU,aA,aI,bQ,bF,aO,aK,ay,aX,aW,bU,bG,bH,bI,bV,bC,bJ,bn,eG,aH,aN,ah,ak,aB,aF,aC,aG]
theorem al3:bZ Tryz.prog 84 ahq.ctr:=cO dD mixed .nil 0 noA 200 5 (λ_=>⟨rfl,rfl,rfl,rfl⟩) λx _=>Eq.mp (aht x) (Vx x)
theorem Vy(x:Unit):ahu x:=by
 unfold ahu;simp only[aZ,aV,aU,aA,aI,bQ,bF,aO,aK,ay,aX,aW,bU,bG,bH,bI,bV,bC,bJ,bn,eG,aH,aN,ah,ak,aB,aF,aC,aG]
theorem al4:bZ Tryz.prog 87 ahr.ctr:=cO dD mixed .nil 0 noA 200 5 (λ_=>⟨rfl,rfl,rfl,rfl⟩) λx _=>Eq.mp (ahv x) (Vy x)
structure ZEff where
 kind:Int
 key:ByteArray
 value:ByteArray
 id:Int
 ver:Int
 epoch:Int
 group:Int
def ZEff.cs(e:ZEff):List Value:=[.int .i64 e.kind,.string e.key,.string e.value,.int .u64 e.id,.int .u64 e.ver,.int .u64 e.epoch,.int .i64 e.group]
structure al5 where
 d:DevM
 p:ZPool
 r:ZRd
 c:iP
 b:iy
 l:ZLn
 id:Int
 ver:Int
 n:Nat
 e:Nat->ZEff
namespace al5
end al5
structure ZNew where
 n:Nat
 t:Nat
noncomputable def ate:jd:=[(90,ctrT Ew.ctr)]

theorem Vz(n:Nat)(h:n<=258):(xJ n).ok:=⟨h,λ_=>⟨Int.le_refl 0,(by decide:(0:Int)<256)⟩,⟨Int.le_refl 0,(by decide:(0:Int)<1099511627776)⟩,⟨Int.le_refl 0,(by decide:(0:Int)<1099511627776)⟩,⟨Int.le_refl 0,(by decide:(0:Int)<1099511627776)⟩,
 ⟨Int.le_refl 0,(by decide:(0:Int)<1099511627776)⟩,⟨Int.le_refl 0,(by decide:(0:Int)<1099511627776)⟩⟩
theorem al6:dX Tryz.prog ate:= .cons (bM ahl) .nil
def arnR(p r c b t l d:AV):dB:= .ro (.av [d,p,r,c,b,t,.any,l,.any,.any,.any])
structure aqF where
 b:iy
 l:ZLn
 k:Int
def aqF.inB(x:aqF):Prop:= ∃i,i<x.b.n/\((x.b.e i).line=x.k\/(x.b.e i).anti=x.k)


def iP.notes(c:iP)(t:Nat)(l:Int):Nat->iP
 |0=>c
 |i+1=>(c.notes t l i).note t (l+i)
structure ZChg where
 a:al5
 t:Nat
 e:Int
 v:ByteArray
 key:ByteArray
 had:Bool
 old:ZLnk
 k:Nat
 c:Int
namespace ZChg
end ZChg





structure ZFr where
 key:ByteArray
 value:ByteArray
 epoch:Int
 had:Bool
 old:ZLnk
 line:Int
 cls:Int
 piece:Int
 code:Int
 found:Bool
 ans:ByteArray
 aep:Int
namespace ZFr
end ZFr
def SQ(g:Nat->Int)(n:Nat):dB:= .room 5 (rowB g n)
structure aqG where
 k:Int
 key:ByteArray
 value:ByteArray
 to:ByteArray
 ph:Int
 ep:Int
 pos:ByteArray
 past:Bool
 lev:Int
 had:Bool
 okey:ByteArray
 oid:Int
 over:Int
 aqH:Int
 ocls:Int
 line:Int
 cls:Int
 piece:Int
 at_:Int
 code:Int
 found:Bool
 ans:ByteArray
 aep:Int
def aqG.l(x:aqG):List AV:=[i64 x.k,.lit (.string x.key),.lit (.string x.value),.lit (.string x.to),gV,i64 x.ph,u64 x.ep,.lit (.string x.pos),boo x.past,i64 x.lev,boo x.had,.lit (.string x.okey),u64 x.oid,u64 x.over,i64 x.aqH,i64 x.ocls,i64 x.line,i64 x.cls,i64 x.piece,gV,i64 x.at_,gV,i64 x.code,boo x.found,.lit (.string x.ans),gV,gV,u64 x.aep]
noncomputable def zk:Ctr:=det aqG (λx=>[.agg x.l]) 0 (λ_=>[]) (λ_=>True) (λx=> .agg x.l) 0 (λ_=>[])
inductive Tg where
 |i|u|s|b|n
def adT:Tg->AV->Bool
 | .i,.lit (.int .i64 _)=>true
 | .u,.lit (.int .u64 _)=>true
 | .s,.lit (.string _)=>true
 | .b,.lit (.bool _)=>true
 | .n,.lit (.slice none 0 0)=>true
 |_,_=>false
def shp:List Tg->List AV->Bool
 |[],[]=>true
 |t::ts,v::vs=>adT t v&&shp ts vs
 |_,_=>false
def tgs:List Tg:=[.i,.s,.s,.s,.n,.i,.u,.s,.b,.i,.b,.s,.u,.u,.i,.i,.i,.i,.i,.n,.i,.n,.i,.b,.s,.n,.n,.u]
theorem dW{t:Tg}{ts:List Tg}{l:List AV}(h:shp (t::ts) l=true): ∃v vs,l=v::vs/\adT t v=true/\shp ts vs=true:=by
 cases l with
 |nil=>simp[shp]at h
 |cons v vs=>simp only[shp,aJ]at h;exact⟨v,vs,rfl,h.1,h.2⟩
theorem aqI{l:List AV}(h:shp [] l=true):l=[]:=by
 cases l with
 |nil=>rfl
 |cons v vs=>simp[shp]at h
theorem akh{v:AV}(h:adT .i v=true): ∃z,v=i64 z:=by
 unfold adT at h;split at h<;>first|contradiction|exact⟨_,rfl⟩
theorem tg_u{v:AV}(h:adT .u v=true): ∃z,v=u64 z:=by
 unfold adT at h;split at h<;>first|contradiction|exact⟨_,rfl⟩
theorem arZ{v:AV}(h:adT .s v=true): ∃z,v= .lit (.string z):=by
 unfold adT at h;split at h<;>first|contradiction|exact⟨_,rfl⟩
theorem tg_b{v:AV}(h:adT .b v=true): ∃z,v=boo z:=by
 unfold adT at h;split at h<;>first|contradiction|exact⟨_,rfl⟩
theorem atf{v:AV}(h:adT .n v=true):v=gV:=by
 unfold adT at h;split at h<;>first|contradiction|rfl
theorem shp_l{l:List AV}(h:shp tgs l=true): ∃x:aqG,l=x.l:=by
 obtain⟨v0,r0,rfl,a0,h0⟩:=dW h;obtain⟨v1,r1,rfl,a1,h1⟩:=dW h0;obtain⟨v2,r2,rfl,a2,h2⟩:=dW h1;obtain⟨v3,r3,rfl,a3,h3⟩:=dW h2;obtain⟨v4,r4,rfl,a4,h4⟩:=dW h3;obtain⟨v5,r5,rfl,a5,h5⟩:=dW h4;obtain⟨v6,r6,rfl,a6,h6⟩:=dW h5;obtain⟨v7,r7,rfl,a7,h7⟩:=dW h6;obtain⟨v8,r8,rfl,a8,h8⟩:=dW h7;obtain⟨v9,r9,rfl,a9,h9⟩:=dW h8;obtain⟨v10,r10,rfl,a10,h10⟩:=dW h9;obtain⟨v11,r11,rfl,a11,h11⟩:=dW h10;obtain⟨v12,r12,rfl,a12,h12⟩:=dW h11;obtain⟨v13,r13,rfl,a13,h13⟩:=dW h12;obtain⟨v14,r14,rfl,a14,h14⟩:=dW h13;obtain⟨v15,r15,rfl,a15,h15⟩:=dW h14;obtain⟨v16,r16,rfl,a16,h16⟩:=dW h15;obtain⟨v17,r17,rfl,a17,h17⟩:=dW h16;obtain⟨v18,r18,rfl,a18,h18⟩:=dW h17;obtain⟨v19,r19,rfl,a19,h19⟩:=dW h18;obtain⟨v20,r20,rfl,a20,h20⟩:=dW h19;obtain⟨v21,r21,rfl,a21,h21⟩:=dW h20;obtain⟨v22,r22,rfl,a22,h22⟩:=dW h21;obtain⟨v23,r23,rfl,a23,h23⟩:=dW h22;obtain⟨v24,r24,rfl,a24,h24⟩:=dW h23;obtain⟨v25,r25,rfl,a25,h25⟩:=dW h24;obtain⟨v26,r26,rfl,a26,h26⟩:=dW h25;obtain⟨v27,r27,rfl,a27,h27⟩:=dW h26;obtain rfl:=aqI h27;obtain⟨z0,rfl⟩:=akh a0;obtain⟨z1,rfl⟩:=arZ a1;obtain⟨z2,rfl⟩:=arZ a2;obtain⟨z3,rfl⟩:=arZ a3;obtain rfl:=atf a4;obtain⟨z5,rfl⟩:=akh a5;obtain⟨z6,rfl⟩:=tg_u a6;obtain⟨z7,rfl⟩:=arZ a7;obtain⟨z8,rfl⟩:=tg_b a8;obtain⟨z9,rfl⟩:=akh a9;obtain⟨z10,rfl⟩:=tg_b a10;obtain⟨z11,rfl⟩:=arZ a11;obtain⟨z12,rfl⟩:=tg_u a12;obtain⟨z13,rfl⟩:=tg_u a13;obtain⟨z14,rfl⟩:=akh a14;obtain⟨z15,rfl⟩:=akh a15;obtain⟨z16,rfl⟩:=akh a16;obtain⟨z17,rfl⟩:=akh a17;obtain⟨z18,rfl⟩:=akh a18;obtain rfl:=atf a19;obtain⟨z20,rfl⟩:=akh a20;obtain rfl:=atf a21;obtain⟨z22,rfl⟩:=akh a22;obtain⟨z23,rfl⟩:=tg_b a23;obtain⟨z24,rfl⟩:=arZ a24;obtain rfl:=atf a25;obtain rfl:=atf a26;obtain⟨z27,rfl⟩:=tg_u a27;exact⟨⟨z0,z1,z2,z3,z5,z6,z7,z8,z9,z10,z11,z12,z13,z14,z15,z16,z17,z18,z20,z22,z23,z24,z27⟩,rfl⟩
def acr:Prop:=Value.slice none 0 0=Value.slice none 0 0
def Ey(x:aqG):Prop:=
 ∃y:Unit,True/\(x.k=x.k/\x.key=x.key/\x.value=x.value/\x.to=x.to/\acr/\x.ph=x.ph/\x.ep=x.ep/\x.pos=x.pos/\x.past=x.past/\x.lev=x.lev/\x.had=x.had/\x.okey=x.okey/\x.oid=x.oid/\x.over=x.over/\x.aqH=x.aqH/\x.ocls=x.ocls/\x.line=x.line/\x.cls=x.cls/\x.piece=x.piece/\acr/\x.at_=x.at_/\acr/\x.code=x.code/\x.found=x.found/\x.ans=x.ans/\acr/\acr/\x.aep=x.aep/\True)/\True
theorem QJ(x:aqG):Ey x=wpF Tryz.prog [] tt (noA x) 200 6 52 (zk.args x) (hO zk.k (zk.os x)) (λv h'=>eF zk.k x v h' zk.outs):=by kernel_rfl
theorem J6{P:Program}{f:FuncId}{X:Type}{args:X->List AV}{pre:X->Prop}{ret:X->AV}(hC:bZ P f (det X args 0 (λ_=>[]) pre ret 0 (λ_=>[])))(x:X)(hp:pre x)(h:Heap)(ha:(args x).all kQ=true)(hr:kQ (ret x)=true){K:AV->Heap->Prop}(hK:K (ret x) h):Sp P f (args x) h K:=
 (Y5 h (Ul hC x hp) (λ_ _ hv=>hv) ha hr).mono λ_ _ hh=>by obtain⟨rfl,rfl⟩:=hh;exact hK
def acs:WTr:=λargs h K=>match args with
 |[.lit (.int .i64 c)]=>K (i64 (spn c)) h
 |_=>False
theorem Cm(args:List AV)(h:Heap)(K:AV->Heap->Prop)(hq:acs args h K):Sp Tryz.prog 113 args h K:=by
 unfold acs at hq;split at hq
 ·exact J6 ng _ trivial h rfl rfl hq
 ·exact hq.elim
namespace ZChg
end ZChg
def emp:ByteArray:=⟨#[]⟩
theorem Gv(x:aqG):Ey x:=by
 unfold Ey;simp only[acr];simp only[aZ,aV,aU,aA,aI,bQ,bF,aO,aK,ay,aX,aW,bU,bG,bH,bI,bV,bC,bJ,bn,eG,aH,aN,ah,ak,aB,aF,aC,aG]
theorem acu:bZ Tryz.prog 52 zk:=dM dD mixed .nil noA 200 6 (λ_=>rfl) (λ_=>rfl) λx _=>Eq.mp (QJ x) (Gv x)
def al7:FuncId->pX:=λ_ _ _ _=>[]
noncomputable def ahw:WTr:=λargs h K=>match args with
 |[.agg l]=>bif shp tgs l then K (.agg l) h else wpF Tryz.prog [] tt al7 200 6 52 args h K
 |_=>False
theorem ahx(args:List AV)(h:Heap)(K:AV->Heap->Prop)(hq:ahw args h K):Sp Tryz.prog 52 args h K:=by
 unfold ahw at hq;split at hq
 ·rename_i l
  cases hs:shp tgs l<;>rw[hs]at hq
  ·exact qN dD mixed .nil _ _ _ _ _ _ _ hq
  ·obtain⟨x,rfl⟩:=shp_l hs
   refine(Y5 h (Ul acu x trivial) (λ_ _ hv=>hv) (by rfl) (by rfl)).mono ?_
   rintro v h' ⟨rfl,rfl⟩
   exact hq
 ·exact hq.elim
def aqJ:WTr:=λargs h K=>match args with
 |[.lit (.int .i64 c)]=>K (i64 (ned c)) h
 |_=>False
theorem al8(args:List AV)(h:Heap)(K:AV->Heap->Prop)(hq:aqJ args h K):Sp Tryz.prog 201 args h K:=by
 unfold aqJ at hq;split at hq
 ·exact J6 af2 _ trivial h rfl rfl hq
 ·exact hq.elim
def ar0:dB:=arnR .any .any .any .any .any .any (.ptr 1 0)
def aqK:dB:= .ro (.av [.ptr 2 0,.any,.any,.any])
noncomputable def Ez:jd:=[(52,ahw)]
noncomputable def aqL:jd:=Ez++[(113,acs),(63,ctrT Em),(62,ctrT Ib.ctr)]
noncomputable def aqM:jd:=Ez++[(211,ctrT PV.ctr)]




theorem qV(c:iP)(t:Nat)(l:Int): ∀i,(c.notes t l i).t=c.t
 |0=>rfl
 |i+1=>qV c t l i
theorem qW(c:iP)(t:Nat)(l:Int): ∀i,(c.notes t l i).now=c.now
 |0=>rfl
 |i+1=>qW c t l i
theorem VA(c:iP)(t:Nat)(l:Int)(hc: ∀k,0<=c.o k): ∀i k,0<=(c.notes t l i).o k/\(c.notes t l i).o k<=c.o k+i
 |0,k=>⟨hc k,by show c.o k<=c.o k+((0:Nat):Int);omega⟩
 |i+1,k=>by
  have ih:=VA c t l hc i k;show 0<=(if k=t/\0<=l+i/\l+i<258 then(c.notes t l i).o k+1 else(c.notes t l i).o k)/\(if k=t/\0<=l+i/\l+i<258 then(c.notes t l i).o k+1 else(c.notes t l i).o k)<=_;split<;>omega
theorem yw{c:iP}(h:c.ok)(hc: ∀k,c.o k+8<1099511627776)(t:Nat)(l:Int){i:Nat}(hi:i<=8):(c.notes t l i).ok:=by
 have hd: ∀i,(c.notes t l i).dur=c.dur/\(c.notes t l i).Pz=c.Pz:=λi=>by
  induction i with
  |zero=>exact⟨rfl,rfl⟩
  |succ i ih=>exact ih
 refine⟨by rw[qV];exact h.1,by rw[qV];exact h.2.1,by rw[qW];exact h.2.2.1,by rw[(hd i).1];exact h.2.2.2.1,by rw[(hd i).2];exact h.2.2.2.2.1,λk=> ?_⟩;have h1:=VA c t l (λk=>(h.2.2.2.2.2 k).1) i k;have h2:=hc k;exact⟨h1.1,by omega⟩
theorem vF(b:ZBlk):b.dJ<=8/\(b.dJ:Int)=spn b.cls:=by
 have:=dR b.cls;unfold ZBlk.dJ;omega
theorem ZLnk.ext5{a b:ZLnk}(h1:a.key=b.key)(h2:a.id=b.id)(h3:a.ver=b.ver)(h4:a.line=b.line)(h5:a.cls=b.cls):a=b:=by
 cases a;cases b;simp_all
theorem ZQ(d:DevM)(k a n:Nat)(g:Nat->Int):d.store k a n (λq=>g (0+q))=d.store k a n g:=by
 simp only[aA]
theorem yx{b:ZBlk}(h:b.may):1<=b.dJ:=by
 have:=dR b.cls;have h0:=h.1;unfold ZBlk.dJ;omega

theorem QK{c:Int}(h:0<=c/\c<=3):spn c≠0:=by
 rcases dR c with h'|h'|h'|h'|h'<;>omega
theorem ahy{c:Int}(h:0<=c/\c<=3):ZBlk.may ⟨c,0,0,0,0,⟨#[]⟩,⟨#[]⟩⟩:=⟨QK h,.inl ⟨rfl,rfl,rfl,rfl,rfl,rfl⟩⟩
theorem ZR{c:Int}(h:0<=c/\c<=3)(k:Nat):0<=(ZBlk.mk c 0 0 0 0 ⟨#[]⟩ ⟨#[]⟩).jL (λ_=>0) (cpc c).toNat k/\(ZBlk.mk c 0 0 0 0 ⟨#[]⟩ ⟨#[]⟩).jL (λ_=>0) (cpc c).toNat k<256:=by
 have hd:(ZBlk.mk c 0 0 0 0 ⟨#[]⟩ ⟨#[]⟩).dat=λ_=>0:=by
  funext i;unfold ZBlk.dat;rw[if_neg];exact Nat.not_lt_zero i
 by_cases hk:k<64
 ·have:=yu (ahy h) k
  unfold ZBlk.enc at this;rw[if_pos hk,hd]at this;exact this
 ·unfold ZBlk.jL
  rw[if_neg (by omega),if_neg (by omega)];exact⟨Int.le_refl 0,show(0:Int)<256 by decide⟩
theorem ahz{s:ByteArray}{a k:Nat}(hk:a+k<s.size):dY (s.extract a s.size) k=dY s (a+k):=by
 unfold dY;rw[ByteArray.data_extract];have h1:a+k<s.data.size:=hk;simp only[List.getD_eq_getElem?_getD,Array.getElem?_toList,Array.getElem?_extract];rw[if_pos (by have:s.size=s.data.size:=rfl;omega)]
theorem ahA(x:ZBlk){m:Nat}(h:64<=m):0<=x.enc m/\x.enc m<256:=by
 unfold ZBlk.enc;rw[if_neg (by omega)];split
 ·decide
 ·exact JX _ _
theorem jy:dX Tryz.prog Ez:= .cons ahx .nil
theorem ZT:dX Tryz.prog aqL:= .append jy (.cons Cm (.cons (bM alO) (.cons (bM P9) .nil)))
theorem ZU:dX Tryz.prog aqM:= .append jy (.cons (bM alC) .nil)
structure ZBy where
 d:DevM
 b:ZBlk
 ln:Nat
def lies(d:DevM)(b:ZBlk)(ln:Nat):Prop:= ∀q,q<64*b.dJ->d.b ((ln+q/64)*193+q%64)=b.enc q
def ZBy.ok(x:ZBy):Prop:=x.d.ok/\x.b.may/\x.b.kind=2/\x.ln+spn x.b.cls<=x.d.n/\lies x.d x.b x.ln
noncomputable def ahB:Ctr:=det ZBy (λx=>[.ptr 0 0,i64 x.ln,i64 x.b.cls]) 3 (λx=>[ar0,aqK,.abs (ownM x.d.os)]) (λx=>Hd x.ok) (λx=> .slW 3 0 1 (64*x.b.dJ)) 4 (λx=>[ar0,aqK,.abs (ownM x.d.os),SQ x.b.enc (64*x.b.dJ)])
noncomputable def annB(x:ZBy):FuncId->pX:=λf=>bif Nat.beq f 122 then(λb _ _=>bif Nat.beq b 0 then [
 {σ:=Unit,fr:=λ_=>[(13,i64 0),(7,gV)],ob:=λ_=>[],inv:=λ_=>Hd True,meas:=λ_=>20,test:=λfr _=>(match SE.look fr 7 with| .slW _ _ _ _=>false|_=>true)},
 {σ:=Nat,fr:=λi=>[(13,i64 i),(7,.slW 3 0 1 (64*i))],ob:=λi=>[(3,some (SQ x.b.enc (64*i)))],nx:=1,inv:=λi=>Hd (1<=i/\i<=x.b.dJ),meas:=λi=>x.b.dJ-i,test:=λfr _=>(match SE.look fr 7 with| .slW _ _ _ _=>true|_=>false)}]else [])elseλ_ _ _=>[]
noncomputable def atg:jd:=[(113,acs),(181,ctrT abM.ctr)]
def aqN:Prop:=True/\True/\True/\True
def acv:Prop:=0=0/\aqN
def acw:Prop:=0=0/\True/\True/\True/\True/\True/\True/\True/\aqN
def ath:Prop:=Value.slice none 0 0=Value.slice none 0 0
def ZV(a:DevM):Prop:=ownM a.os=ownM a.os
def ZW(a:DevM)(b:DevM):Prop:=ownM a.os=ownM b.os
def ahC(a:DevM)(b:DevM):Prop:=ZW a b/\True
def J7(x:ZBy):Prop:=
 (∃s:Unit,Hd True/\True/\((0:Int)=0/\ath/\True)/\ZV x.d/\acv/\acw/\True)/\(∀s:Unit,Hd True->cP (decide (0<spn x.b.cls)) (I64 ((x.ln:Int)+0)/\ ∃x_1:Pq,Hd (x_1.d.ok/\x_1.k<x_1.d.n)/\(0=0/\(x_1.k:Int)=(x.ln:Int)+0/\True)/\ahC x_1.d x.d/\ ∀y:Unit,True->64<=64/\(2*(0+64)+1000)*1<=281474976710656/\I64 (1:Int)/\ ∃s_1:Nat,Hd (1<=s_1/\s_1<=x.b.dJ)/\x.b.dJ-s_1<20/\((s_1:Int)=1/\(0=0/\64*s_1=64)/\True)/\(64*s_1=64/\ ∀q:Nat,q<64*s_1->[Value.int .u8 (x.b.enc q)]=[Value.int .u8 (x_1.d.b (x_1.k*193+(0+(q-0))))])/\ZW x.d x_1.d/\acv/\acw/\True) (∃y:Unit,True/\False/\acw/\acv/\ZV x.d/\False/\True))/\(∀s:Nat,Hd (1<=s/\s<=x.b.dJ)->cP (decide ((s:Int)<spn x.b.cls)) (I64 ((x.ln:Int)+(s:Int))/\ ∃x_1:Pq,Hd (x_1.d.ok/\x_1.k<x_1.d.n)/\(0=0/\(x_1.k:Int)=(x.ln:Int)+(s:Int)/\True)/\ahC x_1.d x.d/\ ∀y:Unit,True->64*s=64*s/\64<=64/\(∀k:Nat,k<64->(Nat.beq (List.length [Value.int .u8 (x_1.d.b (x_1.k*193+(0+k)))]) 1&&List.all [Value.int .u8 (x_1.d.b (x_1.k*193+(0+k)))] Value.oneCell')=true)/\(2*(64*s+64)+1000)*1<=281474976710656/\I64 ((s:Int)+1)/\ ∃s_1:Nat,Hd (1<=s_1/\s_1<=x.b.dJ)/\x.b.dJ-s_1<x.b.dJ-s/\((s_1:Int)=(s:Int)+1/\(0=0/\64*s_1=64*s+64)/\True)/\(64*s_1=64*s+64/\ ∀q:Nat,q<64*s_1->[Value.int .u8 (x.b.enc q)]=Cs.eff (λ(q_1:Nat)=>cond (Nat.blt q_1 (64*s)) [Value.int .u8 (x.b.enc q_1)] [Value.int .u8 (x_1.d.b (x_1.k*193+(0+(q_1-64*s))))]) [] q)/\ZW x.d x_1.d/\acv/\acw/\True) (∃y:Unit,True/\(0=0/\64*x.b.dJ=64*s)/\acw/\
 acv/\ZV x.d/\(64*x.b.dJ=64*s/\ ∀q:Nat,q<64*x.b.dJ->[Value.int .u8 (x.b.enc q)]=[Value.int .u8 (x.b.enc q)])/\True))/\True
theorem VB(x:ZBy):J7 x=wpF Tryz.prog atg tt (annB x) 200 6 122 (ahB.args x) (hO 3 (ahB.os x)) (λv h'=>eF 3 x v h' ahB.outs):=by kernel_rfl
end Go.Proofs.YtenfleoejgjklaaGreat
end
section
namespace Go.Proofs.YtenfleoejgjklaaGreat.SE
open Go
theorem pG{P:Program}{T:WTr}{f:FuncId}(hT: ∀args h K,T args h K->Sp P f args h K){C:jw}(N:Nat)
  (hk: ∀x,(C.l x).length=C.k/\(flatP C.k (C.l x)).length=N/\(C.l x).all (PO.good C.k)=true/\gB C.k (C.args x)=true)
  (hq: ∀x,C.pre x->T (C.args x) (hO N (flatP C.k (C.l x))) (λv h'=>endsPK C.k x v h' C.outs)):bZ P f C.ctr:=λx hp=>by
 obtain⟨h1,h2,h3,h4⟩:=hk x;refine⟨by simp only[jw.ctr,List.length_map];exact h1,?_⟩;have hs:=hT _ _ _ (hq x hp);rw[<-h2,<-h1]at hs;refine⟨hs.1,λρ T w vs hR hl=> ?_⟩;have hR0:Rel (hOf ((C.l x).map PO.ab)) ρ T w:=by rw[hOf,List.length_map,h1];exact hR
 obtain⟨ρ',r1,r2,r3⟩:=Rel.afx (by rw[h1];exact h3) hR0;refine(hs.2 ρ' T w vs r3 (dP.mono r2 _ _ hl)).mono ?_
 rintro e w' ⟨ρ2,v,u,h',c1,c2,c3,c4,c5,c6,c7⟩
 obtain⟨v0,h0,g1,g2⟩:=yV c7;obtain⟨ρ3,q1,q2,q3⟩:=g1.2 ρ2 T w' u c3 c4;refine⟨ρ3,v0,u,h0,λj hj=> ?_,?_,q2,q3,c5,c6,g2⟩
 ·have hj':j<C.k:=hj
  have hle:C.k<=(flatP C.k (C.l x)).length:=by unfold flatP;rw[List.length_append,gu,h1];omega
  rw[q1 j (by rw[h1];exact hj'),c1 j (by show j<(flatP _ _).length;rw[h1];omega),r1 j (by rw[h1];exact hj')]
 ·have:=g1.1;rw[h1]at this;exact this
end Go.Proofs.YtenfleoejgjklaaGreat.SE
end
section
namespace Go.Proofs.YtenfleoejgjklaaGreat
open Go SE

namespace al5
end al5

structure ZPb where
 a:al5
 f:ZFr
 t:Nat
 ln:Nat
namespace ZPb
end ZPb


theorem ZX{P:Program}{f:FuncId}(b:Bool){T U:WTr}(hT: ∀args h K,T args h K->Sp P f args h K)(hU: ∀args h K,U args h K->Sp P f args h K): ∀args h K,(bif b then T else U) args h K->Sp P f args h K:=by
 cases b
 ·exact hU
 ·exact hT
def intL(l:List AV)(i:Nat):Int:=match l[i]? with
 |some (AV.lit (.int _ z))=>z
 |_=>0
def hasB(l:List AV):Bool:=match l[19]? with
 |some (AV.slW _ _ _ _)=>true
 |_=>false
structure ZCl where
 k:Int
 key:ByteArray
 value:ByteArray
 to:ByteArray
def ZCl.l(x:ZCl):List AV:=[i64 x.k,.lit (.string x.key),.lit (.string x.value),.lit (.string x.to),gV]
def ZCl.fr(x:ZCl):List AV:=x.l++[i64 0,u64 0,.lit (.string ⟨#[]⟩),boo false,i64 0,boo false,.lit (.string ⟨#[]⟩),u64 0,u64 0,i64 0,i64 0,i64 (-1),i64 0,i64 0,gV,i64 0,gV,i64 0,boo false,.lit (.string ⟨#[]⟩),gV,gV,u64 0]
noncomputable def Ir:Ctr:=det ZCl (λx=>[.agg x.l]) 0 (λ_=>[]) (λ_=>True) (λx=> .agg x.fr) 0 (λ_=>[])
def ZY:WTr:=λargs h K=>match args with
 |[.agg [.lit (.int .i64 k),.lit (.string key),.lit (.string v),.lit (.string to),.lit (.slice none 0 0)]]=>K (.agg (ZCl.mk k key v to).fr) h
 |_=>False
def f0(key v:ByteArray):ZFr:=⟨key,v,0,false,iO,-1,0,0,0,false,⟨#[]⟩,0⟩
def acy(code:Int)(found:Bool)(v:ByteArray)(ep:Int):AV:= .agg [i64 code,boo found,.lit (.string v),gV,gV,u64 ep]
def byAt(h:Heap):Bool:=match cellAt h 3 19 with
 |some (.slW _ _ _ _)=>true
 |_=>false
structure ZRun where
 a:al5
 t:Nat
 key:ByteArray
 v:ByteArray
 b:ZBlk
namespace ZRun
end ZRun
def ahD(k:Int)(key v:ByteArray):AV:= .agg [i64 k,.lit (.string key),.lit (.string v),.lit (.string ⟨#[]⟩),gV]
def acz:Prop:=Value.slice none 0 0=Value.slice none 0 0
def al9:Prop:=ByteArray.mk #[]=ByteArray.mk #[]
def ati:Prop:=false=false/\al9/\acz/\acz/\(0:Int)=0/\True
def aou:Prop:=(0:Int)=0/\ati
def J8(x:ZCl):Prop:=
 ∃y:Unit,True/\(x.k=x.k/\x.key=x.key/\x.value=x.value/\x.to=x.to/\acz/\(0:Int)=0/\(0:Int)=0/\al9/\false=false/\(0:Int)=0/\false=false/\al9/\(0:Int)=0/\(0:Int)=0/\(0:Int)=0/\(0:Int)=0/\(-(1:Int))=(-(1:Int))/\(0:Int)=0/\(0:Int)=0/\acz/\(0:Int)=0/\acz/\aou)/\True
theorem VD(x:ZCl):J8 x=wpF Tryz.prog [] tt (noA x) 200 6 17 (Ir.args x) (hO Ir.k (Ir.os x)) (λv h'=>eF Ir.k x v h' Ir.outs):=by kernel_rfl
def J9(f:Nat->Bool):Nat->Nat
 |0=>0
 |n+1=>J9 f n+(bif f n then 1 else 0)
theorem ahE(f:Nat->Bool): ∀n,J9 f n<=n
 |0=>aY _
 |n+1=>by
  have:=ahE f n;simp only[J9];cases f n<;>simp<;>omega
theorem ahF{f:Nat->Bool}{k:Nat}(hf:f k=false): ∀{n},k<n->J9 f n<n
 |n+1,h=>by
  simp only[J9];by_cases e:k=n
  ·subst e;rw[hf];have:=ahE f k;simp;omega
  ·have:=ahF hf (n:=n) (by omega)
   cases f n<;>simp<;>omega
theorem uo{f g:Nat->Bool}: ∀{n},(∀k,k<n->f k=g k)->J9 f n=J9 g n
 |0,_=>rfl
 |n+1,h=>by simp only[J9];rw[uo λk hk=>h k (by omega),h n (by omega)]
theorem Z4{f:Nat->Bool}{k:Nat}(hf:f k=false): ∀{n},k<n->J9 (λq=>if q=k then true else f q) n=J9 f n+1
 |n+1,h=>by
  simp only[J9];by_cases e:k=n
  ·subst e
   rw[uo (g:=f) λq hq=>if_neg (by omega),hf];simp
  ·rw[Z4 hf (n:=n) (by omega),if_neg (by omega)];omega
theorem QL{f:Nat->Bool}(h: ∀k,f k=false): ∀n,J9 f n=0
 |0=>rfl
 |n+1=>by simp only[J9,h,QL h n];rfl
namespace ZPool
def at_(p:ZPool)(L:Int)(i j:Nat):Prop:=i<p.n/\0<=p.cls i/\j<many (p.cls i)/\p.tk i j=true/\L=2+i*8+j*spn (p.cls i)
def has(p:ZPool)(L:Int):Prop:= ∃i j,p.at_ L i j
def good(p:ZPool):Prop:=p.ok/\ ∀i,i<p.n->(p.cls i= -1-> ∀k,p.tk i k=false)/\(∀k,p.tk i k=true->k<many (p.cls i))/\p.cnt i=(J9 (p.tk i) 8:Nat)
end ZPool
theorem kJ{p:ZPool}(hp:p.good){c:Int}{i k:Nat}(h:p.takes c i k):i<p.n/\k<ZPool.many c/\p.tk i k=false/\(p.cls i=c\/p.cls i= -1):=by
 obtain⟨h1,h2,h3,h4⟩:=h;refine⟨h1,h2,?_,?_⟩
 ·rcases h4 with ⟨h4,_⟩|⟨h4,_⟩
  ·rw[if_pos h4]at h3;exact h3
  ·exact(hp.2 i h1).1 h4 k
 ·rcases h4 with ⟨h4,_⟩|⟨h4,_⟩
  ·exact .inl h4
  ·exact .inr h4
theorem aqO(c:Int):ZPool.many c<=8:=by rcases gy c with h|h|h|h|h<;>omega
theorem ahG{p:ZPool}(hp:p.good){c:Int}(hc:0<=c/\c<=3){i k:Nat}(h:p.takes c i k):(p.take c i k).good:=by
 obtain⟨h1,h2,h3,h4⟩:=kJ hp h;obtain⟨⟨o1,o2,o3⟩,hg⟩:=hp;have hm:=aqO c;have hlt:J9 (p.tk i) 8<8:=ahF h3 (by omega);refine⟨⟨o1,o2,λj hj=> ?_⟩,λj hj=> ?_⟩
 ·have hj':j<p.n:=hj
  have a1:=o3 j hj';have a2:=(hg j hj').2.2;by_cases e:j=i
  ·subst e
   refine⟨by show-1<=(if j=j then c else _);rw[if_pos rfl];omega,by show(if j=j then c else _)<=3;rw[if_pos rfl];omega,by show 0<=(if j=j then p.cnt j+1 else _);rw[if_pos rfl];omega,by show(if j=j then p.cnt j+1 else _)<=8;rw[if_pos rfl];omega⟩
  ·refine⟨by show-1<=(if j=i then c else p.cls j);rw[if_neg e];omega,by show(if j=i then c else p.cls j)<=3;rw[if_neg e];omega,by show 0<=(if j=i then p.cnt j+1 else p.cnt j);rw[if_neg e];omega,by show(if j=i then p.cnt j+1 else p.cnt j)<=8;rw[if_neg e];omega⟩
 ·have hj':j<p.n:=hj
  have a2:=hg j hj';by_cases e:j=i
  ·subst e
   refine⟨λhh=> ?_,λq hq=> ?_,?_⟩
   ·have:(if j=j then c else p.cls j)= -1:=hh
    rw[if_pos rfl]at this;omega
   ·have hq:(if j=j/\q=k then true else p.tk j q)=true:=hq
    show q<ZPool.many (if j=j then c else p.cls j);rw[if_pos rfl];by_cases eq:q=k
    ·omega
    ·rw[if_neg (λhh=>eq hh.2)]at hq
     have:=a2.2.1 q hq;rcases h4 with h4|h4
     ·rwa [h4]at this
     ·rw[a2.1 h4 q]at hq;cases hq
   ·show(if j=j then p.cnt j+1 else p.cnt j)=(J9 (λq=>if j=j/\q=k then true else p.tk j q) 8:Nat)
    have e1:J9 (λq=>if j=j/\q=k then true else p.tk j q) 8=J9 (p.tk j) 8+1:=by
     rw[<-Z4 h3 (show k<8 by omega)];exact uo λq _=>by by_cases e:q=k<;>simp[e]
    rw[if_pos rfl,a2.2.2,e1];omega
  ·refine⟨λhh q=> ?_,λq hq=> ?_,?_⟩
   ·have hh:(if j=i then c else p.cls j)= -1:=hh
    rw[if_neg e]at hh;show(if j=i/\q=k then true else p.tk j q)=false;rw[if_neg (λh=>e h.1)];exact a2.1 hh q
   ·have hq:(if j=i/\q=k then true else p.tk j q)=true:=hq
    rw[if_neg (λh=>e h.1)]at hq;show q<ZPool.many (if j=i then c else p.cls j);rw[if_neg e];exact a2.2.1 q hq
   ·show(if j=i then p.cnt j+1 else p.cnt j)=(J9 (λq=>if j=i/\q=k then true else p.tk j q) 8:Nat)
    rw[if_neg e,a2.2.2,uo (g:=p.tk j) (λq _=>if_neg (λh=>e h.1))]
theorem ama{p:ZPool}(hp:p.good){c:Int}(hc:0<=c/\c<=3){i k:Nat}(h:p.takes c i k){L:Int}{i' j':Nat}(hL:p.at_ L i' j'):L+spn (p.cls i')<=2+i*8+k*spn c\/2+i*8+k*spn c+spn c<=L:=by
 obtain⟨h1,h2,h3,h4⟩:=kJ hp h;obtain⟨a1,a2,a3,a4,rfl⟩:=hL;have a5:=(hp.1.2.2 i' a1).2.1;by_cases e:i'=i
 ·subst e
  have hcc:p.cls i'=c:=by
   rcases h4 with h4|h4
   ·exact h4
   ·omega
  rw[hcc]at a3 ⊢;have hne:j'≠k:=λe=>by subst e;rw[h3]at a4;cases a4
  rcases gy c with m|m|m|m|m<;>obtain⟨m1,m2,m3⟩:=m<;>rw[m2]<;>omega
 ·rcases gy c with m|m|m|m|m<;>rcases gy (p.cls i')with m'|m'|m'|m'|m'<;>obtain⟨m1,m2,m3⟩:=m<;>obtain⟨m1',m2',m3'⟩:=m'<;>rw[m2,m2']<;>omega
theorem amb{p:ZPool}(hp:p.good){c:Int}(hc:0<=c/\c<=3){i k:Nat}(h:p.takes c i k): ¬p.has (2+i*8+k*spn c):=λ⟨i',j',hL⟩=>by
 have h1:=ama hp hc h hL;have h2:=QK hc;have h3:=QK ⟨hL.2.1,(hp.1.2.2 i' hL.1).2.1⟩;have s1:=dR c;have s2:=dR (p.cls i');omega
theorem aqP{p:ZPool}(hp:p.good){c:Int}{i k:Nat}(h:p.takes c i k){L:Int}{i' j':Nat}(hL:p.at_ L i' j'):(p.take c i k).at_ L i' j'/\(p.take c i k).cls i'=p.cls i':=by
 obtain⟨h1,h2,h3,h4⟩:=kJ hp h;obtain⟨a1,a2,a3,a4,a5⟩:=hL;have hcl:(p.take c i k).cls i'=p.cls i':=by
  show(if i'=i then c else p.cls i')=_;split
  ·rename_i e
   subst e;rcases h4 with h4|h4
   ·exact h4.symm
   ·omega
  ·rfl
 refine⟨⟨a1,by rw[hcl];exact a2,by rw[hcl];exact a3,?_,by rw[hcl];exact a5⟩,hcl⟩;show(if i'=i/\j'=k then true else p.tk i' j')=true;split
 ·rfl
 ·exact a4
theorem at_new{p:ZPool}(hp:p.good){c:Int}(hc:0<=c){i k:Nat}(h:p.takes c i k):(p.take c i k).at_ (2+i*8+k*spn c) i k/\(p.take c i k).cls i=c:=by
 obtain⟨h1,h2,h3,h4⟩:=kJ hp h;have hcl:(p.take c i k).cls i=c:=if_pos rfl;refine⟨⟨h1,by rw[hcl];exact hc,by rw[hcl];exact h2,if_pos ⟨rfl,rfl⟩,by rw[hcl]⟩,hcl⟩
theorem acA{p:ZPool}(hp:p.good){c:Int}(hc:0<=c/\c<=3){i j:Nat}(h:p.takes c i j):((2+i*8+j*(spn c).toNat:Nat):Int)=2+i*8+j*spn c/\2+i*8+j*(spn c).toNat+(spn c).toNat<=2+p.n*8:=by
 obtain⟨h1,h2,_,_⟩:=kJ hp h;rcases gy c with m|m|m|m|m<;>obtain⟨m1,m2,m3⟩:=m<;>rw[m2]<;>simp only[show Int.toNat 1=1 from rfl,show Int.toNat 2=2 from rfl,show Int.toNat 4=4 from rfl,show Int.toNat 8=8 from rfl,show Int.toNat 0=0 from rfl]<;>omega
section
variable{x:ZRun}
theorem Ko(x:ZCl):J8 x:=by
 unfold J8;simp only[acz,al9,aou,ati];simp only[aZ,aV,aU,aA,aI,bQ,bF,aO,aK,ay,aX,aW,bU,bG,bH,bI,bV,bC,bJ,bn,eG,aH,aN,ah,ak,aB,aF,aC,aG]
theorem ahH:bZ Tryz.prog 17 Ir:=dM dD mixed .nil noA 200 6 (λ_=>rfl) (λ_=>rfl) λx _=>Eq.mp (VD x) (Ko x)
theorem QM(args:List AV)(h:Heap)(K:AV->Heap->Prop)(hq:ZY args h K):Sp Tryz.prog 17 args h K:=by
 unfold ZY at hq;split at hq
 ·rename_i k key v to
  exact J6 ahH ⟨k,key,v,to⟩ trivial h rfl rfl hq
 ·exact hq.elim
end
section
variable{x:ZRun}
end
theorem amc:dX Tryz.prog atg:= .cons Cm (.cons (bM agA) .nil)
section
variable{a:al5}{t N:Nat}{b:Nat->ZBlk}
theorem ahI{x y:ZBlk}(hk:x.key=y.key)(hv:x.value=y.value){m:Nat}(hm:64<=m):x.enc m=y.enc m:=by
 unfold ZBlk.enc;rw[if_neg (show¬m<64 by omega),if_neg (show¬m<64 by omega)];unfold ZBlk.dat
 rw[hk,hv]
theorem Kq(d:DevM)(k:Nat)(g:Nat->Int)(m r:Nat)(hr:r<64):(d.store k 0 64 g).b (m*193+r)=if m=k then g r else d.b (m*193+r):=by
 show(if k*193+0<=m*193+r/\m*193+r<k*193+0+64 then g (m*193+r-(k*193+0))else d.b (m*193+r))=_;by_cases h:m=k
 ·subst h;rw[if_pos (by omega),if_pos rfl,show m*193+r-(m*193+0)=r by omega]
 ·rw[if_neg (by omega),if_neg h]
theorem amd{p p':ZPool}(h: ∀L i j,p.at_ L i j->p'.at_ L i j/\p'.cls i=p.cls i){L:Int}(hp:p.has L):p'.has L:=by
 obtain⟨i,j,h1⟩:=hp;exact⟨i,j,(h _ _ _ h1).1⟩
theorem aqQ{b:iy}{e:gZ}{l:ZLn}{L:Int}(h:aqF.inB ⟨b.put e,l,L⟩):aqF.inB ⟨b,l,L⟩\/e.line=L\/e.anti=L:=by
 obtain⟨i,hi,hh⟩:=h;unfold iy.put at hi hh;by_cases hn:b.n<258
 ·simp only[if_pos hn]at hi hh
  by_cases e:i=b.n
  ·simp only[if_pos e]at hh;exact .inr hh
  ·simp only[if_neg e]at hh;exact .inl ⟨i,by show i<b.n;omega,hh⟩
 ·simp only[if_neg hn]at hi hh;exact .inl ⟨i,hi,hh⟩
theorem atj{b:iy}(h:b.ok)(e:gZ):(b.put e).ok:=by
 unfold iy.put;split
 ·exact⟨by show b.n+1<=258;omega,λh=>nomatch h⟩
 ·exact h
theorem take_at{p:ZPool}(hp:p.good){c:Int}{i k:Nat}(h:p.takes c i k): ∀L i' j',p.at_ L i' j'->(p.take c i k).at_ L i' j'/\(p.take c i k).cls i'=p.cls i':=λ_ _ _ hL=>aqP hp h hL
end
theorem aqR{A B:Own}(h: ∀w a S,A.holds w a S↔B.holds w a S):A=B:=by
 obtain⟨f,p⟩:=A;obtain⟨g,q⟩:=B;have:f=g:=by funext w a S;exact propext (h w a S)
 subst this;rfl
def Kr:Option dB->Option dB->Prop
 |none,none=>True
 |some x,some y=>jC x=jC y/\ ∀ρ w T a S,dG ρ w T a S x↔dG ρ w T a S y
 |_,_=>False
theorem Kr.some{x:Option dB}{o:dB}(h:Kr x (some o)): ∃y,x= .some y/\jC y=jC o/\ ∀ρ w T a S,dG ρ w T a S y↔dG ρ w T a S o:=by
 cases x with
 |none=>exact h.elim
 |some y=>exact⟨y,rfl,h⟩
theorem aov{os os':List dB}(hl:os.length=os'.length)(hs: ∀i:Nat,Kr os[i]? os'[i]?){w:World}{a:SE.Loc}{S:Nat->Prop}(h:(ak9 os).holds w a S):(ak9 os').holds w a S:=by
 obtain⟨_,ρ,rfl,h0,hro,ha,T,h1,h2,h3,h4⟩:=h;have fw: ∀{i o'},(hOf os').get i=some o'-> ∃o,(hOf os).get i=some o/\jC o=jC o'/\ ∀ρ w T a S,dG ρ w T a S o↔dG ρ w T a S o':=λ{i o'} h=>by
  rw[fP]at h;have q:=hs i;rw[h]at q;obtain⟨o,e,r⟩:=q.some;exact⟨o,by rw[fP];exact e,r⟩
 refine⟨_,ρ,rfl,by rw[lS,<-hl];exact h0,λi o' h=> ?_,ha,T,λi o' h=> ?_,λi j o o' b e1 e2=> ?_,λi o' b h=> ?_,λi hi=>h4 i (by rw[lS]at hi ⊢;rw[hl];exact hi)⟩
 ·obtain⟨o,e,r,_⟩:=fw h
  rw[<-r];exact hro _ _ e
 ·obtain⟨o,e,_,r⟩:=fw h
  obtain⟨x,q1,q2⟩:=h1 i o e;exact⟨x,q1,(r _ _ _ _ _).1 q2⟩
 ·obtain⟨p,f1,_⟩:=fw e1
  obtain⟨q,f2,_⟩:=fw e2;exact h2 i j p q b f1 f2
 ·obtain⟨o,e,_⟩:=fw h
  exact h3 i o b e
theorem Kr.symm{x y:Option dB}(h:Kr x y):Kr y x:=by
 cases x<;>cases y
 ·trivial
 ·exact h.elim
 ·exact h.elim
 ·exact⟨h.1.symm,λρ w T a S=>(h.2 ρ w T a S).symm⟩
theorem Kr.rfl'{x:Option dB}:Kr x x:=by
 cases x
 ·trivial
 ·exact⟨rfl,λ_ _ _ _ _=>Iff.rfl⟩
theorem ahJ{os os':List dB}(hl:os.length=os'.length)(hs: ∀i:Nat,Kr os[i]? os'[i]?):ownM os=ownM os':=by
 rw[pY,pY];exact aqR λ_ _ _=>⟨aov hl hs,aov hl.symm λi=>(hs i).symm⟩
theorem acB{x:dB}{e:TypeId}{c c':Cs}(hz:c.size=c'.size)(hg: ∀k,c.get k=c'.get k):ownM [x,.cells e c]=ownM [x,.cells e c']:=by
 refine ahJ rfl λi=> ?_
 match i with
 |0=>exact .rfl'
 |1=>
  refine⟨rfl,λρ w T a S=> ?_⟩;simp only[dG,fC,hz,hg]
 |n+2=>exact .rfl'
def aqS(p:ZPool)(i:Nat):List Value:=[.int .i64 (p.cls i),.bool (p.tk i 0),.bool (p.tk i 1),.bool (p.tk i 2),.bool (p.tk i 3),.bool (p.tk i 4),.bool (p.tk i 5),.bool (p.tk i 6),.bool (p.tk i 7),.int .i64 (p.cnt i)]
noncomputable def ZPool.osW(p:ZPool):List dB:=[.cells 245 (.av [.slE 1 0 10 p.n p.n]),.cells 177 (.row 10 p.n (aqS p) [])]
theorem ame(p:ZPool):ownM p.os=ownM p.osW:=by
 refine acB ?_ λk=> ?_
 ·simp[Cs.size]
 ·show(bif Nat.blt k (p.n*10*1)then(match (Cs.eff (fZ p) [] (k/1))[k%1]? with|some v=>some (AV.lit v)|none=>some AV.any)else none)=(bif Nat.blt k (p.n*10)then(match (Cs.eff (aqS p) [] (k/10))[k%10]? with|some v=>some (AV.lit v)|none=>some AV.any)else none)
  rw[Nat.mul_one,Nat.div_one,Nat.mod_one];congr 1;show(match (fZ p k)[0]? with|some v=>some (AV.lit v)|none=>some .any)=(match (aqS p (k/10))[k%10]? with|some v=>some (AV.lit v)|none=>some .any);rw[jV];have h:k%10=0\/k%10=1\/k%10=2\/k%10=3\/k%10=4\/k%10=5\/k%10=6\/k%10=7\/k%10=8\/k%10=9:=by omega
  rcases h with h|h|h|h|h|h|h|h|h|h<;>rw[h]<;>rfl
noncomputable def bkt(s:ByteArray):Nat:=hide (oG s%8).toNat
theorem aow(s:ByteArray):bkt s=(oG s%8).toNat:=gW _
theorem qB(s:ByteArray):bkt s<8:=by rw[aow];omega
noncomputable def EC:Ctr:=det ByteArray (λs=>[.lit (.string s)]) 0 (λ_=>[]) (λs=>Hd (s.size<1099511627776)) (λs=>i64 (bkt s)) 0 (λ_=>[])
def amf(c m:Int):Bool:=IntKind.u32.wrap ((BitVec.ofInt 32 (Int.fdiv c m)&&&BitVec.ofInt 32 1).toNat:Nat)==0
def aqT(c:Int):Nat:=if amf c 2147483648=true then 1 else if amf c 1073741824=true then 2 else if amf c 536870912=true then 3 else 4
noncomputable def lvl(s:ByteArray):Nat:=hide (aqT (oG s))
theorem QN(s:ByteArray):lvl s=aqT (oG s):=gW _
theorem aox(s:ByteArray):1<=lvl s/\lvl s<=4:=by
 rw[QN];unfold aqT
 repeat' (split)
 all_goals omega
noncomputable def Z5:Ctr:={X:=ByteArray,args:=λs=>[.lit (.string s)],k:=0,os:=λ_=>[],pre:=λs=>Hd (s.size<1099511627776),outs:=[
 {Y:=Unit,post:=λs _=>Hd (lvl s=1),ret:=λ_ _=>i64 1,m:=0,os:=λ_ _=>[]},
 {Y:=Unit,post:=λs _=>Hd (lvl s=2),ret:=λ_ _=>i64 2,m:=0,os:=λ_ _=>[]},
 {Y:=Unit,post:=λs _=>Hd (lvl s=3),ret:=λ_ _=>i64 3,m:=0,os:=λ_ _=>[]},
 {Y:=Unit,post:=λs _=>Hd (lvl s=4),ret:=λ_ _=>i64 4,m:=0,os:=λ_ _=>[]}]}
noncomputable def aqU:jd:=[(232,ctrT Uf)]
def kl(a b:ByteArray):Bool:=Op.bytesLess a.toList b.toList
theorem Z7: ∀a:List UInt8,Op.bytesLess a a=false
 |[]=>by simp[Op.bytesLess]
 |x::a=>by simp[Op.bytesLess,Z7 a]
theorem Kt: ∀{a b c:List UInt8},Op.bytesLess a b=true->Op.bytesLess b c=true->Op.bytesLess a c=true
 |_,[],_,h,_=>by simp[Op.bytesLess]at h
 |_,_::_,[],_,h=>by simp[Op.bytesLess]at h
 |[],_::_,_::_,_,_=>by simp[Op.bytesLess]
 |x::a,y::b,z::c,h,k=>by
  simp only[Op.bytesLess,Bool.or_eq_true,decide_eq_true_eq,aJ,beq_iff_eq]at h k ⊢;rcases h with h|⟨rfl,h⟩
  ·rcases k with k|⟨rfl,k⟩
   ·exact .inl (UInt8.lt_trans h k)
   ·exact .inl h
  ·rcases k with k|⟨rfl,k⟩
   ·exact .inl k
   ·exact .inr ⟨rfl,Kt h k⟩
theorem ahK: ∀(a b:List UInt8),Op.bytesLess a b=false->Op.bytesLess b a=false->a=b
 |[],[],_,_=>rfl
 |[],_::_,h,_=>by simp[Op.bytesLess]at h
 |_::_,[],_,h=>by simp[Op.bytesLess]at h
 |x::a,y::b,h,k=>by
  simp only[Op.bytesLess,Bool.or_eq_false_iff,decide_eq_false_iff_not,Bool.and_eq_false_iff,beq_eq_false_iff_ne]at h k;have hxy:x=y:=by
   have h1:=UInt8.not_lt.1 h.1;have h2:=UInt8.not_lt.1 k.1;exact UInt8.le_antisymm h2 h1
  subst hxy;rw[ahK a b (h.2.resolve_left (λhh=>hh rfl)) (k.2.resolve_left (λhh=>hh rfl))]
theorem nZ(a:ByteArray):kl a a=false:=Z7 _
theorem jA{a b c:ByteArray}(h:kl a b=true)(k:kl b c=true):kl a c=true:=Kt h k
theorem iC(a:ByteArray):a.toList=a.data.toList:=ByteArray.toList_eq a
theorem Z8{a b:ByteArray}(h:kl a b=false)(k:kl b a=false):a=b:=by
 have:=ahK _ _ h k;rw[iC,iC]at this;exact ByteArray.ext (Array.toList_inj.1 this)
abbrev Lks:=List ZLnk
def srt(L:Lks):Prop:=L.Pairwise λa b=>kl a.key b.key=true
def gJ(L:Lks)(s:ByteArray):Option ZLnk:=L.find? λl=>decide (l.key=s)
def jg:Lks->ZLnk->Lks
 |[],l=>[l]
 |x::L,l=>if x.key=l.key then l::L else if kl l.key x.key=true then l::x::L else x::jg L l
def fQ(L:Lks)(s:ByteArray):Lks:=L.filter λl=> !decide (l.key=s)
noncomputable def nextL(L:Lks)(b:Nat)(pos:ByteArray)(past:Bool):Option ZLnk:=L.find? λl=>decide (bkt l.key=b)&&(!past||kl pos l.key)
def lrow(L:Lks):Cs:= .row 5 L.length (λi=>(L.getD i iO).cs) []
def ZLnk.ent(l:ZLnk)(b:Nat):aaN:=⟨l.key,l.cs,b⟩
structure ZMs where
 n:Nat
 lk:Nat->ZLnk
 born:Nat->Nat
 clk:Nat
def ZMs.ms(m:ZMs):MS:=⟨m.n,λj=>(m.lk j).ent (m.born j),m.clk⟩
def ZMs.put(m:ZMs)(j:Nat)(l:ZLnk):ZMs:=⟨m.n,λq=>if q=j then l else m.lk q,m.born,m.clk⟩
def ZMs.add(m:ZMs)(l:ZLnk):ZMs:=⟨m.n+1,λq=>if q=m.n then l else m.lk q,λq=>if q=m.n then m.clk else m.born q,m.clk+1⟩
def ZMs.del(m:ZMs)(j:Nat):ZMs:=⟨m.n-1,λq=>if q<j then m.lk q else m.lk (q+1),λq=>if q<j then m.born q else m.born (q+1),m.clk⟩
theorem atl(m:ZMs)(j:Nat)(l:ZLnk):m.ms.put j l.key l.cs=(m.put j l).ms:=by
 simp only[MS.put,ZMs.ms,ZMs.put,MS.mk.injEq,aU,aV];funext q;rw[dA];by_cases h:q=j
 ·subst h;simp[ZLnk.ent]
 ·simp[h]
theorem atm(m:ZMs)(l:ZLnk):m.ms.add l.key l.cs=(m.add l).ms:=by
 simp only[MS.add,ZMs.ms,ZMs.add,MS.mk.injEq,aU,aV];funext q;rw[dA];by_cases h:q=m.n
 ·subst h;simp[ZLnk.ent]
 ·simp[h]
theorem atn(m:ZMs)(j:Nat):m.ms.del j=(m.del j).ms:=by
 simp only[MS.del,ZMs.ms,ZMs.del,MS.mk.injEq,aU,aV];funext q;rw[bT];by_cases h:q<j
 ·simp[h]
 ·simp[h]
abbrev iU:=Nat->ZMs
noncomputable def QO(t:iU):List dB:=[.cells 172 (.av [.mp 1,.mp 2,.mp 3,.mp 4,.mp 5,.mp 6,.mp 7,.mp 8]),.nN (t 0).ms,.nN (t 1).ms,.nN (t 2).ms,.nN (t 3).ms,.nN (t 4).ms,.nN (t 5).ms,.nN (t 6).ms,.nN (t 7).ms]
structure lM (L:Lks) (t:iU):Prop where
 srt:srt L
 size:L.length<=258
 key: ∀l∈L,l.key.size<1099511627776
 mem: ∀b,b<8-> ∀j,j<(t b).n->(t b).lk j∈L/\bkt ((t b).lk j).key=b
 all: ∀l∈L,∃j,j<(t (bkt l.key)).n/\(t (bkt l.key)).lk j=l
 inj: ∀b,b<8-> ∀i j,i<(t b).n->j<(t b).n->((t b).lk i).key=((t b).lk j).key->i=j
 born: ∀b,b<8-> ∀j,j<(t b).n->(t b).born j<(t b).clk
 bi: ∀b,b<8-> ∀i j,i<(t b).n->j<(t b).n->(t b).born i=(t b).born j->i=j
noncomputable def tabA(L:Lks):Own:=hide (Ov λh=> ∃t:iU,lM L t/\h=hOf (QO t))
theorem ahL(L:Lks):tabA L=Ov λh=> ∃t:iU,lM L t/\h=hOf (QO t):=gW _
theorem amg{a b:ByteArray}(h:kl a b=true):a≠b:=λe=>by subst e;rw[nZ]at h;cases h
theorem VE{a b:ByteArray}(h:kl a b=true):kl b a=false:=by
 cases hb:kl b a with
 |false=>rfl
 |true=>have:=jA h hb;rw[nZ]at this;cases this
theorem Ku: ∀{L:Lks},srt L-> ∀{l l':ZLnk},l∈L->l'∈L->l.key=l'.key->l=l'
 |[],_,_,_,h,_,_=>by cases h
 |x::L,hs,l,l',h,h',e=>by
  obtain⟨h1,h2⟩:=List.pairwise_cons.1 hs;rcases List.mem_cons.1 h with g|g<;>rcases List.mem_cons.1 h' with g'|g'
  ·rw[g,g']
  ·subst g;exact(amg (h1 _ g') e).elim
  ·subst g';exact(amg (h1 _ g) e.symm).elim
  ·exact Ku h2 g g' e
theorem og{L:Lks}{s:ByteArray}{l:ZLnk}(h:gJ L s=some l):l∈L/\l.key=s:=
 ⟨List.mem_of_find?_eq_some h,by have:=List.find?_some h;exact aS this⟩
theorem yA{L:Lks}(hs:srt L){l:ZLnk}{s:ByteArray}(h:l∈L)(e:l.key=s):gJ L s=some l:=by
 cases hf:gJ L s with
 |none=>
  have:=List.find?_eq_none.1 hf l h;exact(this (decide_eq_true e)).elim
 |some l'=>
  obtain⟨h1,h2⟩:=og hf;rw[Ku hs h h1 (e.trans h2.symm)]
theorem yB{L:Lks}{s:ByteArray}(h: ∀l∈L,l.key≠s):gJ L s=none:=
 List.find?_eq_none.2 λl hl=>by rw[decide_eq_true_eq];exact h l hl
theorem uq{L:Lks}{s:ByteArray}(h:gJ L s=none): ∀l∈L,l.key≠s:=λl hl e=>List.find?_eq_none.1 h l hl (decide_eq_true e)
theorem gK: ∀{L:Lks} {l x:ZLnk},srt L->(x∈jg L l↔x=l\/(x∈L/\x.key≠l.key))
 |[],l,x,_=>by simp[jg]
 |y::L,l,x,hs=>by
  obtain⟨h1,h2⟩:=List.pairwise_cons.1 hs;unfold jg;by_cases e:y.key=l.key
  ·rw[if_pos e]
   simp only[List.mem_cons];constructor
   ·rintro (h|h)
    ·exact .inl h
    ·exact .inr ⟨.inr h,λe2=>amg (h1 x h) (e.trans e2.symm)⟩
   ·rintro (h|⟨h|h,h3⟩)
    ·exact .inl h
    ·exact(h3 (by rw[h];exact e)).elim
    ·exact .inr h
  ·rw[if_neg e]
   by_cases k:kl l.key y.key=true
   ·rw[if_pos k]
    simp only[List.mem_cons];constructor
    ·rintro (h|h|h)
     ·exact .inl h
     ·exact .inr ⟨.inl h,by rw[h];exact e⟩
     ·exact .inr ⟨.inr h,λe2=>by
       have:=jA k (h1 x h)
       exact amg this e2.symm⟩
    ·rintro (h|⟨h,_⟩)
     ·exact .inl h
     ·exact .inr h
   ·rw[if_neg k]
    simp only[List.mem_cons,gK h2];constructor
    ·rintro (h|h|⟨h,h3⟩)
     ·exact .inr ⟨.inl h,by rw[h];exact e⟩
     ·exact .inl h
     ·exact .inr ⟨.inr h,h3⟩
    ·rintro (h|⟨h|h,h3⟩)
     ·exact .inr (.inl h)
     ·exact .inl h
     ·exact .inr (.inr ⟨h,h3⟩)
theorem uw: ∀{L:Lks} {l:ZLnk},srt L->srt (jg L l)
 |[],l,_=>by simp[jg,srt]
 |y::L,l,hs=>by
  obtain⟨h1,h2⟩:=List.pairwise_cons.1 hs;unfold jg;by_cases e:y.key=l.key
  ·rw[if_pos e]
   exact List.pairwise_cons.2 ⟨λx hx=>by rw[<-e];exact h1 x hx,h2⟩
  ·rw[if_neg e]
   by_cases k:kl l.key y.key=true
   ·rw[if_pos k]
    exact List.pairwise_cons.2 ⟨λx hx=>by
     rcases List.mem_cons.1 hx with rfl|hx
     ·exact k
     ·exact jA k (h1 x hx),hs⟩
   ·rw[if_neg k]
    refine List.pairwise_cons.2 ⟨λx hx=> ?_,uw h2⟩;rcases (gK h2).1 hx with rfl|⟨hx,_⟩
    ·cases hy:kl y.key x.key with
     |true=>rfl
     |false=>exact(e (Z8 hy (by simpa using k))).elim
    ·exact h1 x hx
theorem Z9: ∀{L:Lks} {l:ZLnk},(jg L l).length<=L.length+1
 |[],l=>by simp[jg]
 |y::L,l=>by
  unfold jg;by_cases e:y.key=l.key
  ·rw[if_pos e];simp
  ·rw[if_neg e]
   by_cases k:kl l.key y.key=true
   ·rw[if_pos k];simp
   ·rw[if_neg k];have:=Z9 (L:=L) (l:=l);simp;omega
theorem ED{L:Lks}{s:ByteArray}{x:ZLnk}:x∈fQ L s↔x∈L/\x.key≠s:=by
 unfold fQ;rw[List.mem_filter];simp
theorem QS{L:Lks}{s:ByteArray}(h:srt L):srt (fQ L s):=List.Pairwise.filter _ h
theorem amh{L:Lks}{l:ZLnk}{s:ByteArray}(h:srt L):gJ (jg L l) s=if s=l.key then some l else gJ L s:=by
 have hs:=uw (l:=l) h;by_cases e:s=l.key
 ·rw[if_pos e];exact yA hs ((gK h).2 (.inl rfl)) e.symm
 ·rw[if_neg e]
  cases hf:gJ L s with
  |some x=>
   obtain⟨h1,h2⟩:=og hf;exact yA hs ((gK h).2 (.inr ⟨h1,λe2=>e (h2.symm.trans e2)⟩)) h2
  |none=>
   refine yB λx hx=> ?_
   rcases (gK h).1 hx with rfl|⟨hx,_⟩
   ·exactλe2=>e e2.symm
   ·exact uq hf x hx
def wo(t:iU)(b:Nat)(m:ZMs):iU:=λq=>if q=b then m else t q
theorem lM.found{L:Lks}{t:iU}(h:lM L t){s:ByteArray}{b j:Nat}(hb:bkt s=b)(hj:j<(t b).n)(hk:((t b).lk j).key=s):gJ L s=some ((t b).lk j):=by
 have:=qB s;exact yA h.srt (h.mem b (by omega) j hj).1 hk
theorem lM.none{L:Lks}{t:iU}(h:lM L t){s:ByteArray}{b:Nat}(hb:bkt s=b)(hn: ∀j,j<(t b).n->((t b).lk j).key≠s):gJ L s=none:=by
 refine yB λl hl e=> ?_
 obtain⟨j,h1,h2⟩:=h.all l hl;rw[e,hb]at h1 h2;exact hn j h1 (by rw[h2];exact e)
theorem lM.put{L:Lks}{t:iU}(h:lM L t){l:ZLnk}{b j:Nat}(hb:bkt l.key=b)(hj:j<(t b).n)(hk:((t b).lk j).key=l.key)(hl:(jg L l).length<=258)(hs:l.key.size<1099511627776):lM (jg L l) (wo t b ((t b).put j l)):=by
 have hb8:b<8:=by have:=qB l.key;omega
 refine⟨uw h.srt,hl,λx hx=> ?_,λc hc q hq=> ?_,λx hx=> ?_,λc hc p q hp hq e=> ?_,λc hc q hq=> ?_,λc hc p q hp hq e=> ?_⟩
 ·rcases (gK h.srt).1 hx with rfl|⟨hx,_⟩
  ·exact hs
  ·exact h.key x hx
 ·unfold wo at hq ⊢
  by_cases hcb:c=b
  ·subst hcb
   rw[if_pos rfl]at hq ⊢;show(if q=j then l else(t c).lk q)∈_/\bkt (if q=j then l else(t c).lk q).key=c;by_cases hqj:q=j
   ·rw[if_pos hqj];exact⟨(gK h.srt).2 (.inl rfl),hb⟩
   ·rw[if_neg hqj]
    have hm:=h.mem c hc q hq;exact⟨(gK h.srt).2 (.inr ⟨hm.1,λe=>hqj (h.inj c hc q j hq hj (e.trans hk.symm))⟩),hm.2⟩
  ·rw[if_neg hcb]at hq ⊢
   have hm:=h.mem c hc q hq;exact⟨(gK h.srt).2 (.inr ⟨hm.1,λe=>hcb (by rw[<-hm.2,e];exact hb)⟩),hm.2⟩
 ·unfold wo
  rcases (gK h.srt).1 hx with rfl|⟨hx,hne⟩
  ·rw[hb,if_pos rfl];exact⟨j,hj,if_pos rfl⟩
  ·obtain⟨q,h1,h2⟩:=h.all x hx
   by_cases hcb:bkt x.key=b
   ·rw[hcb]at h1 h2 ⊢
    rw[if_pos rfl];have hqj:q≠j:=λe=>hne (by rw[<-h2,e];exact hk)
    exact⟨q,h1,(if_neg hqj).trans h2⟩
   ·rw[if_neg hcb];exact⟨q,h1,h2⟩
 ·unfold wo at hp hq e
  by_cases hcb:c=b
  ·subst hcb
   rw[if_pos rfl]at hp hq e;have hkey: ∀q,((if q=j then l else(t c).lk q:ZLnk)).key=((t c).lk q).key:=λq=>by
    by_cases hqj:q=j
    ·rw[if_pos hqj,hqj];exact hk.symm
    ·rw[if_neg hqj]
   refine h.inj c hc p q hp hq ?_;rw[<-hkey,<-hkey];exact e
  ·rw[if_neg hcb]at hp hq e;exact h.inj c hc p q hp hq e
 ·unfold wo at hq ⊢
  by_cases hcb:c=b
  ·subst hcb;rw[if_pos rfl]at hq ⊢;exact h.born c hc q hq
  ·rw[if_neg hcb]at hq ⊢;exact h.born c hc q hq
 ·unfold wo at hp hq e
  by_cases hcb:c=b
  ·subst hcb;rw[if_pos rfl]at hp hq e;exact h.bi c hc p q hp hq e
  ·rw[if_neg hcb]at hp hq e;exact h.bi c hc p q hp hq e
theorem lM.add{L:Lks}{t:iU}(h:lM L t){l:ZLnk}{b:Nat}(hb:bkt l.key=b)(hn: ∀j,j<(t b).n->((t b).lk j).key≠l.key)(hl:(jg L l).length<=258)(hs:l.key.size<1099511627776):lM (jg L l) (wo t b ((t b).add l)):=by
 have hb8:b<8:=by have:=qB l.key;omega
 have hno:=uq (h.none hb hn);have low: ∀{c q},q<(wo t b ((t b).add l) c).n->(c=b/\q=(t b).n/\(wo t b ((t b).add l) c).lk q=l/\(wo t b ((t b).add l) c).born q=(t b).clk)\/(q<(t c).n/\(wo t b ((t b).add l) c).lk q=(t c).lk q/\(wo t b ((t b).add l) c).born q=(t c).born q):=λ{c q} hq=>by
  unfold wo at hq ⊢;by_cases hcb:c=b
  ·subst hcb
   rw[if_pos rfl]at hq ⊢;have hq:q<(t c).n+1:=hq;by_cases hqn:q=(t c).n
   ·exact .inl ⟨rfl,hqn,if_pos hqn,if_pos hqn⟩
   ·exact .inr ⟨by omega,if_neg hqn,if_neg hqn⟩
  ·rw[if_neg hcb]at hq ⊢;exact .inr ⟨hq,rfl,rfl⟩
 have clk: ∀c,(t c).clk<=(wo t b ((t b).add l) c).clk:=λc=>by
  unfold wo;by_cases hcb:c=b
  ·subst hcb;rw[if_pos rfl];show _<=(t c).clk+1;omega
  ·rw[if_neg hcb];exact aY _
 refine⟨uw h.srt,hl,λx hx=> ?_,λc hc q hq=> ?_,λx hx=> ?_,λc hc p q hp hq e=> ?_,λc hc q hq=> ?_,λc hc p q hp hq e=> ?_⟩
 ·rcases (gK h.srt).1 hx with rfl|⟨hx,_⟩
  ·exact hs
  ·exact h.key x hx
 ·rcases low hq with ⟨rfl,_,e,_⟩|⟨hq,e,_⟩
  ·rw[e];exact⟨(gK h.srt).2 (.inl rfl),hb⟩
  ·rw[e]
   have hm:=h.mem c hc q hq;exact⟨(gK h.srt).2 (.inr ⟨hm.1,hno _ hm.1⟩),hm.2⟩
 ·unfold wo
  rcases (gK h.srt).1 hx with rfl|⟨hx,hne⟩
  ·rw[hb,if_pos rfl];exact⟨(t b).n,Nat.lt_succ_self _,if_pos rfl⟩
  ·obtain⟨q,h1,h2⟩:=h.all x hx
   by_cases hcb:bkt x.key=b
   ·rw[hcb]at h1 h2 ⊢
    rw[if_pos rfl];exact⟨q,Nat.lt_succ_of_lt h1,(if_neg (Nat.ne_of_lt h1)).trans h2⟩
   ·rw[if_neg hcb];exact⟨q,h1,h2⟩
 ·rcases low hp with ⟨rfl,e1,e2,_⟩|⟨hp,e2,_⟩<;>rcases low hq with ⟨e0,f1,f2,_⟩|⟨hq,f2,_⟩
  ·omega
  ·rw[e2,f2]at e;exact(hno _ (h.mem c hc q hq).1 e.symm).elim
  ·rw[e2,f2]at e;exact(hno _ (h.mem c hc p hp).1 e).elim
  ·rw[e2,f2]at e;exact h.inj c hc p q hp hq e
 ·rcases low hq with ⟨rfl,_,_,e⟩|⟨hq,_,e⟩
  ·rw[e];unfold wo;rw[if_pos rfl];exact Nat.lt_succ_self _
  ·rw[e];exact Nat.lt_of_lt_of_le (h.born c hc q hq) (clk c)
 ·rcases low hp with ⟨e1,g1,_,e2⟩|⟨gp,_,e2⟩<;>rcases low hq with ⟨f1,g2,_,f2⟩|⟨gq,_,f2⟩
  ·omega
  ·rw[e2,f2]at e;have:=h.born c hc q gq;subst e1;omega
  ·rw[e2,f2]at e;have:=h.born c hc p gp;subst f1;omega
  ·rw[e2,f2]at e;exact h.bi c hc p q gp gq e
theorem lM.del{L:Lks}{t:iU}(h:lM L t){s:ByteArray}{b j:Nat}(hb:bkt s=b)(hj:j<(t b).n)(hk:((t b).lk j).key=s):lM (fQ L s) (wo t b ((t b).del j)):=by
 have hb8:b<8:=by have:=qB s;omega
 have low: ∀{c q},q<(wo t b ((t b).del j) c).n-> ∃p,p<(t c).n/\(c=b->p≠j)/\(wo t b ((t b).del j) c).lk q=(t c).lk p/\(wo t b ((t b).del j) c).born q=(t c).born p/\(((c=b->q<j)/\p=q)\/(c=b/\p=q+1/\j<=q)):=λ{c q} hq=>by
  unfold wo at hq ⊢;by_cases hcb:c=b
  ·subst hcb
   rw[if_pos rfl]at hq ⊢;have hq:q<(t c).n-1:=hq;by_cases hqj:q<j
   ·exact⟨q,by omega,λ_=>by omega,if_pos hqj,if_pos hqj,.inl ⟨λ_=>hqj,rfl⟩⟩
   ·exact⟨q+1,by omega,λ_=>by omega,if_neg hqj,if_neg hqj,.inr ⟨rfl,rfl,by omega⟩⟩
  ·rw[if_neg hcb]at hq ⊢;exact⟨q,hq,λe=>absurd e hcb,rfl,rfl,.inl ⟨λe=>absurd e hcb,rfl⟩⟩
 refine⟨QS h.srt,Nat.le_trans (List.length_filter_le _ _) h.size,λx hx=>h.key x (ED.1 hx).1,λc hc q hq=> ?_,λx hx=> ?_,λc hc p q hp hq e=> ?_,λc hc q hq=> ?_,λc hc p q hp hq e=> ?_⟩
 ·obtain⟨p,h1,h2,h3,_⟩:=low hq
  have hm:=h.mem c hc p h1;rw[h3]
  exact⟨ED.2 ⟨hm.1,λe=>by
   have hcb:c=b:=by rw[<-hm.2,e];exact hb
   subst hcb
   exact h2 rfl (h.inj c hc p j h1 hj (e.trans hk.symm))⟩,hm.2⟩
 ·obtain⟨hx,hne⟩:=ED.1 hx
  obtain⟨q,h1,h2⟩:=h.all x hx;unfold wo;by_cases hcb:bkt x.key=b
  ·rw[hcb]at h1 h2 ⊢
   rw[if_pos rfl];have hqj:q≠j:=λe=>hne (by rw[<-h2,e];exact hk)
   by_cases hlt:q<j
   ·exact⟨q,by show q<(t b).n-1;omega,(if_pos hlt).trans h2⟩
   ·exact⟨q-1,by show q-1<(t b).n-1;omega,(if_neg (by omega)).trans (by rw[show q-1+1=q by omega];exact h2)⟩
  ·rw[if_neg hcb];exact⟨q,h1,h2⟩
 ·obtain⟨p',a1,a2,a3,_,a5⟩:=low hp
  obtain⟨q',b1,b2,b3,_,b5⟩:=low hq;rw[a3,b3]at e;have:=h.inj c hc p' q' a1 b1 e;rcases a5 with ⟨a5,a6⟩|⟨a5,a7,a8⟩<;>rcases b5 with ⟨b5,b6⟩|⟨b5,b7,b8⟩
  ·omega
  ·have:=a5 b5;omega
  ·have:=b5 a5;omega
  ·omega
 ·obtain⟨p,h1,h2,_,h4,_⟩:=low hq
  rw[h4];have:=h.born c hc p h1;unfold wo;by_cases hcb:c=b
  ·subst hcb;rw[if_pos rfl];exact this
  ·rw[if_neg hcb];exact this
 ·obtain⟨p',a1,a2,_,a3,a5⟩:=low hp
  obtain⟨q',b1,b2,_,b3,b5⟩:=low hq;rw[a3,b3]at e;have:=h.bi c hc p' q' a1 b1 e;rcases a5 with ⟨a5,a6⟩|⟨a5,a7,a8⟩<;>rcases b5 with ⟨b5,b6⟩|⟨b5,b7,b8⟩
  ·omega
  ·have:=a5 b5;omega
  ·have:=b5 a5;omega
  ·omega
theorem acC:qO Tryz.prog 227 Extern.BytealgCompare.compare:=⟨Tryz.f227,by kernel_rfl,by kernel_rfl,by kernel_rfl,by kernel_rfl,by kernel_rfl⟩
def ato:jd:=[(227,cmpX)]
theorem ami:dX Tryz.prog ato:= .Gf (apL acC) .nil
def uD(L:Lks)(s:ByteArray):Nat:=L.findIdx λl=> !kl l.key s
structure ZTq where
 L:Lks
 s:ByteArray
def ZTq.at_(x:ZTq)(k:Nat):ZLnk:=x.L.getD k iO
structure ZIj where
 i:Nat
 j:Nat
noncomputable def atp:Ctr:=det ZTq (λx=>[.slR 0 0 5 x.L.length,.lit (.string x.s)]) 1 (λx=>[.ro (lrow x.L)]) (λx=>Hd (srt x.L/\x.L.length<1099511627776)) (λx=> .tup [i64 (uD x.L x.s),boo (gJ x.L x.s).isSome]) 1 (λx=>[.ro (lrow x.L)])
noncomputable def aoy(x:ZTq):FuncId->pX:=λf=>bif Nat.beq f 298 then(λb _ _=>bif Nat.beq b 0 then [
 {σ:=ZIj,fr:=λs=>[(9,i64 s.i),(10,i64 s.j)],ob:=λ_=>[],inv:=λs=>Hd (s.i<=s.j/\s.j<=x.L.length/\(∀q,q<s.i->kl (x.at_ q).key x.s=true)/\ ∀q,s.j<=q->q<x.L.length->kl (x.at_ q).key x.s=false),meas:=λs=>s.j-s.i}]else [])elseλ_ _ _=>[]
theorem aqV{L:Lks}{s:ByteArray}{i:Nat}(hi:i<=L.length)(h1: ∀q,q<i->kl (L.getD q iO).key s=true)(h2:i<L.length->kl (L.getD i iO).key s=false):uD L s=i:=by
 unfold uD;rcases Nat.lt_or_ge i L.length with h|h
 ·rw[List.findIdx_eq h]
  have g: ∀q (hq:q<L.length),L.getD q iO=L[q]:=λq hq=>by rw[List.getD_eq_getElem?_getD,List.getElem?_eq_getElem hq];rfl
  refine⟨?_,λq hq=> ?_⟩
  ·have:=h2 h;rw[g i h]at this;rw[this];rfl
  ·have:=h1 q hq;rw[g q (by omega)]at this;rw[this];rfl
 ·have hl:i=L.length:=by omega
  subst hl;rw[List.findIdx_eq_length];intro l hl;obtain⟨q,hq,rfl⟩:=List.getElem_of_mem hl;have:=h1 q hq;rw[List.getD_eq_getElem?_getD,List.getElem?_eq_getElem hq]at this;simp only[Option.getD_some]at this;rw[this];rfl
theorem ahM{L:Lks}(h:srt L){i j:Nat}(hij:i<j)(hj:j<L.length):kl (L.getD i iO).key (L.getD j iO).key=true:=by
 have:=List.pairwise_iff_getElem.1 h i j (by omega) hj hij;simp only[List.getD_eq_getElem?_getD,List.getElem?_eq_getElem hj,List.getElem?_eq_getElem (show i<L.length by omega),Option.getD_some];exact this
theorem ahN{L:Lks}{i:Nat}(h:i<L.length):L.getD i iO∈L:=by
 rw[List.getD_eq_getElem?_getD,List.getElem?_eq_getElem h];exact List.getElem_mem h
theorem atq{L:Lks}(hs:srt L){s:ByteArray}{i:Nat}(hi:i<=L.length)(h1: ∀q,q<i->kl (L.getD q iO).key s=true)(h2: ∀q,i<=q->q<L.length->kl (L.getD q iO).key s=false):(gJ L s).isSome=(decide (i<L.length)&&decide ((L.getD i iO).key=s)):=by
 cases hf:gJ L s with
 |some l=>
  obtain⟨g1,g2⟩:=og hf;obtain⟨q,hq,rfl⟩:=List.getElem_of_mem g1;have e:L.getD q iO=L[q]:=by rw[List.getD_eq_getElem?_getD,List.getElem?_eq_getElem hq];rfl
  have hiq:i=q:=by
   rcases Nat.lt_trichotomy i q with h|h|h
   ·have:=ahM hs h hq
    rw[e,g2]at this;rw[h2 i (aY _) (by omega)]at this;cases this
   ·exact h
   ·have:=h1 q h
    rw[e,g2,nZ]at this;cases this
  subst hiq;rw[e,g2];simp[hq]
 |none=>
  have:=uq hf;by_cases hl:i<L.length
  ·have hne:=this _ (ahN hl)
   simp only[Option.isSome_none,decide_eq_true hl,aH];exact(decide_eq_false hne).symm
  ·simp[hl]
def ahO(a:ZIj)(b:ZTq):Prop:=Hd (a.i<=a.j/\a.j<=List.length b.L/\(∀q:Nat,q<a.i->kl (ZLnk.key (b.at_ q)) b.s=true)/\ ∀q:Nat,a.j<=q->q<List.length b.L->kl (ZLnk.key (b.at_ q)) b.s=false)
def acD(a:Lks):Prop:=(lrow a=lrow a/\true=true)/\True
def aqW(x:ZTq):Prop:=
 (∃s:ZIj,ahO s x/\True/\((s.i:Int)=0/\(s.j:Int)=((List.length x.L:Nat):Int)/\True)/\acD x.L)/\(∀s:ZIj,ahO s x->cP (decide ((s.i:Int)<(s.j:Int))) (I64 ((s.i:Int)+(s.j:Int))/\(0:Int)<=1/\I64 (Int.fdiv (IntKind.wrap .u64 ((s.i:Int)+(s.j:Int))) (2:Int))/\(0<=Int.fdiv (IntKind.wrap .u64 ((s.i:Int)+(s.j:Int))) (2:Int)/\Int.fdiv (IntKind.wrap .u64 ((s.i:Int)+(s.j:Int))) (2:Int)<((List.length x.L:Nat):Int))/\0+Int.toNat (Int.fdiv (IntKind.wrap .u64 ((s.i:Int)+(s.j:Int))) (2:Int))<List.length x.L/\cP (decide (afn (ZLnk.key (List.getD x.L (0+Int.toNat (Int.fdiv (IntKind.wrap .u64 ((s.i:Int)+(s.j:Int))) (2:Int))) iO)) x.s<0)) (I64 (Int.fdiv (IntKind.wrap .u64 ((s.i:Int)+(s.j:Int))) (2:Int)+1)/\ ∃s_1:ZIj,ahO s_1 x/\s_1.j-s_1.i<s.j-s.i/\((s_1.i:Int)=Int.fdiv (IntKind.wrap .u64 ((s.i:Int)+(s.j:Int))) (2:Int)+1/\(s_1.j:Int)=(s.j:Int)/\True)/\acD x.L) (∃s_1:ZIj,ahO s_1 x/\s_1.j-s_1.i<s.j-s.i/\((s_1.i:Int)=(s.i:Int)/\(s_1.j:Int)=Int.fdiv (IntKind.wrap .u64 ((s.i:Int)+(s.j:Int))) (2:Int)/\True)/\acD x.L)) (cP (decide ((s.i:Int)<((List.length x.L:Nat):Int))) ((0<=(s.i:Int)/\(s.i:Int)<((List.length x.L:Nat):Int))/\0+s.i<List.length x.L/\ ∃y:Unit,True/\(((uD x.L x.s:Nat):Int)=(s.i:Int)/\ @Option.isSome ZLnk (gJ x.L x.s)=BEq.beq (afn (ZLnk.key (List.getD x.L (0+s.i) iO)) x.s) (0:Int)/\True)/\acD x.L) (∃y:Unit,True/\(((uD x.L x.s:Nat):Int)=(s.i:Int)/\ @Option.isSome ZLnk (gJ x.L x.s)=false/\True)/\acD x.L)))/\True
theorem amj(x:ZTq):aqW x=wpF Tryz.prog ato tt (aoy x) 200 6 280 (atp.args x) (hO 1 (atp.os x)) (λv h'=>eF 1 x v h' atp.outs):=by kernel_rfl
theorem atr(a b:ByteArray):afn a b<0↔kl a b=true:=afo a b
theorem amk(a b:ByteArray):(afn a b==0)=decide (a=b):=by
 have h:afn a b=0↔a=b:=by
  unfold afn;rw[gW];rw[(nV a.data.toList b.data.toList).2];exact⟨λe=>ByteArray.ext (Array.toList_inj.1 e),λe=>by rw[e]⟩
 rw[Bool.eq_iff_iff];simp[h]
theorem acE(x:ZTq)(hs:srt x.L)(hn:x.L.length<1099511627776):aqW x:=by
 unfold aqW;simp only[ahO,acD];simp only[aZ,aV,aU,aA,aI,bQ,bF,aO,aK,ay,aX,aW,bU,bG,bH,bI,bV,bC,bJ,bn,eG,aH,aN,ah,ak,aB,aF,aC,aG];have hz: ∀q,x.at_ q=x.L.getD q iO:=λ_=>rfl
 refine⟨⟨⟨0,x.L.length⟩,⟨Nat.zero_le _,aY _,λq h=>absurd h (Nat.not_lt_zero q),λq h h'=>absurd (Nat.lt_of_lt_of_le h' h) (Nat.lt_irrefl _)⟩,rfl,rfl⟩,λs hI=> ?_⟩;obtain⟨h1,h2,h3,h4⟩:=hI;refine bf (λh=> ?_) λh=> ?_
 ·have h:=aS h
  have hw:IntKind.wrap .u64 ((s.i:Int)+(s.j:Int))=(s.i:Int)+(s.j:Int):=jc (by omega) (by omega);rw[hw];have hd:Int.fdiv ((s.i:Int)+(s.j:Int)) 2=(((s.i+s.j)/2:Nat):Int):=by rw[Int.fdiv_eq_ediv_of_nonneg _ (by decide)];omega
  rw[hd];simp only[ay];refine⟨by unfold I64;omega,by omega,by unfold I64;omega,by omega,by omega,bf (λhc=> ?_) λhc=> ?_⟩
  ·have hc:=(atr _ _).1 (aS hc)
   refine⟨by unfold I64;omega,⟨(s.i+s.j)/2+1,s.j⟩,⟨by show(s.i+s.j)/2+1<=s.j;omega,h2,λq hq=> ?_,h4⟩,by show s.j-((s.i+s.j)/2+1)<s.j-s.i;omega,by show(((s.i+s.j)/2+1:Nat):Int)=_;omega,rfl⟩;rcases Nat.lt_or_ge q ((s.i+s.j)/2)with hq'|hq'
   ·rw[hz];exact jA (ahM hs hq' (by omega)) hc
   ·have:q=(s.i+s.j)/2:=by have:q<(s.i+s.j)/2+1:=hq;omega
    subst this;exact hc
  ·have hc:=aT hc
   have hc:kl (x.L.getD ((s.i+s.j)/2) iO).key x.s=false:=by
    cases hk:kl (x.L.getD ((s.i+s.j)/2) iO).key x.s
    ·rfl
    ·exact absurd ((atr _ _).2 hk) hc
   refine⟨⟨s.i,(s.i+s.j)/2⟩,⟨by show s.i<=(s.i+s.j)/2;omega,by show(s.i+s.j)/2<=_;omega,h3,λq hq hq'=> ?_⟩,by show(s.i+s.j)/2-s.i<s.j-s.i;omega,rfl,rfl⟩;have hq:(s.i+s.j)/2<=q:=hq;rcases Nat.lt_or_ge ((s.i+s.j)/2) q with g|g
   ·rw[hz]
    cases hk:kl (x.L.getD q iO).key x.s
    ·rfl
    ·have:=jA (ahM hs g hq') hk
     rw[hc]at this;cases this
   ·have:q=(s.i+s.j)/2:=by omega
    subst this;exact hc
 ·have h:=aT h
  have hij:s.i=s.j:=by omega
  have hp:uD x.L x.s=s.i:=aqV (by omega) h3 λhl=>h4 s.i (by omega) hl
  have ha:=atq hs (s:=x.s) (i:=s.i) (by omega) h3 λq hq=>h4 q (by omega)
  refine bf (λhl=> ?_) λhl=> ?_
  ·have hl:=aS hl
   refine⟨by omega,by omega,by rw[hp],?_⟩;rw[ha];have:s.i<x.L.length:=by omega
   rw[decide_eq_true this,aH];exact(amk _ _).symm
  ·have hl:=aT hl
   refine⟨by rw[hp],?_⟩;rw[ha];rw[decide_eq_false (show¬s.i<x.L.length by omega),Bool.false_and]
theorem att:bZ Tryz.prog 280 atp:=dM dD mixed ami aoy 200 6 (λ_=>rfl) (λ_=>rfl) λx hx=>Eq.mp (amj x) (acE x (aZ.1 hx).1 (aZ.1 hx).2)
noncomputable section
theorem VF:qO Tryz.prog 300 (Extern.SlicesOverlaps.overlaps #[123,123] #[4]):=⟨Tryz.f300,by kernel_rfl,by kernel_rfl,by kernel_rfl,by kernel_rfl,by kernel_rfl⟩
theorem aml: ∀w,(Go.sizeOf 41).run Tryz.prog w= .ok 5 w:=λw=>by rw[Tryz.sizeOf41]
def amm:jd:=[(300,apP)]
theorem Kv:dX Tryz.prog amm:= .Gf (ak6 VF Tryz.underlying123 aml) .nil
structure ZIn where
 n:Nat
 f:Nat->ZLnk
 i:Nat
 l:ZLnk
def insL(f:Nat->ZLnk)(i:Nat)(x:ZLnk)(q:Nat):ZLnk:=bif Nat.blt q i then f q else bif Nat.beq q i then x else f (q-1)
def qX(l:ZLnk):dB:= .cells 41 (.av [.lit (.string l.key),u64 l.id,u64 l.ver,i64 l.line,i64 l.cls])
def zl(n:Nat)(f:Nat->ZLnk):dB:= .room 41 (.row 5 n (λq=>(f q).cs) [])
def ahP(x:ZIn)(c:Nat):Cs:= .row 5 c (λq=>bif Nat.blt q (x.n+1)then(insL x.f x.i x.l q).cs else []) []
def aqX(x:ZIn)(c:Nat):Cs:= .row 5 c (λq=>bif Nat.blt q x.n then(x.f q).cs else []) []
def VG:Ctr:={X:=ZIn×Nat,args:=λx=>[.slE 0 0 5 x.1.n x.2,i64 x.1.i,.sl 1 0 1 1],k:=2,os:=λx=>[.room 41 (aqX x.1 x.2),qX x.1.l],pre:=λx=>Hd (x.1.i<=x.1.n/\x.1.n<=x.2/\x.1.n<=300),outs:=[
 {Y:=Unit,post:=λx _=>Hd (x.1.n+1<=x.2),ret:=λx _=> .slE 0 0 5 (x.1.n+1) x.2,m:=2,os:=λx _=>[.room 41 (ahP x.1 x.2),qX x.1.l]},
 {Y:=Unit,post:=λ_ _=>True,ret:=λx _=> .slW 2 0 5 (x.1.n+1),m:=3,os:=λx _=>[.room 41 (aqX x.1 x.2),qX x.1.l,zl (x.1.n+1) (insL x.1.f x.1.i x.1.l)]}]}
def insLC:Ctr:=det ZIn (λx=>[.slW 0 0 5 x.n,i64 x.i,.sl 1 0 1 1]) 2 (λx=>[zl x.n x.f,qX x.l]) (λx=>Hd (x.i<=x.n/\x.n<=300)) (λx=> .slW 2 0 5 (x.n+1)) 3 (λx=>[.abs Bq,qX x.l,zl (x.n+1) (insL x.f x.i x.l)])
end
def EF(a:ZIn×Nat):Prop:=a.1.l.key=a.1.l.key/\a.1.l.id=a.1.l.id/\a.1.l.ver=a.1.l.ver/\a.1.l.line=a.1.l.line/\a.1.l.cls=a.1.l.cls/\True
def ahQ(a:ZIn×Nat)(b:Nat):Prop:=(Nat.beq (List.length (Cs.eff (λ(q:Nat)=>cond (Nat.blt q a.1.n) (ZLnk.cs (a.1.f q)) (@List.nil Value)) [] (0+a.1.i+b))) 5&&List.all (Cs.eff (λ(q:Nat)=>cond (Nat.blt q a.1.n) (ZLnk.cs (a.1.f q)) (@List.nil Value)) [] (0+a.1.i+b)) Value.oneCell')=true
def ahR(a:ZIn×Nat):Prop:=List.all [List.take 5 [Value.string a.1.l.key,Value.int .u64 a.1.l.id,Value.int .u64 a.1.l.ver,Value.int .i64 a.1.l.line,Value.int .i64 a.1.l.cls]] (λ(l:List Value)=>Nat.beq (List.length l) 5&&List.all l Value.oneCell')=true
def amn(a:ZIn×Nat):Prop:=a.2=a.2/\ ∀q:Nat,q<a.2->Cs.eff (λ(q_1:Nat)=>cond (Nat.blt q_1 a.1.n) (ZLnk.cs (a.1.f q_1)) (@List.nil Value)) [] q=Cs.eff (λ(q_1:Nat)=>cond (Nat.blt q_1 a.1.n) (ZLnk.cs (a.1.f q_1)) (@List.nil Value)) [] q
def ahS(a:ZIn×Nat):Prop:=a.1.i-0+Int.toNat ((a.1.n:Int)+1-(a.1.i:Int))<=a.1.i-0+Int.toNat ((a.1.n:Int)+1-(a.1.i:Int))
def aac(a:ZIn×Nat):Prop:=Int.toNat ((a.1.n:Int)+1)-0<=a.2-0/\a.2-0<=a.2-0
def ahT(a:ZIn×Nat):Prop:=ahS a/\ahS a
def aad(a:ZIn×Nat):Prop:=a.1.i<=Int.toNat ((a.1.n:Int)+1)-0/\aac a
def QT(a:ZIn×Nat):Prop:=a.1.n+1=a.1.i-0+Int.toNat ((a.1.n:Int)+1-(a.1.i:Int))
def aae(a:ZIn×Nat):Prop:= ∃y:Unit,Hd (a.1.n+1<=a.2)/\False/\(a.2=a.2/\ ∀q:Nat,q<a.2->Cs.eff (λ(q_1:Nat)=>cond (Nat.blt q_1 (a.1.n+1)) (ZLnk.cs (insL a.1.f a.1.i a.1.l q_1)) (@List.nil Value)) [] q=Cs.eff (λ(q_1:Nat)=>cond (Nat.blt q_1 a.1.n) (ZLnk.cs (a.1.f q_1)) (@List.nil Value)) [] q)/\EF a/\True
def aaf(a:ZIn×Nat):Prop:=0+a.1.i+(Int.toNat ((a.1.n:Int)+1)-0-a.1.i)<=a.2
def VH(x:ZIn×Nat):Prop:=
 0<=(x.1.i:Int)/\(x.1.i<=x.1.n/\x.1.n<=x.2/\x.2<=x.2)/\cP (BEq.beq (x.1.i:Int) (x.1.n:Int)) (0+x.1.n<=x.2/\cP (Nat.ble (x.1.n+1) x.2) (ahR x/\0+(x.1.n+1)<=x.2/\((∃y:Unit,Hd (x.1.n+1<=x.2)/\(0=0/\x.1.n+1=x.1.n+1/\x.2=x.2)/\(x.2=x.2/\ ∀q:Nat,q<x.2->Cs.eff (λ(q_1:Nat)=>cond (Nat.blt q_1 (x.1.n+1)) (ZLnk.cs (insL x.1.f x.1.i x.1.l q_1)) (@List.nil Value)) [] q=Cs.eff (λ(q_1:Nat)=>cond (Nat.blt q_1 x.1.n) (ZLnk.cs (x.1.f q_1)) (@List.nil Value)) [(0+x.1.n,List.take 5 [Value.string x.1.l.key,Value.int .u64 x.1.l.id,Value.int .u64 x.1.l.ver,Value.int .i64 x.1.l.line,Value.int .i64 x.1.l.cls])] q)/\EF x/\True)\/ ∃y:Unit,True/\False/\(x.2=x.2/\ ∀q:Nat,q<x.2->Cs.eff (λ(q_1:Nat)=>cond (Nat.blt q_1 x.1.n) (ZLnk.cs (x.1.f q_1)) (@List.nil Value)) [] q=Cs.eff (λ(q_1:Nat)=>cond (Nat.blt q_1 x.1.n) (ZLnk.cs (x.1.f q_1)) (@List.nil Value)) [(0+x.1.n,List.take 5 [Value.string x.1.l.key,Value.int .u64 x.1.l.id,Value.int .u64 x.1.l.ver,Value.int .i64 x.1.l.line,Value.int .i64 x.1.l.cls])] q)/\EF x/\False/\True)) ((2*(x.1.n+1)+1000)*48<=281474976710656/\(aae x\/ ∃y:Unit,True/\(0=0/\x.1.n+1=x.1.n+1)/\amn x/\EF x/\(x.1.n+1=x.1.n+List.length [List.take 5 [Value.string x.1.l.key,Value.int .u64 x.1.l.id,Value.int .u64 x.1.l.ver,Value.int .i64 x.1.l.line,Value.int .i64 x.1.l.cls]]/\
 ∀q:Nat,q<x.1.n+1->[Value.string (ZLnk.key (insL x.1.f x.1.i x.1.l q)),Value.int .u64 (ZLnk.id (insL x.1.f x.1.i x.1.l q)),Value.int .u64 (ZLnk.ver (insL x.1.f x.1.i x.1.l q)),Value.int .i64 (ZLnk.line (insL x.1.f x.1.i x.1.l q)),Value.int .i64 (ZLnk.cls (insL x.1.f x.1.i x.1.l q))]=Cs.eff (λ(k:Nat)=>Cs.eff (λ(q_1:Nat)=>cond (Nat.blt q_1 x.1.n) (ZLnk.cs (x.1.f q_1)) (@List.nil Value)) [] (0+k)) [(x.1.n,List.take 5 [Value.string x.1.l.key,Value.int .u64 x.1.l.id,Value.int .u64 x.1.l.ver,Value.int .i64 x.1.l.line,Value.int .i64 x.1.l.cls])] q)/\True))) (I64 ((x.1.n:Int)+1)/\cP (decide ((x.1.n:Int)+1>(x.2:Int))) (0<=(x.1.i:Int)/\(0<=x.1.i/\x.1.i<=x.2/\x.2<=x.2)/\I64 ((x.1.n:Int)+1)/\I64 ((x.1.n:Int)+1-(x.1.i:Int))/\0+(x.1.i-0)<=x.2/\0<=(x.1.n:Int)+1-(x.1.i:Int)/\x.2-0<x.1.i-0+Int.toNat ((x.1.n:Int)+1-(x.1.i:Int))/\(2*(x.1.i-0+Int.toNat ((x.1.n:Int)+1-(x.1.i:Int)))+1000)*48<=281474976710656/\0<=(x.1.i:Int)/\(x.1.i<=x.1.i-0+Int.toNat ((x.1.n:Int)+1-(x.1.i:Int))/\ahT x)/\0+x.1.i+(x.1.i-0+Int.toNat ((x.1.n:Int)+1-(x.1.i:Int))-x.1.i)<=x.1.i-0+Int.toNat ((x.1.n:Int)+1-(x.1.i:Int))/\1<=x.1.i-0+Int.toNat ((x.1.n:Int)+1-(x.1.i:Int))-x.1.i/\ahR x/\I64 ((x.1.i:Int)+1)/\0<=(x.1.i:Int)+1/\(Int.toNat ((x.1.i:Int)+1)<=x.1.i-0+Int.toNat ((x.1.n:Int)+1-(x.1.i:Int))/\ahT x)/\0<=(x.1.i:Int)/\(x.1.i<=x.1.n/\x.1.n<=x.2/\x.2<=x.2)/\0+Int.toNat ((x.1.i:Int)+1)+(x.1.i-0+Int.toNat ((x.1.n:Int)+1-(x.1.i:Int))-Int.toNat ((x.1.i:Int)+1))<=x.1.i-0+Int.toNat ((x.1.n:Int)+1-(x.1.i:Int))/\
 cP (Nat.ble (x.1.n-x.1.i) (x.1.i-0+Int.toNat ((x.1.n:Int)+1-(x.1.i:Int))-Int.toNat ((x.1.i:Int)+1))) (0+x.1.i+(x.1.n-x.1.i)<=x.2/\(∀k:Nat,k<x.1.n-x.1.i->ahQ x k)/\True/\(aae x\/ ∃y:Unit,True/\(0=0/\QT x)/\amn x/\EF x/\(QT x/\ ∀q:Nat,q<x.1.n+1->[Value.string (ZLnk.key (insL x.1.f x.1.i x.1.l q)),Value.int .u64 (ZLnk.id (insL x.1.f x.1.i x.1.l q)),Value.int .u64 (ZLnk.ver (insL x.1.f x.1.i x.1.l q)),Value.int .i64 (ZLnk.line (insL x.1.f x.1.i x.1.l q)),Value.int .i64 (ZLnk.cls (insL x.1.f x.1.i x.1.l q))]=Cs.eff (λ(p:Nat)=>cond (Nat.ble (0+Int.toNat ((x.1.i:Int)+1)) p&&Nat.blt p (0+Int.toNat ((x.1.i:Int)+1)+(x.1.n-x.1.i))) (Cs.eff (λ(q_1:Nat)=>cond (Nat.blt q_1 x.1.n) (ZLnk.cs (x.1.f q_1)) (@List.nil Value)) [] (0+x.1.i+(p-(0+Int.toNat ((x.1.i:Int)+1))))) (Cs.eff (λ(q_1:Nat)=>cond (Nat.blt q_1 (x.1.i-0)) (Cs.eff (λ(k:Nat)=>Cs.eff (λ(q_2:Nat)=>cond (Nat.blt q_2 x.1.n) (ZLnk.cs (x.1.f q_2)) (@List.nil Value)) [] (0+k)) [] q_1) [Value.string (ByteArray.mk #[]),Value.int .u64 0,Value.int .u64 0,Value.int .i64 0,Value.int .i64 0]) [(0+x.1.i,List.take 5 [Value.string x.1.l.key,Value.int .u64 x.1.l.id,Value.int .u64 x.1.l.ver,Value.int .i64 x.1.l.line,Value.int .i64 x.1.l.cls])] p)) [] q)/\True)) (0+x.1.i+(x.1.i-0+Int.toNat ((x.1.n:Int)+1-(x.1.i:Int))-Int.toNat ((x.1.i:Int)+1))<=x.2/\(∀k:Nat,k<x.1.i-0+Int.toNat ((x.1.n:Int)+1-(x.1.i:Int))-Int.toNat ((x.1.i:Int)+1)->ahQ x k)/\True/\(aae x\/ ∃y:Unit,True/\(0=0/\QT x)/\amn x/\EF x/\(QT x/\
 ∀q:Nat,q<x.1.n+1->[Value.string (ZLnk.key (insL x.1.f x.1.i x.1.l q)),Value.int .u64 (ZLnk.id (insL x.1.f x.1.i x.1.l q)),Value.int .u64 (ZLnk.ver (insL x.1.f x.1.i x.1.l q)),Value.int .i64 (ZLnk.line (insL x.1.f x.1.i x.1.l q)),Value.int .i64 (ZLnk.cls (insL x.1.f x.1.i x.1.l q))]=Cs.eff (λ(p:Nat)=>cond (Nat.ble (0+Int.toNat ((x.1.i:Int)+1)) p&&Nat.blt p (0+Int.toNat ((x.1.i:Int)+1)+(x.1.i-0+Int.toNat ((x.1.n:Int)+1-(x.1.i:Int))-Int.toNat ((x.1.i:Int)+1)))) (Cs.eff (λ(q_1:Nat)=>cond (Nat.blt q_1 x.1.n) (ZLnk.cs (x.1.f q_1)) (@List.nil Value)) [] (0+x.1.i+(p-(0+Int.toNat ((x.1.i:Int)+1))))) (Cs.eff (λ(q_1:Nat)=>cond (Nat.blt q_1 (x.1.i-0)) (Cs.eff (λ(k:Nat)=>Cs.eff (λ(q_2:Nat)=>cond (Nat.blt q_2 x.1.n) (ZLnk.cs (x.1.f q_2)) (@List.nil Value)) [] (0+k)) [] q_1) [Value.string (ByteArray.mk #[]),Value.int .u64 0,Value.int .u64 0,Value.int .i64 0,Value.int .i64 0]) [(0+x.1.i,List.take 5 [Value.string x.1.l.key,Value.int .u64 x.1.l.id,Value.int .u64 x.1.l.ver,Value.int .i64 x.1.l.line,Value.int .i64 x.1.l.cls])] p)) [] q)/\True))) (I64 ((x.1.n:Int)+1)/\0<=(x.1.n:Int)+1/\(0<=Int.toNat ((x.1.n:Int)+1)/\Int.toNat ((x.1.n:Int)+1)<=x.2/\x.2<=x.2)/\I64 ((x.1.i:Int)+1)/\0<=(x.1.i:Int)+1/\(Int.toNat ((x.1.i:Int)+1)<=Int.toNat ((x.1.n:Int)+1)-0/\aac x)/\0<x.2*5/\I64 ((x.1.i:Int)+1)/\0<=(x.1.i:Int)+1/\(Int.toNat ((x.1.i:Int)+1)<=Int.toNat ((x.1.n:Int)+1)-0/\aac x)/\0<=(x.1.i:Int)/\aad x/\0+Int.toNat ((x.1.i:Int)+1)+(Int.toNat ((x.1.n:Int)+1)-0-Int.toNat ((x.1.i:Int)+1))<=x.2/\
 cP (Nat.ble (Int.toNat ((x.1.n:Int)+1)-0-x.1.i) (Int.toNat ((x.1.n:Int)+1)-0-Int.toNat ((x.1.i:Int)+1))) (aaf x/\(∀k:Nat,k<Int.toNat ((x.1.n:Int)+1)-0-x.1.i->ahQ x k)/\True/\0<=(x.1.i:Int)/\aad x/\aaf x/\1<=Int.toNat ((x.1.n:Int)+1)-0-x.1.i/\ahR x/\((∃y:Unit,Hd (x.1.n+1<=x.2)/\(0=0/\x.1.n+1=Int.toNat ((x.1.n:Int)+1)-0/\x.2=x.2-0)/\(x.2=x.2/\ ∀q:Nat,q<x.2->Cs.eff (λ(q_1:Nat)=>cond (Nat.blt q_1 (x.1.n+1)) (ZLnk.cs (insL x.1.f x.1.i x.1.l q_1)) (@List.nil Value)) [] q=Cs.eff (λ(p:Nat)=>cond (Nat.ble (0+Int.toNat ((x.1.i:Int)+1)) p&&Nat.blt p (0+Int.toNat ((x.1.i:Int)+1)+(Int.toNat ((x.1.n:Int)+1)-0-x.1.i))) (Cs.eff (λ(q_1:Nat)=>cond (Nat.blt q_1 x.1.n) (ZLnk.cs (x.1.f q_1)) (@List.nil Value)) [] (0+x.1.i+(p-(0+Int.toNat ((x.1.i:Int)+1))))) (Cs.eff (λ(q_1:Nat)=>cond (Nat.blt q_1 x.1.n) (ZLnk.cs (x.1.f q_1)) (@List.nil Value)) [] p)) [(0+x.1.i,List.take 5 [Value.string x.1.l.key,Value.int .u64 x.1.l.id,Value.int .u64 x.1.l.ver,Value.int .i64 x.1.l.line,Value.int .i64 x.1.l.cls])] q)/\EF x/\True)\/ ∃y:Unit,True/\False/\(x.2=x.2/\
 ∀q:Nat,q<x.2->Cs.eff (λ(q_1:Nat)=>cond (Nat.blt q_1 x.1.n) (ZLnk.cs (x.1.f q_1)) (@List.nil Value)) [] q=Cs.eff (λ(p:Nat)=>cond (Nat.ble (0+Int.toNat ((x.1.i:Int)+1)) p&&Nat.blt p (0+Int.toNat ((x.1.i:Int)+1)+(Int.toNat ((x.1.n:Int)+1)-0-x.1.i))) (Cs.eff (λ(q_1:Nat)=>cond (Nat.blt q_1 x.1.n) (ZLnk.cs (x.1.f q_1)) (@List.nil Value)) [] (0+x.1.i+(p-(0+Int.toNat ((x.1.i:Int)+1))))) (Cs.eff (λ(q_1:Nat)=>cond (Nat.blt q_1 x.1.n) (ZLnk.cs (x.1.f q_1)) (@List.nil Value)) [] p)) [(0+x.1.i,List.take 5 [Value.string x.1.l.key,Value.int .u64 x.1.l.id,Value.int .u64 x.1.l.ver,Value.int .i64 x.1.l.line,Value.int .i64 x.1.l.cls])] q)/\EF x/\False/\True)) (0+x.1.i+(Int.toNat ((x.1.n:Int)+1)-0-Int.toNat ((x.1.i:Int)+1))<=x.2/\(∀k:Nat,k<Int.toNat ((x.1.n:Int)+1)-0-Int.toNat ((x.1.i:Int)+1)->ahQ x k)/\True/\0<=(x.1.i:Int)/\aad x/\aaf x/\1<=Int.toNat ((x.1.n:Int)+1)-0-x.1.i/\ahR x/\((∃y:Unit,Hd (x.1.n+1<=x.2)/\(0=0/\x.1.n+1=Int.toNat ((x.1.n:Int)+1)-0/\x.2=x.2-0)/\(x.2=x.2/\
 ∀q:Nat,q<x.2->Cs.eff (λ(q_1:Nat)=>cond (Nat.blt q_1 (x.1.n+1)) (ZLnk.cs (insL x.1.f x.1.i x.1.l q_1)) (@List.nil Value)) [] q=Cs.eff (λ(p:Nat)=>cond (Nat.ble (0+Int.toNat ((x.1.i:Int)+1)) p&&Nat.blt p (0+Int.toNat ((x.1.i:Int)+1)+(Int.toNat ((x.1.n:Int)+1)-0-Int.toNat ((x.1.i:Int)+1)))) (Cs.eff (λ(q_1:Nat)=>cond (Nat.blt q_1 x.1.n) (ZLnk.cs (x.1.f q_1)) (@List.nil Value)) [] (0+x.1.i+(p-(0+Int.toNat ((x.1.i:Int)+1))))) (Cs.eff (λ(q_1:Nat)=>cond (Nat.blt q_1 x.1.n) (ZLnk.cs (x.1.f q_1)) (@List.nil Value)) [] p)) [(0+x.1.i,List.take 5 [Value.string x.1.l.key,Value.int .u64 x.1.l.id,Value.int .u64 x.1.l.ver,Value.int .i64 x.1.l.line,Value.int .i64 x.1.l.cls])] q)/\EF x/\True)\/ ∃y:Unit,True/\False/\(x.2=x.2/\ ∀q:Nat,q<x.2->Cs.eff (λ(q_1:Nat)=>cond (Nat.blt q_1 x.1.n) (ZLnk.cs (x.1.f q_1)) (@List.nil Value)) [] q=Cs.eff (λ(p:Nat)=>cond (Nat.ble (0+Int.toNat ((x.1.i:Int)+1)) p&&Nat.blt p (0+Int.toNat ((x.1.i:Int)+1)+(Int.toNat ((x.1.n:Int)+1)-0-Int.toNat ((x.1.i:Int)+1)))) (Cs.eff (λ(q_1:Nat)=>cond (Nat.blt q_1 x.1.n) (ZLnk.cs (x.1.f q_1)) (@List.nil Value)) [] (0+x.1.i+(p-(0+Int.toNat ((x.1.i:Int)+1))))) (Cs.eff (λ(q_1:Nat)=>cond (Nat.blt q_1 x.1.n) (ZLnk.cs (x.1.f q_1)) (@List.nil Value)) [] p)) [(0+x.1.i,List.take 5 [Value.string x.1.l.key,Value.int .u64 x.1.l.id,Value.int .u64 x.1.l.ver,Value.int .i64 x.1.l.line,Value.int .i64 x.1.l.cls])] q)/\EF x/\False/\True))))
theorem acF(x:ZIn×Nat):VH x=wpF Tryz.prog amm tt (noA x) 200 6 281 (VG.args x) (hO VG.k (VG.os x)) (λv h'=>eF VG.k x v h' VG.outs):=by kernel_rfl
theorem ahU(l:ZLnk):(@List.all (List Value) [List.take 5 [Value.string l.key,Value.int .u64 l.id,Value.int .u64 l.ver,Value.int .i64 l.line,Value.int .i64 l.cls]] (λl=>Nat.beq l.length 5&&List.all l Value.oneCell'))=true:=rfl
theorem jf{a b:Nat}(h: ¬a<b):Nat.blt a b=false:=by
 cases hb:Nat.blt a b
 ·rfl
 ·exact absurd (bg.1 hb) h
theorem Iu{a b:Nat}(h: ¬a<=b):Nat.ble a b=false:=by
 cases hb:Nat.ble a b
 ·rfl
 ·exact absurd (Nat.le_of_ble_eq_true hb) h
theorem zn{f:Nat->ZLnk}{i q:Nat}{x:ZLnk}(h:q<i):insL f i x q=f q:=by unfold insL;rw[bg.2 h];rfl
theorem qY{f:Nat->ZLnk}{i:Nat}{x:ZLnk}:insL f i x i=x:=by unfold insL;rw[jf (Nat.lt_irrefl i)];simp
theorem EG{f:Nat->ZLnk}{i q:Nat}{x:ZLnk}(h:i<q):insL f i x q=f (q-1):=by unfold insL;rw[jf (by omega),eU (by omega)];rfl
theorem QU(x:ZIn×Nat)(hx:x.1.i<=x.1.n/\x.1.n<=x.2/\x.1.n<=300):VH x:=by
 obtain⟨⟨n,f,i,l⟩,c⟩:=x;obtain⟨h1,h2,h3⟩:=hx;dsimp only at h1 h2 h3;unfold VH;simp only[ahR,EF,aae,amn,ahT,ahQ,QT,aac,aad,aaf,ahS];have e1:(((n:Nat):Int)+1-(i:Int)).toNat=n+1-i:=by omega
 have e2:((i:Int)+1).toNat=i+1:=by omega
 have e3:((n:Int)+1).toNat=n+1:=by omega
 have e4:i+(n+1-i)=n+1:=by omega
 simp only[aZ,aV,aU,aA,aI,bQ,bF,aO,aK,ay,aX,aW,aN,e1,e2,e3,e4,ahU];have hb: ∀a b:Nat,a<=b->Nat.ble a b=true:=λa b h=>by simpa using h
 simp only[Cs.eff];refine⟨by omega,⟨by omega,by omega,by omega⟩,bf (λhi=> ?_) (λhi=> ?_)⟩
 ·have hi:i=n:=by have:=eq_of_beq hi;omega
  subst hi;have row: ∀q,q<i+1->(insL f i l q).cs=(bif Nat.beq q i then l.cs else(bif Nat.blt q i then(f q).cs else [])):=λq hq=>by
   by_cases h:q=i
   ·subst h;simp[qY]
   ·rw[eU h,bg.2 (show q<i by omega),zn (by omega)];rfl
  refine⟨by omega,bf (λhc=> ?_) (λhc=> ?_)⟩
  ·have hc:i+1<=c:=by simpa using hc
   refine⟨by omega,.inl ⟨hc,λq hq=> ?_⟩⟩;by_cases h:q<i+1
   ·rw[bg.2 h,aP];exact row q h
   ·rw[jf h,jf (show¬q<i by omega),eU (by omega)];rfl
  ·exact⟨by omega,.inr ⟨by simp,λq hq=>row q hq⟩⟩
 ·have hi:i<n:=by
   rcases Nat.lt_or_ge i n with h|h
   ·exact h
   ·have:i=n:=by omega
    subst this;simp at hi
  have old: ∀k,k<n-i->(Nat.beq (bif Nat.blt (i+k) n then(f (i+k)).cs else []).length 5&&(bif Nat.blt (i+k) n then(f (i+k)).cs else []).all Value.oneCell')=true:=λk hk=>by
   rw[bg.2 (show i+k<n by omega)];rfl
  refine⟨by unfold I64;omega,bf (λhc=> ?_) (λhc=> ?_)⟩
  ·have hc:=aS hc
   refine⟨by omega,⟨by omega,by omega,by omega⟩,by unfold I64;omega,by unfold I64;omega,by omega,by omega,by omega,by omega,by omega,⟨by omega,by omega⟩,by omega,by omega,by unfold I64;omega,by omega,⟨by omega,by omega⟩,by omega,⟨by omega,by omega,by omega⟩,by omega,?_⟩;have fin: ∀N,N=n-i-> ∀q,q<n+1->(insL f i l q).cs=(bif Nat.ble (i+1) q&&Nat.blt q (i+1+N)then(bif Nat.blt (i+(q-(i+1))) n then(f (i+(q-(i+1)))).cs else [])else(bif Nat.beq q i then l.cs else(bif Nat.blt q i then(bif Nat.blt q n then(f q).cs else [])else iO.cs))):=by
    rintro N rfl q hq
    by_cases h1:q<i
    ·rw[Iu (show¬i+1<=q by omega),eU (show q≠i by omega),bg.2 h1,bg.2 (show q<n by omega),zn h1];rfl
    ·by_cases h2:q=i
     ·subst h2
      rw[Iu (show¬q+1<=q by omega),qY];simp
     ·rw[hb _ _ (show i+1<=q by omega),bg.2 (show q<i+1+(n-i) by omega),bg.2 (show i+(q-(i+1))<n by omega),EG (by omega),show i+(q-(i+1))=q-1 by omega];rfl
   refine bf (λhb2=>⟨by omega,old,.inr (λq hq=>fin _ rfl q hq)⟩) (λhb2=> ?_);exact absurd (Nat.ble_eq_true_of_le (show n-i<=n+1-(i+1) by omega)) (by rw[hb2];decide)
  ·have hc:=aT hc
   have en:n+1-(i+1)=n-i:=by omega
   rw[en];refine⟨by unfold I64;omega,by omega,⟨by omega,by omega,by omega⟩,by unfold I64;omega,by omega,⟨by omega,by omega,by omega⟩,by omega,by unfold I64;omega,by omega,⟨by omega,by omega,by omega⟩,by omega,⟨by omega,by omega,by omega⟩,by omega,bf (λhb2=> ?_) (λ_=>⟨by omega,old,by omega,⟨by omega,by omega,by omega⟩,by omega,by omega,.inl ⟨by omega,λq hq=> ?_⟩⟩)⟩
   ·have:=Nat.le_of_ble_eq_true hb2;omega
   ·by_cases h0:q<n+1
    ·rw[bg.2 h0,aP]
     by_cases h1:q<i
     ·rw[Iu (show¬i+1<=q by omega),eU (show q≠i by omega),bg.2 (show q<n by omega),zn h1];rfl
     ·by_cases h2:q=i
      ·subst h2
       rw[qY];simp[ZLnk.cs]
      ·rw[eU h2,hb _ _ (show i+1<=q by omega),bg.2 (show q<i+1+(n-i) by omega),bg.2 (show i+(q-(i+1))<n by omega),EG (by omega),show i+(q-(i+1))=q-1 by omega];rfl
    ·rw[jf h0,eU (show q≠i by omega),jf (show¬q<i+1+(n-i) by omega),jf (show¬q<n by omega)];simp
theorem amo:bZ Tryz.prog 281 VG:=iZ dD mixed Kv (C:=VG) noA 200 6 (λ_=>rfl) (λ_=>⟨λ_=>rfl,λ_=>rfl,trivial⟩) λx hx=>Eq.mp (acF x) (QU x (aZ.1 hx))
theorem acG(x:ZIn)(c:Nat): ∀q,q<x.n+1->(bif Nat.blt q (x.n+1)then(insL x.f x.i x.l q).cs else [])=(insL x.f x.i x.l q).cs:=λq hq=>by rw[bg.2 hq];rfl
theorem aqY:bZ Tryz.prog 281 insLC:=λx hx=>⟨rfl,by
 have hx:=aZ.1 hx;refine Au (O6 (k:=2) (e:=41) (g:=λk=>(x.f k).cs) (wr:=[]) (os:=[qX x.l]) rfl λc hc=> ?_);refine((amo (x,c) (aZ.2 ⟨hx.1,hc,hx.2⟩)).2).mono λv h' hh=> ?_
 refine⟨.slW 2 0 5 (x.n+1),hO 3 [.abs Bq,qX x.l,zl (x.n+1) (insL x.f x.i x.l)],?_,by with_unfolding_all exact Or.inl ⟨(),trivial,rfl,rfl⟩⟩;have hh:(∃y:Unit,Hd (x.n+1<=c)/\v= .slE 0 0 5 (x.n+1) c/\h'=hO 2 [.room 41 (ahP x c),qX x.l])\/(∃y:Unit,True/\v= .slW 2 0 5 (x.n+1)/\h'=hO 3 [.room 41 (aqX x c),qX x.l,zl (x.n+1) (insL x.f x.i x.l)])\/False:=by
  with_unfolding_all exact hh
 rcases hh with ⟨_,h1,rfl,rfl⟩|⟨_,_,rfl,rfl⟩|hh
 ·refine(O5 (k:=2) (rest:=[qX x.l]) rfl (aZ.1 h1)).trans ?_
  refine tZ (m:=3) rfl rfl (by decide) λi o o' hi hi'=> ?_
  match i,hi,hi' with
  |0,hi,hi'=>cases hi;cases hi';exactλ_ _ _ _ _ h=>h
  |1,hi,hi'=>cases hi;cases hi';exactλ_ _ _ _ _ h=>h
  |2,hi,hi'=>cases hi;cases hi';exact DN (acG x c)
 ·exact ak8 (m:=3) rfl (show(2:Nat)<=3 by decide)
 ·exact hh.elim⟩
noncomputable section
structure ZDl where
 n:Nat
 f:Nat->ZLnk
 i:Nat
def Iw(f:Nat->ZLnk)(i:Nat)(q:Nat):ZLnk:=bif Nat.blt q i then f q else f (q+1)
def openD(x:ZDl)(c:Nat):Cs:= .row 5 c (λq=>bif Nat.blt q x.n then(x.f q).cs else []) []
def cutD(x:ZDl)(c:Nat):Cs:= .row 5 c (λq=>bif Nat.blt q (x.n-1)then(Iw x.f x.i q).cs else bif Nat.blt q x.n then iO.cs else []) []
def acH:Ctr:=det (ZDl×Nat) (λx=>[.slE 0 0 5 x.1.n x.2,i64 x.1.i,i64 ((x.1.i:Int)+1)]) 1 (λx=>[.room 41 (openD x.1 x.2)]) (λx=>Hd (x.1.i<x.1.n/\x.1.n<=x.2/\x.1.n<=300)) (λx=> .slE 0 0 5 (x.1.n-1) x.2) 1 (λx=>[.room 41 (cutD x.1 x.2)])
def delLC:Ctr:=det ZDl (λx=>[.slW 0 0 5 x.n,i64 x.i,i64 ((x.i:Int)+1)]) 1 (λx=>[zl x.n x.f]) (λx=>Hd (x.i<x.n/\x.n<=300)) (λx=> .slW 1 0 5 (x.n-1)) 2 (λx=>[.abs Bq,zl (x.n-1) (Iw x.f x.i)])
end
def aqZ(a:ZDl×Nat):Prop:=(a.2=a.2/\ ∀q:Nat,q<a.2->Cs.eff (λ(q_1:Nat)=>cond (Nat.blt q_1 (a.1.n-1)) (ZLnk.cs (Iw a.1.f a.1.i q_1)) (cond (Nat.blt q_1 a.1.n) iO.cs (@List.nil Value))) [] q=Cs.eff (λ(q_1:Nat)=>cond (Nat.blt q_1 a.1.n) (ZLnk.cs (a.1.f q_1)) (@List.nil Value)) [] q)/\True
def VI(x:ZDl×Nat):Prop:=
 0<=(x.1.n:Int)/\0<=(x.1.i:Int)+1/\0<=(x.1.i:Int)/\(x.1.i<=Int.toNat ((x.1.i:Int)+1)/\Int.toNat ((x.1.i:Int)+1)<=x.1.n/\x.1.n<=x.2)/\cP (BEq.beq (x.1.i:Int) ((x.1.i:Int)+1)) (∃y:Unit,True/\(0=0/\x.1.n-1=x.1.n/\x.2=x.2)/\aqZ x) (0<=(x.1.i:Int)/\(0<=x.1.i/\x.1.i<=x.2/\x.2<=x.2)/\0<=(x.1.i:Int)+1/\(Int.toNat ((x.1.i:Int)+1)<=x.1.n/\x.1.n<=x.2/\x.2<=x.2)/\0+(x.1.i-0)<=x.2/\0+Int.toNat ((x.1.i:Int)+1)+(x.1.n-Int.toNat ((x.1.i:Int)+1))<=x.2/\cP (Nat.beq (x.1.n-Int.toNat ((x.1.i:Int)+1)) 0) (True/\True/\0<=(x.1.n:Int)/\0<=((x.1.i-0:Nat):Int)/\(x.1.i-0<=x.1.n/\x.1.n<=x.2-0/\x.2-0<=x.2-0)/\0+(x.1.i-0)+(x.1.n-(x.1.i-0))<=x.2/\ ∃y:Unit,True/\(0=0/\x.1.n-1=x.1.i-0/\x.2=x.2-0)/\(x.2=x.2/\ ∀q:Nat,q<x.2->Cs.eff (λ(q_1:Nat)=>cond (Nat.blt q_1 (x.1.n-1)) (ZLnk.cs (Iw x.1.f x.1.i q_1)) (cond (Nat.blt q_1 x.1.n) iO.cs (@List.nil Value))) [] q=Cs.eff (λ(p:Nat)=>cond (Nat.ble (0+(x.1.i-0)) p&&Nat.blt p (0+(x.1.i-0)+(x.1.n-(x.1.i-0)))) [Value.string (ByteArray.mk #[]),Value.int .u64 0,Value.int .u64 0,Value.int .i64 0,Value.int .i64 0] (Cs.eff (λ(q_1:Nat)=>cond (Nat.blt q_1 x.1.n) (ZLnk.cs (x.1.f q_1)) (@List.nil Value)) [] p)) [] q)/\
 True) (cP (Nat.ble (x.1.i-0+(x.1.n-Int.toNat ((x.1.i:Int)+1))) (x.2-0)) ((∀k:Nat,k<x.1.n-Int.toNat ((x.1.i:Int)+1)->(Nat.beq (List.length (Cs.eff (λ(q:Nat)=>cond (Nat.blt q x.1.n) (ZLnk.cs (x.1.f q)) (@List.nil Value)) [] (0+Int.toNat ((x.1.i:Int)+1)+k))) 5&&List.all (Cs.eff (λ(q:Nat)=>cond (Nat.blt q x.1.n) (ZLnk.cs (x.1.f q)) (@List.nil Value)) [] (0+Int.toNat ((x.1.i:Int)+1)+k)) Value.oneCell')=true)/\0+(x.1.i-0+(x.1.n-Int.toNat ((x.1.i:Int)+1)))<=x.2/\True/\True/\0<=(x.1.n:Int)/\0<=((x.1.i-0+(x.1.n-Int.toNat ((x.1.i:Int)+1)):Nat):Int)/\(x.1.i-0+(x.1.n-Int.toNat ((x.1.i:Int)+1))<=x.1.n/\x.1.n<=x.2-0/\x.2-0<=x.2-0)/\0+(x.1.i-0+(x.1.n-Int.toNat ((x.1.i:Int)+1)))+(x.1.n-(x.1.i-0+(x.1.n-Int.toNat ((x.1.i:Int)+1))))<=x.2/\ ∃y:Unit,True/\(0=0/\x.1.n-1=x.1.i-0+(x.1.n-Int.toNat ((x.1.i:Int)+1))/\x.2=x.2-0)/\(x.2=x.2/\
 ∀q:Nat,q<x.2->Cs.eff (λ(q_1:Nat)=>cond (Nat.blt q_1 (x.1.n-1)) (ZLnk.cs (Iw x.1.f x.1.i q_1)) (cond (Nat.blt q_1 x.1.n) iO.cs (@List.nil Value))) [] q=Cs.eff (λ(p:Nat)=>cond (Nat.ble (0+(x.1.i-0+(x.1.n-Int.toNat ((x.1.i:Int)+1)))) p&&Nat.blt p (0+(x.1.i-0+(x.1.n-Int.toNat ((x.1.i:Int)+1)))+(x.1.n-(x.1.i-0+(x.1.n-Int.toNat ((x.1.i:Int)+1)))))) [Value.string (ByteArray.mk #[]),Value.int .u64 0,Value.int .u64 0,Value.int .i64 0,Value.int .i64 0] (Cs.eff (λ(p_1:Nat)=>cond (Nat.ble (0+(x.1.i-0)) p_1&&Nat.blt p_1 (0+(x.1.i-0)+(x.1.n-Int.toNat ((x.1.i:Int)+1)))) (Cs.eff (λ(q_1:Nat)=>cond (Nat.blt q_1 x.1.n) (ZLnk.cs (x.1.f q_1)) (@List.nil Value)) [] (0+Int.toNat ((x.1.i:Int)+1)+(p_1-(0+(x.1.i-0))))) (Cs.eff (λ(q_1:Nat)=>cond (Nat.blt q_1 x.1.n) (ZLnk.cs (x.1.f q_1)) (@List.nil Value)) [] p_1)) [] p)) [] q)/\True) ((2*(x.1.i-0+(x.1.n-Int.toNat ((x.1.i:Int)+1)))+1000)*48<=281474976710656/\True/\True/\0<=(x.1.n:Int)/\0<=((x.1.i-0+(x.1.n-Int.toNat ((x.1.i:Int)+1)):Nat):Int)/\(x.1.i-0+(x.1.n-Int.toNat ((x.1.i:Int)+1))<=x.1.n/\x.1.n<=x.1.i-0+(x.1.n-Int.toNat ((x.1.i:Int)+1))/\x.1.i-0+(x.1.n-Int.toNat ((x.1.i:Int)+1))<=x.1.i-0+(x.1.n-Int.toNat ((x.1.i:Int)+1)))/\0+(x.1.i-0+(x.1.n-Int.toNat ((x.1.i:Int)+1)))+(x.1.n-(x.1.i-0+(x.1.n-Int.toNat ((x.1.i:Int)+1))))<=x.1.i-0+(x.1.n-Int.toNat ((x.1.i:Int)+1))/\ ∃y:Unit,True/\False/\aqZ x)))
theorem acI(x:ZDl×Nat):VI x=wpF Tryz.prog amm tt (noA x) 200 6 282 (acH.args x) (hO acH.k (acH.os x)) (λv h'=>eF acH.k x v h' acH.outs):=by kernel_rfl
theorem QV(x:ZDl×Nat)(hx:x.1.i<x.1.n/\x.1.n<=x.2/\x.1.n<=300):VI x:=by
 obtain⟨⟨n,f,i⟩,c⟩:=x;obtain⟨h1,h2,h3⟩:=hx;dsimp only at h1 h2 h3;unfold VI;simp only[aqZ];have e2:((i:Int)+1).toNat=i+1:=by omega
 simp only[aZ,aV,aU,aA,aI,bQ,bF,aO,aK,ay,aX,aW,aN,e2];have hb: ∀a b:Nat,a<=b->Nat.ble a b=true:=λa b h=>by simpa using h
 simp only[Cs.eff];refine⟨by omega,by omega,by omega,⟨by omega,by omega,by omega⟩,bf (λh=> ?_) λ_=>⟨by omega,⟨by omega,by omega,by omega⟩,by omega,⟨by omega,by omega,by omega⟩,by omega,by omega,bf (λh=> ?_) λh=>bf (λ_=> ?_) λhb2=> ?_⟩⟩
 ·exact absurd (eq_of_beq h) (by omega)
 ·have hn:n=i+1:=by have:=au h;omega
  subst hn;refine⟨by omega,by omega,⟨by omega,by omega,by omega⟩,by omega,by omega,λq hq=> ?_⟩;by_cases h1:q<i
  ·rw[bg.2 (show q<i+1-1 by omega),Iu (show¬i<=q by omega),bg.2 (show q<i+1 by omega)]
   unfold Iw;rw[bg.2 h1];rfl
  ·by_cases h2:q=i
   ·rw[jf (show¬q<i+1-1 by omega),hb _ _ (show i<=q by omega),bg.2 (show q<i+1 by omega),bg.2 (show q<i+(i+1-i) by omega)];rfl
   ·rw[jf (show¬q<i+1-1 by omega),jf (show¬q<i+1 by omega),jf (show¬q<i+(i+1-i) by omega),hb _ _ (show i<=q by omega)];rfl
 ·have hlt:i+1<n:=by
   rcases Nat.lt_or_ge (i+1) n with g|g
   ·exact g
   ·have:n-(i+1)=0:=by omega
    rw[this]at h;cases h
  refine⟨λk hk=> ?_,by omega,by omega,by omega,⟨by omega,by omega,by omega⟩,by omega,by omega,λq hq=> ?_⟩
  ·rw[bg.2 (show i+1+k<n by omega)];rfl
  ·by_cases h1:q<n-1
   ·rw[bg.2 h1,Iu (show¬i+(n-(i+1))<=q by omega)]
    by_cases h4:q<i
    ·rw[Iu (show¬i<=q by omega),bg.2 (show q<n by omega)]
     unfold Iw;rw[bg.2 h4];rfl
    ·rw[hb _ _ (show i<=q by omega),bg.2 (show q<i+(n-(i+1)) by omega),bg.2 (show i+1+(q-i)<n by omega),show i+1+(q-i)=q+1 by omega]
     unfold Iw;rw[jf h4];rfl
   ·by_cases h4:q<n
    ·rw[jf h1,bg.2 h4,hb _ _ (show i+(n-(i+1))<=q by omega),bg.2 (show q<i+(n-(i+1))+(n-(i+(n-(i+1)))) by omega)];rfl
    ·rw[jf h1,jf h4,hb _ _ (show i+(n-(i+1))<=q by omega),jf (show¬q<i+(n-(i+1))+(n-(i+(n-(i+1)))) by omega),hb _ _ (show i<=q by omega),jf (show¬q<i+(n-(i+1)) by omega)];rfl
 ·exact absurd (Nat.ble_eq_true_of_le (show i+(n-(i+1))<=c by omega)) (by rw[hb2];decide)
theorem amq:bZ Tryz.prog 282 acH:=dM dD mixed Kv noA 200 6 (λ_=>rfl) (λ_=>rfl) λx hx=>Eq.mp (acI x) (QV x (aZ.1 hx))
theorem aq0(x:ZDl)(c:Nat): ∀q,q<x.n-1->(bif Nat.blt q (x.n-1)then(Iw x.f x.i q).cs else bif Nat.blt q x.n then iO.cs else [])=(Iw x.f x.i q).cs:=λq hq=>by rw[bg.2 hq];rfl
theorem aq1:bZ Tryz.prog 282 delLC:=λx hx=>⟨rfl,by
 have hx:=aZ.1 hx;refine Au (O6 (k:=1) (e:=41) (g:=λk=>(x.f k).cs) (wr:=[]) (os:=[]) rfl λc hc=> ?_);refine((amq (x,c) (aZ.2 ⟨hx.1,hc,hx.2⟩)).2).mono λv h' hh=> ?_
 refine⟨.slW 1 0 5 (x.n-1),hO 2 [.abs Bq,zl (x.n-1) (Iw x.f x.i)],?_,by with_unfolding_all exact Or.inl ⟨(),trivial,rfl,rfl⟩⟩;have hh:(∃y:Unit,True/\v= .slE 0 0 5 (x.n-1) c/\h'=hO 1 [.room 41 (cutD x c)])\/False:=by
  with_unfolding_all exact hh
 rcases hh with ⟨_,h1,rfl,rfl⟩|hh
 ·refine(O5 (k:=1) (rest:=[]) rfl (show x.n-1<=c by omega)).trans ?_
  refine tZ (m:=2) rfl rfl (by decide) λi o o' hi hi'=> ?_
  match i,hi,hi' with
  |0,hi,hi'=>cases hi;cases hi';exactλ_ _ _ _ _ h=>h
  |1,hi,hi'=>cases hi;cases hi';exact DN (aq0 x c)
 ·exact hh.elim⟩
def Kw(s:ByteArray):Prop:=
 ∃x:ByteArray,x.size<1099511627776/\(x=s/\True)/\True/\ ∀y:Unit,True->((8:Int)=0->False)/\I64 (Int.tmod (oG x) (8:Int))/\ ∃y_1:Unit,True/\((bkt s:Nat):Int)=Int.tmod (oG x) (8:Int)/\True
theorem VJ(s:ByteArray):Kw s=wpF Tryz.prog aqU tt (noA s) 200 5 183 (EC.args s) (hO 0 (EC.os s)) (λv h'=>eF 0 s v h' EC.outs):=by kernel_rfl
def VK(s:ByteArray):Prop:=
 ∃x:ByteArray,x.size<1099511627776/\(x=s/\True)/\True/\ ∀y:Unit,True->I64 (31:Int)/\(0:Int)<=31/\cP (BEq.beq (IntKind.wrap .u32 ((@BitVec.toNat 32 (@HAnd.hAnd (@BitVec 32) (@BitVec 32) (@BitVec 32) (@instHAndOfAndOp (@BitVec 32) (@BitVec.instAndOp 32)) (@BitVec.ofInt 32 (Int.fdiv (oG x) (2147483648:Int))) (@BitVec.ofInt 32 (1:Int))):Nat):Int)) (0:Int)) ((∃y_1:Unit,Hd (lvl s=1)/\(1:Int)=1/\True)\/(∃y_1:Unit,Hd (lvl s=2)/\(2:Int)=1/\True)\/(∃y_1:Unit,Hd (lvl s=3)/\(3:Int)=1/\True)\/ ∃y_1:Unit,Hd (lvl s=4)/\(4:Int)=1/\True) (I64 (2:Int)/\I64 (1:Int)/\I64 (30:Int)/\(0:Int)<=30/\cP (BEq.beq (IntKind.wrap .u32 ((@BitVec.toNat 32 (@HAnd.hAnd (@BitVec 32) (@BitVec 32) (@BitVec 32) (@instHAndOfAndOp (@BitVec 32) (@BitVec.instAndOp 32)) (@BitVec.ofInt 32 (Int.fdiv (oG x) (1073741824:Int))) (@BitVec.ofInt 32 (1:Int))):Nat):Int)) (0:Int)) ((∃y_1:Unit,Hd (lvl s=1)/\(1:Int)=2/\True)\/(∃y_1:Unit,Hd (lvl s=2)/\(2:Int)=2/\True)\/(∃y_1:Unit,Hd (lvl s=3)/\(3:Int)=2/\True)\/ ∃y_1:Unit,Hd (lvl s=4)/\(4:Int)=2/\True) (I64 (3:Int)/\I64 (2:Int)/\I64 (29:Int)/\(0:Int)<=29/\cP (BEq.beq (IntKind.wrap .u32 ((@BitVec.toNat 32 (@HAnd.hAnd (@BitVec 32) (@BitVec 32) (@BitVec 32) (@instHAndOfAndOp (@BitVec 32) (@BitVec.instAndOp 32)) (@BitVec.ofInt 32 (Int.fdiv (oG x) (536870912:Int))) (@BitVec.ofInt 32 (1:Int))):Nat):Int)) (0:Int)) ((∃y_1:Unit,Hd (lvl s=1)/\(1:Int)=3/\True)\/(∃y_1:Unit,Hd (lvl s=2)/\(2:Int)=3/\True)\/(∃y_1:Unit,Hd (lvl s=3)/\(3:Int)=3/\True)\/ ∃y_1:Unit,Hd (lvl s=4)/\(4:Int)=3/\True) (I64 (4:Int)/\I64 (3:Int)/\((∃y_1:Unit,Hd (lvl s=1)/\
 (1:Int)=4/\True)\/(∃y_1:Unit,Hd (lvl s=2)/\(2:Int)=4/\True)\/(∃y_1:Unit,Hd (lvl s=3)/\(3:Int)=4/\True)\/ ∃y_1:Unit,Hd (lvl s=4)/\(4:Int)=4/\True))))
theorem acJ(s:ByteArray):VK s=wpF Tryz.prog aqU tt (noA s) 200 5 279 (Z5.args s) (hO 0 (Z5.os s)) (λv h'=>eF 0 s v h' Z5.outs):=by kernel_rfl
theorem aag:dX Tryz.prog aqU:= .cons (bM apT) .nil
theorem Ky(s:ByteArray)(hs:s.size<1099511627776):Kw s:=by
 obtain⟨u1,u2⟩:=apS s;have e:(oG s).tmod 8=oG s%8:=Int.tmod_eq_emod_of_nonneg u1;unfold Kw;simp only[aZ,aV,aU,aA,aI,bQ,bF,aO,aK,ay,aX,aW,bU,bG,bH,bI,bV,bC,bJ,bn,eG,aH,aN,ah,ak,aB,aF,aC,aG];refine⟨s,hs,rfl,by decide,?_,?_⟩
 ·rw[e];unfold I64;omega
 ·rw[aow,e];omega
theorem QW(s:ByteArray)(hs:s.size<1099511627776):VK s:=by
 have i: ∀z:Int,0<=z->z<=100->I64 z:=λz a b=>by unfold I64;omega
 unfold VK;simp only[aZ,aV,aU,aA,aI,bQ,bF,aO,aK,ay,aX,aW,bU,bG,bH,bI,bV,bC,bJ,bn,eG,aH,aN,ah,ak,aB,aF,aC,aG];refine⟨s,hs,rfl,i _ (by decide) (by decide),by decide,bf (λh=> .inl ?_) λh1=>⟨i _ (by decide) (by decide),i _ (by decide) (by decide),i _ (by decide) (by decide),by decide,bf (λh=> .inr (.inl ?_)) λh2=>⟨i _ (by decide) (by decide),i _ (by decide) (by decide),i _ (by decide) (by decide),by decide,bf (λh=> .inr (.inr (.inl ?_))) λh3=>⟨i _ (by decide) (by decide),i _ (by decide) (by decide),.inr (.inr (.inr ?_))⟩⟩⟩⟩
 ·rw[QN];unfold aqT;exact if_pos h
 ·rw[QN];unfold aqT;rw[if_neg (by rw[show amf (oG s) 2147483648=false from h1];decide)];exact if_pos h
 ·rw[QN];unfold aqT;rw[if_neg (by rw[show amf (oG s) 2147483648=false from h1];decide),if_neg (by rw[show amf (oG s) 1073741824=false from h2];decide)];exact if_pos h
 ·rw[QN];unfold aqT;rw[if_neg (by rw[show amf (oG s) 2147483648=false from h1];decide),if_neg (by rw[show amf (oG s) 1073741824=false from h2];decide)];exact if_neg (by rw[show amf (oG s) 536870912=false from h3];decide)
theorem QX:bZ Tryz.prog 183 EC:=dM dD mixed aag noA 200 5 (λ_=>rfl) (λ_=>rfl) λx hx=>Eq.mp (VJ x) (Ky x (aZ.1 hx))
theorem amr:bZ Tryz.prog 279 Z5:=iZ dD mixed aag noA 200 5 (λ_=>rfl) (λ_=>⟨λ_=>rfl,λ_=>rfl,λ_=>rfl,λ_=>rfl,trivial⟩) λx hx=>Eq.mp (acJ x) (QW x (aZ.1 hx))
structure ahV (X:Type) where
 Y:Type
 post:X->Y->Prop
 ret:X->Y->AV
 L:X->Y->Lks
 m:Nat
 ex:X->Y->List dB
structure adU where
 X:Type
 args:X->List AV
 L:X->Lks
 pre:X->Prop
 outs:List (ahV X)
noncomputable def ahV.po{X:Type}(L0:X->Lks)(o:ahV X):abr (X×iU):={Y:=o.Y×iU,post:=λx y=>o.post x.1 y.1/\Hd (lM (o.L x.1 y.1) y.2),ret:=λx y=>o.ret x.1 y.1,m:=o.m,l:=λx y=> .m (QO y.2)::(o.ex x.1 y.1).map PO.o}
noncomputable def ahV.out{X:Type}(o:ahV X):Out X:={Y:=o.Y,post:=o.post,ret:=o.ret,m:=o.m,os:=λx y=> .abs (tabA (o.L x y))::o.ex x y}
noncomputable def adU.E(C:adU):jw:={X:=C.X×iU,args:=λx=>C.args x.1,k:=1,l:=λx=>[.m (QO x.2)],pre:=λx=>C.pre x.1/\Hd (lM (C.L x.1) x.2),outs:=C.outs.map (ahV.po C.L)}
noncomputable def adU.C(C:adU):Ctr:={X:=C.X,args:=C.args,k:=1,os:=λx=>[.abs (tabA (C.L x))],pre:=C.pre,outs:=C.outs.map ahV.out}
theorem aah{L:Lks}{t:iU}(h:lM L t){w:World}{a:SE.Loc}{S:Nat->Prop}(ho:(ownM (QO t)).holds w a S):(tabA L).holds w a S:=by
 rw[pY]at ho;rw[ahL];obtain⟨h0,ρ,e,r⟩:=ho;exact⟨h0,ρ,⟨t,h,e⟩,r⟩
theorem ams{L:Lks}{w:World}{a:SE.Loc}{S:Nat->Prop}(ho:(tabA L).holds w a S): ∃t,lM L t/\(ownM (QO t)).holds w a S:=by
 rw[ahL]at ho;obtain⟨h0,ρ,⟨t,h,e⟩,r⟩:=ho;exact⟨t,h,by rw[pY];exact⟨h0,ρ,e,r⟩⟩
theorem zo{n:Nat}{o o':dB}{os:List dB}(hn:n=os.length+1): ∀j,((hO n (o::os)).set 0 o').get j=(hO n (o'::os)).get j:=λj=>by
 subst hn;rw[Heap.dN,jI (n:=os.length+1) (os:=o::os) (by simp),jI (n:=os.length+1) (os:=o'::os) (by simp)];cases j with
 |zero=>simp
 |succ j=>simp
theorem QY{X:Type}{L0:X->Lks}{x:X}{t:iU}{v:AV}{h':Heap}: ∀{l:List (ahV X)},(∀o∈l,∀x y,(o.ex x y).length+1=o.m)->kS (x,t) v h' ((l.map (ahV.po L0)).map abr.out)-> ∃v0 h0,Leq 1 v h' v0 h0/\kS x v0 h0 (l.map ahV.out)
 |[],_,h=>by simp only[List.map_nil]at h;rw[x9]at h;exact h.elim
 |o::l,hl,h=>by
  simp only[List.map_cons]at h ⊢;rw[dU]at h;rcases h with ⟨y,h1,rfl,rfl⟩|h
  ·have hlen:=hl o (by simp) x y.1
   have hT:lM (o.L x y.1) y.2:=aZ.1 h1.2;refine⟨_,hO o.m (.abs (tabA (o.L x y.1))::o.ex x y.1),⟨?_,λρ T w u hR hv=>⟨ρ,λ_ _=>rfl,?_,hv⟩⟩,by rw[dU];exact .inl ⟨y.1,h1.1,rfl,rfl⟩⟩
   ·show 1<=o.m;omega
   ·have hm:((o.ex x y.1).map PO.o).map PO.ab=o.ex x y.1:=by rw[List.map_map];exact(List.map_id _)
    have hR:Rel (hO o.m (.abs (ownM (QO y.2))::o.ex x y.1)) ρ T w:=by
     have e:(abr.out (ahV.po L0 o)).os (x,t) y= .abs (ownM (QO y.2))::o.ex x y.1:=by
      show PO.ab (.m (QO y.2))::((o.ex x y.1).map PO.o).map PO.ab=_;rw[hm];rfl
     rw[<-e];exact hR
    have h2:=hR.swap (i:=0) (o:= .abs (ownM (QO y.2))) (o':= .abs (tabA (o.L x y.1))) (by rw[jI (by simp only[List.length_cons];omega)];rfl) λa S ho=>aah hT ho
    exact h2.less (by simp;exact aY _) λj x hj=>by rw[zo (by omega)];exact hj
  ·obtain⟨v0,h0,g1,g2⟩:=QY (l:=l) (λp hp=>hl p (List.mem_cons_of_mem _ hp)) h
   exact⟨v0,h0,g1,by rw[dU];exact .inr g2⟩
theorem Iy{Z:Type}{h:Heap}{ρ:SE.Ren}{T:Nat->Prop}{w:World}{i:Nat}{o:dB}{o':Z->dB}(hi:h.get i=some o)(hh: ∀a S,dG ρ w T a S o-> ∃z,dG ρ w T a S (o' z))(hR:Rel h ρ T w): ∃z,Rel (h.set i (o' z)) ρ T w:=by
 obtain⟨S,h1,h2,h3,h4,h5⟩:=hR;obtain⟨a,ha,ho⟩:=h1 i o hi;obtain⟨z,hz⟩:=hh a _ ho;have get: ∀j x,(h.set i (o' z)).get j=some x-> ∃y,h.get j=some y:=λj x hj=>by
  rw[Heap.dN]at hj;by_cases hji:j=i
  ·exact⟨o,hji▸hi⟩
  ·rw[if_neg hji]at hj;exact⟨x,hj⟩
 refine⟨z,S,λj x hj=> ?_,λj k x y b hj hk hjk=> ?_,λj x b hj hS=> ?_,λj hj=>h4 j (by simpa using hj),h5⟩
 ·rw[Heap.dN]at hj
  by_cases hji:j=i
  ·subst hji
   rw[if_pos rfl]at hj;cases hj;exact⟨a,ha,hz⟩
  ·rw[if_neg hji]at hj
   exact h1 j x hj
 ·obtain⟨x',hx'⟩:=get j x hj
  obtain⟨y',hy'⟩:=get k y hk;exact h2 j k x' y' b hx' hy' hjk
 ·obtain⟨x',hx'⟩:=get j x hj
  exact h3 j x' b hx' hS
theorem EH{P:Program}{f:FuncId}{C:adU}(hc:nT P f)(hl: ∀o∈C.outs,∀x y,(o.ex x y).length+1=o.m)(hE:bZ P f C.E.ctr):bZ P f C.C:=λx hp=>by
 refine⟨rfl,hc,λρ T w vs hR hl2=> ?_⟩;obtain⟨t,hR2⟩:=Iy (i:=0) (o:= .abs (tabA (C.L x))) (o':=λt:{t:iU//lM (C.L x) t}=> .abs (ownM (QO t.1))) rfl (λa S ho=>by obtain⟨t,h1,h2⟩:=ams ho;exact⟨⟨t,h1⟩,h2⟩) hR;obtain⟨t,ht⟩:=t;have hR3:Rel (hO 1 [.abs (ownM (QO t))]) ρ T w:=hR2.less (aY _) λj y hj=>by
  have:=zo (n:=1) (o:= .abs (tabA (C.L x))) (o':= .abs (ownM (QO t))) (os:=[]) rfl j;exact this.trans hj
 obtain⟨_,hs⟩:=hE (x,t) ⟨hp,aZ.2 ht⟩;refine(hs.2 ρ T w vs hR3 hl2).mono ?_
 rintro e w' ⟨ρ2,v,u,h',c1,c2,c3,c4,c5,c6,c7⟩
 obtain⟨v0,h0,g1,g2⟩:=QY hl c7;obtain⟨ρ3,q1,q2,q3⟩:=g1.2 ρ2 T w' u c3 c4;exact⟨ρ3,v0,u,h0,λi hi=>(q1 i hi).trans (c1 i hi),g1.1,q2,q3,c5,c6,g2⟩
theorem amu{w:World}{a:SE.Loc}{S:Nat->Prop}:Bq.holds w a S:=by rw[aft];trivial
theorem ahW{P:Program}{f:FuncId}{k m n:Nat}{z:Bool}{e:TypeId}{c:Cs}{rest:List AV}{os:List dB}{K:AV->Heap->Prop}(hk:os.length+1=k)(hc:nT P f)
  (hN:z=true->n=0->Sp P f (gV::rest) (hO k (.abs Bq::os)) K) (hW:z=false->Sp P f (.slW 0 0 m n::rest) (hO k (.room e c::os)) K):
  Sp P f (.slV z 0 m n::rest) (hO k (.gY z e c::os)) K:=by
 refine⟨hc,λρ T w vs hR hl=> ?_⟩;have sw: ∀o',(∀a S,dG ρ w T a S (.gY z e c)->dG ρ w T a S o')->Rel (hO k (o'::os)) ρ T w:=λo' ho=>by
  have h2:=hR.swap (i:=0) (o:= .gY z e c) (o':=o') (by rw[jI (by simp;omega)];rfl) ho;exact h2.less (by simp;exact aY _) λj x hj=>by rw[zo (by omega)];exact hj
 obtain⟨v,vl,hv,h1,h2⟩:=hl;cases z with
 |false=>
  refine(hW rfl).2 ρ T w vs (sw _ λa S h=> ?_) ⟨v,vl,hv,?_,h2⟩
  ·rcases h with ⟨h,_⟩|⟨_,h⟩
   ·cases h
   ·exact h
  ·rcases h1 with ⟨h,_⟩|⟨_,a,p,c',g1,g2,g3,g4⟩
   ·cases h
   ·exact⟨a,p,c',g1,g2,g3,λhc'=>by obtain⟨g5,g6⟩:=g4 hc';exact⟨by omega,by omega⟩⟩
 |true=>
  rcases h1 with ⟨_,hn,hv'⟩|⟨h,_⟩
  ·exact(hN rfl hn).2 ρ T w vs (sw _ λa S _=>amu) ⟨v,vl,hv,hv',h2⟩
  ·cases h
noncomputable section
def Iz:Ctr:=det ZLnk (λ_=>[gV,i64 0,.sl 1 0 1 1]) 2 (λl=>[.abs Bq,qX l]) (λ_=>True) (λ_=> .slW 2 0 5 1) 3 (λl=>[.abs Bq,qX l,zl 1 (λ_=>l)])
structure ZIz where
 z:Bool
 L:Lks
 i:Nat
 l:ZLnk
def nthL(L:Lks)(q:Nat):ZLnk:=L.getD q iO
def vG(z:Bool)(L:Lks):dB:= .gY z 41 (.row 5 L.length (λq=>(nthL L q).cs) [])
def insV:Ctr:=det ZIz (λx=>[.slV x.z 0 5 x.L.length,i64 x.i,.sl 1 0 1 1]) 2 (λx=>[vG x.z x.L,qX x.l]) (λx=>Hd (x.i<=x.L.length/\x.L.length<=300)) (λx=> .slW 2 0 5 (x.L.length+1)) 3 (λx=>[.abs Bq,qX x.l,zl (x.L.length+1) (insL (nthL x.L) x.i x.l)])
structure ZDz where
 z:Bool
 L:Lks
 i:Nat
def delV:Ctr:=det ZDz (λx=>[.slV x.z 0 5 x.L.length,i64 x.i,i64 ((x.i:Int)+1)]) 1 (λx=>[vG x.z x.L]) (λx=>Hd (x.i<x.L.length/\x.L.length<=300)) (λx=> .slW 1 0 5 (x.L.length-1)) 2 (λx=>[.abs Bq,zl (x.L.length-1) (Iw (nthL x.L) x.i)])
end
def Kz(x:ZLnk):Prop:=
 (0:Int)<=0/\(0<=0/\0<=0/\0<=0)/\(2*(0+1)+1000)*48<=281474976710656/\ ∃y:Unit,True/\(0=0/\1=1)/\Bq=Bq/\(x.key=x.key/\x.id=x.id/\x.ver=x.ver/\x.line=x.line/\x.cls=x.cls/\True)/\(1=0+List.length [List.take 5 [Value.string x.key,Value.int .u64 x.id,Value.int .u64 x.ver,Value.int .i64 x.line,Value.int .i64 x.cls]]/\ ∀q:Nat,q<1->[Value.string x.key,Value.int .u64 x.id,Value.int .u64 x.ver,Value.int .i64 x.line,Value.int .i64 x.cls]=Cs.eff (λ(x_1:Nat)=>[]) [(0,List.take 5 [Value.string x.key,Value.int .u64 x.id,Value.int .u64 x.ver,Value.int .i64 x.line,Value.int .i64 x.cls])] q)/\True
theorem VL(x:ZLnk):Kz x=wpF Tryz.prog amm tt (noA x) 200 6 281 (Iz.args x) (hO Iz.k (Iz.os x)) (λv h'=>eF Iz.k x v h' Iz.outs):=by kernel_rfl
theorem KA(x:ZLnk):Kz x:=by
 unfold Kz;simp only[aZ,aV,aU,aA,aI,bQ,bF,aO,aK,ay,aX,aW];refine⟨by omega,by omega,by omega,rfl,λq hq=> ?_⟩;obtain rfl:q=0:=by omega
 rfl
theorem ahX:bZ Tryz.prog 281 Iz:=dM dD mixed Kv noA 200 6 (λ_=>rfl) (λ_=>rfl) λx _=>Eq.mp (VL x) (KA x)
theorem aq2:bZ Tryz.prog 281 insV:=λx hx=>⟨rfl,by
 have hx:=aZ.1 hx;refine ahW (k:=2) (os:=[qX x.l]) rfl ⟨Tryz.f281,by kernel_rfl,by kernel_rfl,by kernel_rfl⟩ (λhz hn=> ?_) λhz=> ?_
 ·have hi:x.i=0:=by omega
  rw[hi];refine Au (((ahX x.l trivial).2).mono λv h' hh=> ?_);refine⟨.slW 2 0 5 (x.L.length+1),hO 3 [.abs Bq,qX x.l,zl (x.L.length+1) (insL (nthL x.L) x.i x.l)],?_,by with_unfolding_all exact Or.inl ⟨(),trivial,rfl,rfl⟩⟩;have hh:(∃y:Unit,True/\v= .slW 2 0 5 1/\h'=hO 3 [.abs Bq,qX x.l,zl 1 (λ_=>x.l)])\/False:=by
   with_unfolding_all exact hh
  rcases hh with ⟨_,_,rfl,rfl⟩|hh
  ·rw[hn]
   refine tZ (m:=3) rfl rfl (show(2:Nat)<=3 by decide) λi o o' hi' aq3=> ?_
   match i,hi',aq3 with
   |0,hi',aq3=>cases hi';cases aq3;exactλ_ _ _ _ _ h=>h
   |1,hi',aq3=>cases hi';cases aq3;exactλ_ _ _ _ _ h=>h
   |2,hi',aq3=>cases hi';cases aq3;exact DN (λq hq=>by(obtain rfl:q=0:=by omega);rw[hi,qY])
  ·exact hh.elim
 ·exact((aqY ⟨x.L.length,nthL x.L,x.i,x.l⟩ (aZ.2 hx)).2).mono λv h' hh=>by with_unfolding_all exact hh⟩
theorem aq4:bZ Tryz.prog 282 delV:=λx hx=>⟨rfl,by
 have hx:=aZ.1 hx;refine ahW (k:=1) (os:=[]) rfl ⟨Tryz.f282,by kernel_rfl,by kernel_rfl,by kernel_rfl⟩ (λhz hn=> ?_) λhz=> ?_
 ·exact absurd hx.1 (by omega)
 ·exact((aq1 ⟨x.L.length,nthL x.L,x.i⟩ (aZ.2 hx)).2).mono λv h' hh=>by with_unfolding_all exact hh⟩
noncomputable section
def aoz(b:Nat):Ctr:=det ByteArray (λs=>[.lit (.string s)]) 0 (λ_=>[]) (λs=>Hd (s.size<1099511627776/\lvl s=b)) (λ_=>i64 b) 0 (λ_=>[])
structure ZOd where
 z:Nat->Bool
 V:Nat->Lks
def KC(x:ZOd):List dB:=[.cells 255 (.av [.slV (x.z 0) 1 5 (x.V 0).length,.slV (x.z 1) 2 5 (x.V 1).length,.slV (x.z 2) 3 5 (x.V 2).length,.slV (x.z 3) 4 5 (x.V 3).length]),vG (x.z 0) (x.V 0),vG (x.z 1) (x.V 1),vG (x.z 2) (x.V 2),vG (x.z 3) (x.V 3)]
structure ZOs where
 o:ZOd
 l:ZLnk
structure ZOk where
 o:ZOd
 s:ByteArray
def ZOd.good(x:ZOd):Prop:= ∀k,k<4->srt (x.V k)/\(x.V k).length<=300/\(x.z k=true->x.V k=[])
def aai(b:Nat):jw:={X:=ZOs,args:=λx=>[.ptr 0 0,x.l.av],k:=1,l:=λx=>[.m (KC x.o)],pre:=λx=>Hd (x.l.key.size<1099511627776/\lvl x.l.key=b/\x.o.good),outs:=[
 {Y:=ZOd,post:=λx y=>Hd (∀k,k<4->(y.V k=if k<b then jg (x.o.V k) x.l else x.o.V k)/\(y.z k=true->y.V k=[])),ret:=λx _=>boo (gJ (x.o.V (b-1)) x.l.key).isSome,m:=1,l:=λ_ y=>[.m (KC y)]}]}
def KD(b:Nat):jw:={X:=ZOk,args:=λx=>[.ptr 0 0,.lit (.string x.s)],k:=1,l:=λx=>[.m (KC x.o)],pre:=λx=>Hd (x.s.size<1099511627776/\lvl x.s=b/\x.o.good),outs:=[
 {Y:=ZOd,post:=λx y=>Hd (∀k,k<4->(y.V k=if k<b then fQ (x.o.V k) x.s else x.o.V k)/\(y.z k=true->y.V k=[])),ret:=λx _=>boo ((List.range b).any λk=>(gJ (x.o.V k) x.s).isSome),m:=1,l:=λ_ y=>[.m (KC y)]}]}
def aq5(b:Nat):jd:=[(279,ctrT (aoz b)),(280,ctrT atp),(281,ctrT insV),(282,ctrT delV)]
end
theorem EI{x:ZLnk}{L:Lks}{s:ByteArray}:uD (x::L) s=if kl x.key s=true then uD L s+1 else 0:=by
 unfold uD;rw[List.findIdx_cons];cases kl x.key s<;>rfl
theorem yC{x:ZLnk}{L:Lks}{q:Nat}:nthL (x::L) (q+1)=nthL L q:=rfl
theorem atu{f:Nat->ZLnk}{x:ZLnk}{q:Nat}:insL f 0 x (q+1)=f q:=by rw[EG (Nat.succ_pos q)];rfl
theorem atv{f:Nat->ZLnk}{i:Nat}{x:ZLnk}{q:Nat}:insL f (i+1) x (q+1)=insL (λj=>f (j+1)) i x q:=by
 rcases Nat.lt_trichotomy q i with h|h|h
 ·rw[zn (by omega),zn h]
 ·subst h;rw[qY,qY]
 ·rw[EG (by omega),EG h,show q+1-1=q-1+1 by omega]
theorem atw{f:Nat->ZLnk}{q:Nat}:Iw f 0 q=f (q+1):=by unfold Iw;rw[jf (Nat.not_lt_zero q)];rfl
theorem atx{f:Nat->ZLnk}{i q:Nat}:Iw f (i+1) (q+1)=Iw (λj=>f (j+1)) i q:=by
 unfold Iw;by_cases h:q<i
 ·rw[bg.2 h,bg.2 (show q+1<i+1 by omega)]
 ·rw[jf h,jf (show¬q+1<i+1 by omega)]
theorem jW{x:ZLnk}{L:Lks}{s:ByteArray}:gJ (x::L) s=if x.key=s then some x else gJ L s:=by
 unfold gJ;rw[List.find?_cons];by_cases h:x.key=s
 ·rw[decide_eq_true h,if_pos h]
 ·rw[decide_eq_false h,if_neg h]
theorem KE{x:ZLnk}{L:Lks}(h:srt (x::L)):srt L:=(List.pairwise_cons.1 h).2
theorem IB: ∀{L:Lks} {l:ZLnk},srt L->(gJ L l.key).isSome=true->uD L l.key<L.length/\(jg L l).length=L.length/\ ∀q,nthL (jg L l) q=if q=uD L l.key then l else nthL L q
 |[],_,_,h=>by cases h
 |x::L,l,hs,h=>by
  rw[EI];unfold jg;by_cases hx:x.key=l.key
  ·rw[hx,nZ,if_neg (by decide),if_pos rfl]
   refine⟨Nat.succ_pos _,rfl,λq=> ?_⟩;cases q with
   |zero=>rw[if_pos rfl];rfl
   |succ q=>rw[if_neg (by omega)];rfl
  ·rw[jW,if_neg hx]at h
   obtain⟨y,hy⟩:=Option.isSome_iff_exists.1 h;obtain⟨hy1,hy2⟩:=og hy;have hk:kl x.key l.key=true:=by rw[<-hy2];exact(List.pairwise_cons.1 hs).1 y hy1
   obtain⟨i1,i2,i3⟩:=IB (KE hs) h;rw[if_pos hk,if_neg hx,if_neg (by rw[VE hk];decide)];refine⟨by simp only[List.length_cons];omega,by simp only[List.length_cons,i2],λq=> ?_⟩;cases q with
   |zero=>rw[if_neg (by omega)];rfl
   |succ q=>
    rw[yC,yC,i3 q];by_cases hq:q=uD L l.key
    ·rw[if_pos hq,if_pos (by omega)]
    ·rw[if_neg hq,if_neg (by omega)]
theorem aaj: ∀{L:Lks} {l:ZLnk},srt L->(gJ L l.key).isSome=false->uD L l.key<=L.length/\(jg L l).length=L.length+1/\ ∀q,q<L.length+1->nthL (jg L l) q=insL (nthL L) (uD L l.key) l q
 |[],l,_,_=>⟨aY _,rfl,λq hq=>by have h0:q=0:=Nat.lt_one_iff.1 hq;subst h0;exact qY.symm⟩
 |x::L,l,hs,h=>by
  rw[EI];unfold jg;have hx:x.key≠l.key:=λe=>by rw[jW,if_pos e]at h;cases h
  rw[jW,if_neg hx]at h;rw[if_neg hx];cases hk:kl x.key l.key with
  |true=>
   obtain⟨i1,i2,i3⟩:=aaj (KE hs) h;rw[if_pos rfl,if_neg (by rw[VE hk];decide)];refine⟨by simp only[List.length_cons];omega,by simp only[List.length_cons,i2],λq hq=> ?_⟩;cases q with
   |zero=>rw[zn (Nat.succ_pos _)];rfl
   |succ q=>rw[yC,i3 q (by simp only[List.length_cons]at hq;omega),atv];rfl
  |false=>
   have hk2:kl l.key x.key=true:=by
    cases hk2:kl l.key x.key
    ·exact absurd (Z8 hk hk2) hx
    ·rfl
   rw[if_neg (by decide),if_pos hk2];refine⟨Nat.zero_le _,rfl,λq _=> ?_⟩;cases q with
   |zero=>rw[qY];rfl
   |succ q=>rw[atu];rfl
theorem zq: ∀{L:Lks} {s:ByteArray},(gJ L s).isSome=false->fQ L s=L
 |[],_,_=>rfl
 |x::L,s,h=>by
  have hx:x.key≠s:=λe=>by rw[jW,if_pos e]at h;cases h
  rw[jW,if_neg hx]at h;unfold fQ;rw[List.filter_cons,decide_eq_false hx];show x::fQ L s=x::L;rw[zq h]
theorem EJ: ∀{L:Lks} {s:ByteArray},srt L->(gJ L s).isSome=true->uD L s<L.length/\(fQ L s).length=L.length-1/\ ∀q,nthL (fQ L s) q=Iw (nthL L) (uD L s) q
 |[],_,_,h=>by cases h
 |x::L,s,hs,h=>by
  rw[EI];by_cases hx:x.key=s
  ·have hn:(gJ L s).isSome=false:=by
    rw[yB λy hy e=> ?_]
    ·rfl
    ·have:=(List.pairwise_cons.1 hs).1 y hy
     rw[hx,e,nZ]at this;cases this
   have e:fQ (x::L) s=L:=by
    unfold fQ;rw[List.filter_cons,decide_eq_true hx];exact zq hn
   rw[e,hx,nZ,if_neg (by decide)];exact⟨Nat.succ_pos _,rfl,λq=>by rw[atw];rfl⟩
  ·rw[jW,if_neg hx]at h
   obtain⟨y,hy⟩:=Option.isSome_iff_exists.1 h;obtain⟨hy1,hy2⟩:=og hy;have hk:kl x.key s=true:=by rw[<-hy2];exact(List.pairwise_cons.1 hs).1 y hy1
   obtain⟨i1,i2,i3⟩:=EJ (KE hs) h;have e:fQ (x::L) s=x::fQ L s:=by
    unfold fQ;rw[List.filter_cons,decide_eq_false hx];rfl
   rw[e,if_pos hk];refine⟨by simp only[List.length_cons];omega,by simp only[List.length_cons,i2];omega,λq=> ?_⟩;cases q with
   |zero=>unfold Iw;rw[bg.2 (Nat.succ_pos _)];rfl
   |succ q=>rw[yC,i3 q,atx];rfl
noncomputable def ahY(b:Nat):Ctr:=det ByteArray (λs=>[.lit (.string s)]) 0 (λ_=>[]) (λs=>Hd (s.size<1099511627776/\bkt s=b)) (λ_=>i64 b) 0 (λ_=>[])
theorem acK(b:Nat):bZ Tryz.prog 183 (ahY b):=je λs hs=>by
 obtain⟨h1,h2⟩:=aZ.1 hs;refine⟨_,QX,rfl,s,aZ.2 h1,rfl,rfl,λv h' hh=> ?_⟩;obtain⟨u,_,e2,e3⟩:=ku hh;exact Eq.mpr (dU (X:=ByteArray) s v h' _ _) (.inl ⟨(),trivial,e2.trans (by show i64 (bkt s)=i64 b;rw[h2]),e3⟩)
structure ZTkB where
 t:iU
 s:ByteArray
noncomputable def ofC(b:Nat):Ctr:=det ZTkB (λx=>[.ptr 0 0,.lit (.string x.s)]) 9 (λx=>QO x.t) (λx=>Hd (x.s.size<1099511627776/\bkt x.s=b)) (λ_=> .mp (b+1)) 9 (λx=>QO x.t)
noncomputable def aty(b:Nat):jd:=[(183,ctrT (ahY b))]
noncomputable def ahZ(b:Nat):jd:=[(277,ctrT (ofC b))]
structure Gw where
 L:Lks
 l:ZLnk
noncomputable def ar1:adU:={X:=ZTq,args:=λx=>[.ptr 0 0,.lit (.string x.s)],L:=λx=>x.L,pre:=λx=>Hd (x.s.size<1099511627776),outs:=[
 {Y:=Unit,post:=λx _=>Hd (gJ x.L x.s=none),ret:=λ_ _=> .tup [iO.av,boo false],L:=λx _=>x.L,m:=1,ex:=λ_ _=>[]},
 {Y:=ZLnk,post:=λx y=>Hd (gJ x.L x.s=some y),ret:=λ_ y=> .tup [y.av,boo true],L:=λx _=>x.L,m:=1,ex:=λ_ _=>[]}]}
noncomputable def amv:adU:={X:=ZTq,args:=λx=>[.ptr 0 0,.lit (.string x.s)],L:=λx=>x.L,pre:=λx=>Hd (x.s.size<1099511627776),outs:=[
 {Y:=Unit,post:=λx _=>Hd (gJ x.L x.s=none),ret:=λ_ _=> .tup [iO.av,boo false],L:=λx _=>x.L,m:=1,ex:=λ_ _=>[]},
 {Y:=ZLnk,post:=λx y=>Hd (gJ x.L x.s=some y),ret:=λ_ y=> .tup [y.av,boo true],L:=λx _=>fQ x.L x.s,m:=1,ex:=λ_ _=>[]}]}
noncomputable def atz:adU:={X:=Gw,args:=λx=>[.ptr 0 0,x.l.av],L:=λx=>x.L,pre:=λx=>Hd (x.l.key.size<1099511627776/\(jg x.L x.l).length<=258),outs:=[
 {Y:=Unit,post:=λ_ _=>True,ret:=λx _=>boo (gJ x.L x.l.key).isSome,L:=λx _=>jg x.L x.l,m:=1,ex:=λ_ _=>[]}]}
def ar2:Prop:=True/\True/\True/\True/\True/\True/\True/\True/\True
def Gx(y t:iU)(b:Nat)(m:MS):Prop:=ar2/\(y 0).ms=(bif Nat.beq b 0 then m else(t 0).ms)/\(y 1).ms=(bif Nat.beq b 1 then m else(t 1).ms)/\(y 2).ms=(bif Nat.beq b 2 then m else(t 2).ms)/\(y 3).ms=(bif Nat.beq b 3 then m else(t 3).ms)/\(y 4).ms=(bif Nat.beq b 4 then m else(t 4).ms)/\(y 5).ms=(bif Nat.beq b 5 then m else(t 5).ms)/\(y 6).ms=(bif Nat.beq b 6 then m else(t 6).ms)/\(y 7).ms=(bif Nat.beq b 7 then m else(t 7).ms)/\True
def VN(y t:iU):Prop:=ar2/\(y 0).ms=(t 0).ms/\(y 1).ms=(t 1).ms/\(y 2).ms=(t 2).ms/\(y 3).ms=(t 3).ms/\(y 4).ms=(t 4).ms/\(y 5).ms=(t 5).ms/\(y 6).ms=(t 6).ms/\(y 7).ms=(t 7).ms/\True
def VO(a l:ZLnk):Prop:=a.key=l.key/\a.id=l.id/\a.ver=l.ver/\a.line=l.line/\a.cls=l.cls/\True
def aoA(m:ZMs)(s:ByteArray)(q:Nat->Prop):Prop:= ∀j:Nat,j<m.n->(m.lk j).key=s->q j
def kNo(m:ZMs)(s:ByteArray)(q:Prop):Prop:=(∀j:Nat,j<m.n->(m.lk j).key=s->False)->q
def ar4(x:ZTq×iU)(L':Lks)(l:ZLnk)(f:Bool)(q:iU->Prop):Prop:=(∃y:Unit×iU,(Hd (gJ x.1.L x.1.s=none)/\Hd (lM x.1.L y.2))/\(VO iO l/\false=f/\True)/\q y.2)\/ ∃y:ZLnk×iU,(Hd (gJ x.1.L x.1.s=some y.1)/\Hd (lM L' y.2))/\(VO y.1 l/\true=f/\True)/\q y.2
noncomputable def atA(b:Nat)(x:ZTkB):Prop:= ∃s:ByteArray,Hd (s.size<1099511627776/\bkt s=b)/\(s=x.s/\True)/\True/\ ∀_:Unit,True->True/\((0:Int)<=b/\(0:Int)<=(7:Int)-b)/\ ∃_:Unit,True/\True/\VN x.t x.t
noncomputable def ofG(b:Nat)(s:ByteArray)(t:iU)(q:iU->Prop):Prop:= ∃y:ZTkB,Hd (y.s.size<1099511627776/\bkt y.s=b)/\(0=0/\y.s=s/\True)/\VN y.t t/\ ∀_:Unit,True->q y.t
noncomputable def atB(b:Nat)(x:ZTq×iU):Prop:=ofG b x.1.s x.2 λt=>aoA (t b) x.1.s (λj=>ar4 x x.1.L ((t b).lk j) true λy=>VN y t)/\kNo (t b) x.1.s (ar4 x x.1.L iO false λy=>VN y t)
noncomputable def aoB(b:Nat)(x:ZTq×iU):Prop:=ofG b x.1.s x.2 λt=>
 aoA (t b) x.1.s (λj=>aoA (t b) x.1.s (λi=>ar4 x (fQ x.1.L x.1.s) ((t b).lk j) true λy=>Gx y t b ((t b).ms.del i))/\kNo (t b) x.1.s (ar4 x (fQ x.1.L x.1.s) ((t b).lk j) true λy=>VN y t))/\
 kNo (t b) x.1.s (aoA (t b) x.1.s (λi=>ar4 x (fQ x.1.L x.1.s) iO false λy=>Gx y t b ((t b).ms.del i))/\kNo (t b) x.1.s (ar4 x (fQ x.1.L x.1.s) iO false λy=>VN y t))
def sEnd(x:Gw×iU)(f:Bool)(q:iU->Prop):Prop:= ∃y:Unit×iU,(True/\Hd (lM (jg x.1.L x.1.l) y.2))/\(gJ x.1.L x.1.l.key).isSome=f/\q y.2
noncomputable def atD(b:Nat)(x:Gw×iU):Prop:=ofG b x.1.l.key x.2 λt=>
 aoA (t b) x.1.l.key (λ_=>aoA (t b) x.1.l.key (λi=>sEnd x true λy=>Gx y t b ((t b).ms.put i x.1.l.key x.1.l.cs))/\kNo (t b) x.1.l.key (sEnd x true λy=>Gx y t b ((t b).ms.add x.1.l.key x.1.l.cs)))/\
 kNo (t b) x.1.l.key (aoA (t b) x.1.l.key (λi=>sEnd x false λy=>Gx y t b ((t b).ms.put i x.1.l.key x.1.l.cs))/\kNo (t b) x.1.l.key (sEnd x false λy=>Gx y t b ((t b).ms.add x.1.l.key x.1.l.cs)))
theorem amw: ∀b,b<8-> ∀x,atA b x=wpF Tryz.prog (aty b) tt (noA x) 200 5 277 ((ofC b).args x) (hO 9 ((ofC b).os x)) (λv h'=>eF 9 x v h' (ofC b).outs)
 |0,_=>λx=>by kernel_rfl
 |1,_=>λx=>by kernel_rfl
 |2,_=>λx=>by kernel_rfl
 |3,_=>λx=>by kernel_rfl
 |4,_=>λx=>by kernel_rfl
 |5,_=>λx=>by kernel_rfl
 |6,_=>λx=>by kernel_rfl
 |7,_=>λx=>by kernel_rfl
 |b+8,h=>absurd h (by omega)
theorem amx: ∀b,b<8-> ∀x,atB b x=wpF Tryz.prog (ahZ b) tt (noA x) 200 5 245 (ar1.E.args x) (hO 9 (flatP 1 (ar1.E.l x))) (λv h'=>endsPK 1 x v h' ar1.E.outs)
 |0,_=>λx=>by kernel_rfl
 |1,_=>λx=>by kernel_rfl
 |2,_=>λx=>by kernel_rfl
 |3,_=>λx=>by kernel_rfl
 |4,_=>λx=>by kernel_rfl
 |5,_=>λx=>by kernel_rfl
 |6,_=>λx=>by kernel_rfl
 |7,_=>λx=>by kernel_rfl
 |b+8,h=>absurd h (by omega)
theorem ah0: ∀b,b<8-> ∀x,aoB b x=wpF Tryz.prog (ahZ b) tt (noA x) 200 5 252 (amv.E.args x) (hO 9 (flatP 1 (amv.E.l x))) (λv h'=>endsPK 1 x v h' amv.E.outs)
 |0,_=>λx=>by kernel_rfl
 |1,_=>λx=>by kernel_rfl
 |2,_=>λx=>by kernel_rfl
 |3,_=>λx=>by kernel_rfl
 |4,_=>λx=>by kernel_rfl
 |5,_=>λx=>by kernel_rfl
 |6,_=>λx=>by kernel_rfl
 |7,_=>λx=>by kernel_rfl
 |b+8,h=>absurd h (by omega)
theorem amy: ∀b,b<8-> ∀x,atD b x=wpF Tryz.prog (ahZ b) tt (noA x) 200 5 250 (atz.E.args x) (hO 9 (flatP 1 (atz.E.l x))) (λv h'=>endsPK 1 x v h' atz.E.outs)
 |0,_=>λx=>by kernel_rfl
 |1,_=>λx=>by kernel_rfl
 |2,_=>λx=>by kernel_rfl
 |3,_=>λx=>by kernel_rfl
 |4,_=>λx=>by kernel_rfl
 |5,_=>λx=>by kernel_rfl
 |6,_=>λx=>by kernel_rfl
 |7,_=>λx=>by kernel_rfl
 |b+8,h=>absurd h (by omega)
def wKo(k:Nat):Prop:=(0:Int)<=(k:Int)/\(0:Int)<=(3:Int)-(k:Int)
def amA(P:Nat->ZOd->Prop)(k:Nat)(p:ZOd->Prop):Nat->ZOd->Prop:=λj=>bif Nat.beq j k then p else P j
def lvP1(o:ZOd)(k:Nat)(y:ZOd):Prop:=y.z k=o.z k/\(y.V k).length=(o.V k).length
def lvP2(o:ZOd)(k:Nat)(y:ZOd):Prop:=y.z k=o.z k/\(y.V k).length=(o.V k).length/\ ∀q:Nat,q<(y.V k).length->(nthL (y.V k) q).cs=(nthL (o.V k) q).cs
def lvFd(o:ZOd)(l:ZLnk)(k p:Nat)(y:ZOd):Prop:=y.z k=false/\(y.V k).length=(o.V k).length/\ ∀q:Nat,q<(y.V k).length->(nthL (y.V k) q).cs=Cs.eff (λq=>(nthL (o.V k) q).cs) [(0+p,l.cs)] q
def lvI1(k n:Nat)(y:ZOd):Prop:=y.z k=false/\(y.V k).length=n
def lvI2(k n:Nat)(g:Nat->ZLnk)(y:ZOd):Prop:=y.z k=false/\(y.V k).length=n/\ ∀q:Nat,q<(y.V k).length->(nthL (y.V k) q).cs=(g q).cs
def atE(x:ZOs)(b:Nat)(had:Bool)(P1 P2:Nat->ZOd->Prop):Prop:= ∃y:ZOd,Hd (∀k,k<4->(y.V k=if k<b then jg (x.o.V k) x.l else x.o.V k)/\(y.z k=true->y.V k=[]))/\(gJ (x.o.V (b-1)) x.l.key).isSome=had/\(P1 0 y/\P1 1 y/\P1 2 y/\P1 3 y/\True)/\(P2 0 y/\P2 1 y/\P2 2 y/\P2 3 y/\True)
noncomputable def amB(x:ZOs)(b:Nat):Nat->Nat->Bool->(Nat->ZOd->Prop)->(Nat->ZOd->Prop)->Prop
 |0,_,had,P1,P2=>atE x b had P1 P2
 |r+1,k,_,P1,P2=>wKo k/\ ∃q:ZTq,Hd (srt q.L/\q.L.length<1099511627776)/\((0=0/\q.L.length=(x.o.V k).length)/\q.s=x.l.key/\True)/\((q.L.length=(x.o.V k).length/\ ∀j:Nat,j<q.L.length->(q.L.getD j iO).cs=(nthL (x.o.V k) j).cs)/\True)/\ ∀_:Unit,True->True/\cP (gJ q.L q.s).isSome
   (wKo k/\((0:Int)<=((uD q.L q.s:Nat):Int)/\((uD q.L q.s:Nat):Int)<(((x.o.V k).length:Nat):Int))/\0+uD q.L q.s<(x.o.V k).length/\0+uD q.L q.s<(x.o.V k).length/\True/\I64 ((k:Int)+1)/\amB x b r (k+1) (gJ q.L q.s).isSome P1 (amA P2 k (lvFd x.o x.l k (uD q.L q.s))))
   (wKo k/\(AV.slV (x.o.z k) (k+1) 5 (x.o.V k).length=AV.slV (x.o.z k) (k+1) 5 (x.o.V k).length/\True)/\ ∃v:ZIz,Hd (v.i<=v.L.length/\v.L.length<=300)/\((v.z=x.o.z k/\v.L.length=(x.o.V k).length)/\(v.i:Int)=((uD q.L q.s:Nat):Int)/\(0=0/\1=1/\1=1)/\True)/\((v.z=x.o.z k/\v.L.length=(x.o.V k).length/\ ∀j:Nat,j<v.L.length->(nthL v.L j).cs=(nthL (x.o.V k) j).cs)/\VO v.l x.l/\True)/\ ∀_:Unit,True->True/\wKo k/\True/\I64 ((k:Int)+1)/\
    amB x b r (k+1) (gJ q.L q.s).isSome (amA P1 k (lvI1 k (v.L.length+1))) (amA P2 k (lvI2 k (v.L.length+1) (insL (nthL v.L) v.i v.l))))
noncomputable def atF(b:Nat)(x:ZOs):Prop:= ∃s:ByteArray,Hd (s.size<1099511627776/\lvl s=b)/\(s=x.l.key/\True)/\True/\ ∀_:Unit,True->amB x b b 0 false (lvP1 x.o) (lvP2 x.o)
theorem amC: ∀b,1<=b->b<=4-> ∀x,atF b x=wpF Tryz.prog (aq5 b) tt (noA x) 200 6 251 ((aai b).args x) (hO 5 (flatP 1 ((aai b).l x))) (λv h'=>endsPK 1 x v h' (aai b).outs)
 |1,_,_=>λx=>by kernel_rfl
 |2,_,_=>λx=>by kernel_rfl
 |3,_,_=>λx=>by kernel_rfl
 |4,_,_=>λx=>by kernel_rfl
 |0,h,_=>absurd h (by omega)
 |b+5,_,h=>absurd h (by omega)
theorem aq6{k:Nat}(h:k<4):wKo k:=⟨by omega,by omega⟩
theorem EK{P:Nat->ZOd->Prop}{k:Nat}{p:ZOd->Prop}:amA P k p k=p:=by unfold amA;simp
theorem oL{P:Nat->ZOd->Prop}{k j:Nat}{p:ZOd->Prop}(h:j≠k):amA P k p j=P j:=by unfold amA;rw[eU h];rfl
def amD(x:ZOs)(b:Nat):ZOd:=⟨λk=>bif Nat.blt k b then false else x.o.z k,λk=>if k<b then jg (x.o.V k) x.l else x.o.V k⟩
theorem ah1{x:ZOs}{b k:Nat}(h:k<b):(amD x b).z k=false/\(amD x b).V k=jg (x.o.V k) x.l:=⟨by show(bif Nat.blt k b then false else x.o.z k)=false;rw[bg.2 h];rfl,if_pos h⟩
theorem ah2{x:ZOs}{b k:Nat}(h: ¬k<b):(amD x b).z k=x.o.z k/\(amD x b).V k=x.o.V k:=⟨by show(bif Nat.blt k b then false else x.o.z k)=x.o.z k;rw[jf h];rfl,if_neg h⟩
theorem lev_z{o:ZOd}{k:Nat}{s:ByteArray}(hg:o.z k=true->o.V k=[])(h:(gJ (o.V k) s).isSome=true):o.z k=false:=by
 cases hz:o.z k
 ·rfl
 ·rw[hg hz]at h;cases h
theorem zu{x:ZOs}{b:Nat}(h1:1<=b)(h4:b<=4)(hg:x.o.good): ∀(r k:Nat) (had:Bool) (P1 P2:Nat->ZOd->Prop),k+r=b->(1<=k->had=(gJ (x.o.V (k-1)) x.l.key).isSome)->
  (∀j,j<k->P1 j (amD x b)/\P2 j (amD x b))->(∀j,k<=j->P1 j=lvP1 x.o j/\P2 j=lvP2 x.o j)->amB x b r k had P1 P2
 |0,k,had,P1,P2,e,hh,hP,hQ=>by
  obtain rfl:k=b:=by omega
  have all: ∀j,P1 j (amD x k)/\P2 j (amD x k):=λj=>by
   by_cases hj:j<k
   ·exact hP j hj
   ·obtain⟨q1,q2⟩:=hQ j (by omega)
    obtain⟨g1,g2⟩:=ah2 (x:=x) hj;rw[q1,q2];exact⟨⟨g1,by rw[g2]⟩,g1,by rw[g2],λq _=>by rw[g2]⟩
  refine⟨amD x k,aZ.2 λj hj=>⟨rfl,λhz=> ?_⟩,(hh h1).symm,⟨(all 0).1,(all 1).1,(all 2).1,(all 3).1,trivial⟩,(all 0).2,(all 1).2,(all 2).2,(all 3).2,trivial⟩;by_cases hjk:j<k
  ·rw[(ah1 (x:=x) hjk).1]at hz;cases hz
  ·obtain⟨g1,g2⟩:=ah2 (x:=x) hjk
   rw[g1]at hz;rw[g2];exact(hg j hj).2.2 hz
 |r+1,k,had,P1,P2,e,hh,hP,hQ=>by
  have hk:k<b:=by omega
  obtain⟨s1,s2,s3⟩:=hg k (by omega);obtain⟨y1,y2⟩:=ah1 (x:=x) hk;obtain⟨q1,q2⟩:=hQ k (aY _);refine⟨aq6 (by omega),⟨x.o.V k,x.l.key⟩,aZ.2 ⟨s1,by show(x.o.V k).length<1099511627776;omega⟩,⟨⟨rfl,rfl⟩,rfl,trivial⟩,⟨⟨rfl,λ_ _=>rfl⟩,trivial⟩,λ_ _=>⟨trivial,bf (λhf=> ?_) λhf=> ?_⟩⟩
  ·obtain⟨f1,f2,f3⟩:=IB s1 hf
   refine⟨aq6 (by omega),⟨by omega,by show((uD (x.o.V k) x.l.key:Nat):Int)<_;omega⟩,by show 0+uD (x.o.V k) x.l.key<_;omega,by show 0+uD (x.o.V k) x.l.key<_;omega,trivial,by unfold I64;omega,zu h1 h4 hg r (k+1) _ _ _ (by omega) (λ_=>rfl) (λj hj=> ?_) λj hj=> ?_⟩
   ·by_cases hjk:j=k
    ·subst hjk
     rw[q1,EK];refine⟨⟨y1.trans (lev_z s3 hf).symm,by rw[y2];exact f2⟩,y1,by rw[y2];exact f2,λq _=> ?_⟩;rw[y2,f3 q];show _=Cs.eff _ [(0+uD (x.o.V j) x.l.key,x.l.cs)] q;simp only[Cs.eff,aA];by_cases hq:q=uD (x.o.V j) x.l.key
     ·rw[if_pos hq,hq];simp
     ·rw[if_neg hq,eU hq];rfl
    ·rw[oL hjk];exact hP j (by omega)
   ·rw[oL (by omega)];exact hQ j (by omega)
  ·obtain⟨f1,f2,f3⟩:=aaj s1 hf
   refine⟨aq6 (by omega),⟨rfl,trivial⟩,⟨x.o.z k,x.o.V k,uD (x.o.V k) x.l.key,x.l⟩,aZ.2 ⟨f1,s2⟩,⟨⟨rfl,rfl⟩,rfl,⟨rfl,rfl,rfl⟩,trivial⟩,⟨⟨rfl,rfl,λ_ _=>rfl⟩,⟨rfl,rfl,rfl,rfl,rfl,trivial⟩,trivial⟩,λ_ _=>⟨trivial,aq6 (by omega),trivial,by unfold I64;omega,zu h1 h4 hg r (k+1) _ _ _ (by omega) (λ_=>rfl) (λj hj=> ?_) λj hj=> ?_⟩⟩
   ·by_cases hjk:j=k
    ·subst hjk
     rw[EK,EK];refine⟨⟨y1,by rw[y2];exact f2⟩,y1,by rw[y2];exact f2,λq hq=> ?_⟩;rw[y2]at hq ⊢;rw[f3 q (by omega)]
    ·rw[oL hjk,oL hjk];exact hP j (by omega)
   ·rw[oL (by omega),oL (by omega)];exact hQ j (by omega)
theorem acL{x:ZOs}{b:Nat}(h1:1<=b)(h4:b<=4)(hg:x.o.good)(hs:x.l.key.size<1099511627776)(hl:lvl x.l.key=b):atF b x:=
 ⟨x.l.key,aZ.2 ⟨hs,hl⟩,⟨rfl,trivial⟩,trivial,λ_ _=>zu h1 h4 hg b 0 false _ _ (by omega) (λh=>absurd h (by decide)) (λj hj=>absurd hj (Nat.not_lt_zero j)) λj _=>⟨rfl,rfl⟩⟩
noncomputable def lvK(L:Lks)(k:Nat):Lks:=L.filter λl=>decide (k<lvl l.key)
theorem acM{M:Lks}{l:ZLnk}(h: ∀y∈M,kl l.key y.key=true):jg M l=l::M:=by
 cases M with
 |nil=>rfl
 |cons y M=>
  have hy:=h y (by simp);unfold jg;rw[if_neg (λe=>by rw[e,nZ]at hy;cases hy),if_pos hy]
theorem qg{x:ZLnk}{L:Lks}{k:Nat}:lvK (x::L) k=if k<lvl x.key then x::lvK L k else lvK L k:=by
 unfold lvK;rw[List.filter_cons];by_cases h:k<lvl x.key
 ·rw[decide_eq_true h,if_pos h];rfl
 ·rw[decide_eq_false h,if_neg h];rfl
theorem ah3{L:Lks}{k:Nat}{x:ZLnk}:x∈lvK L k↔x∈L/\k<lvl x.key:=by unfold lvK;rw[List.mem_filter,decide_eq_true_iff]
theorem aq7{L:Lks}{k:Nat}(h:srt L):srt (lvK L k):=List.Pairwise.filter _ h
theorem aq8{L:Lks}{k:Nat}:(lvK L k).length<=L.length:=List.length_filter_le _ _
theorem ah4: ∀{L:Lks} {l:ZLnk} {k:Nat},srt L->lvK (jg L l) k=if k<lvl l.key then jg (lvK L k) l else lvK L k
 |[],l,k,_=>by
  show lvK [l] k=_;rw[qg];rfl
 |x::L,l,k,hs=>by
  obtain⟨hs1,hs2⟩:=List.pairwise_cons.1 hs;have ih:=ah4 (L:=L) (l:=l) (k:=k) hs2;by_cases hx:x.key=l.key
  ·have e:jg (x::L) l=l::L:=by unfold jg;rw[if_pos hx]
   rw[e,qg,qg,hx];by_cases hk:k<lvl l.key
   ·rw[if_pos hk,if_pos hk,if_pos hk];unfold jg;rw[if_pos hx]
   ·rw[if_neg hk,if_neg hk,if_neg hk]
  ·cases hk2:kl l.key x.key with
   |true=>
    have e:jg (x::L) l=l::x::L:=by unfold jg;rw[if_neg hx,if_pos hk2]
    rw[e,qg];by_cases hk:k<lvl l.key
    ·rw[if_pos hk,if_pos hk,acM λy hy=> ?_]
     obtain⟨hy,_⟩:=ah3.1 hy;rcases List.mem_cons.1 hy with rfl|hy
     ·exact hk2
     ·exact jA hk2 (hs1 y hy)
    ·rw[if_neg hk,if_neg hk]
   |false=>
    have e: ∀M,jg (x::M) l=x::jg M l:=λM=>by rw[jg,if_neg hx,if_neg (by rw[hk2];decide)]
    rw[e,qg,ih,qg];by_cases hk:k<lvl l.key
    ·rw[if_pos hk,if_pos hk]
     by_cases hkx:k<lvl x.key
     ·rw[if_pos hkx,if_pos hkx,e]
     ·rw[if_neg hkx,if_neg hkx]
    ·rw[if_neg hk,if_neg hk]
theorem amE{L:Lks}{s:ByteArray}{k:Nat}:lvK (fQ L s) k=if k<lvl s then fQ (lvK L k) s else lvK L k:=by
 have e:lvK (fQ L s) k=fQ (lvK L k) s:=by
  unfold lvK fQ;rw[List.filter_filter,List.filter_filter];exact List.filter_congr λx _=>Bool.and_comm _ _
 rw[e];by_cases hk:k<lvl s
 ·rw[if_pos hk]
 ·rw[if_neg hk]
  refine List.filter_eq_self.2 λx hx=> ?_
  have hx:=(ah3.1 hx).2;have:x.key≠s:=λe=>by rw[e]at hx;exact hk hx
  rw[decide_eq_false this];rfl
theorem ah5: ∀{L:Lks} {s:ByteArray} {k:Nat},k<lvl s->gJ (lvK L k) s=gJ L s
 |[],_,_,_=>rfl
 |x::L,s,k,hk=>by
  rw[qg,jW];have ih:=ah5 (L:=L) hk;by_cases hx:x.key=s
  ·rw[if_pos (by rw[hx];exact hk),if_pos hx,jW,if_pos hx]
  ·rw[if_neg hx]
   by_cases hkx:k<lvl x.key
   ·rw[if_pos hkx,jW,if_neg hx,ih]
   ·rw[if_neg hkx,ih]
structure IC (L:Lks) (o:ZOd):Prop where
 srt:srt L
 size:L.length<=300
 lev: ∀k,k<4->o.V k=lvK L k/\(o.z k=true->o.V k=[])
theorem IC.good{L:Lks}{o:ZOd}(h:IC L o):o.good:=λk hk=>by
 obtain⟨h1,h2⟩:=h.lev k hk;have:=h.size;have:=aq8 (L:=L) (k:=k);exact⟨by rw[h1];exact aq7 h.srt,by rw[h1];omega,h2⟩
noncomputable def ordA(L:Lks):Own:=hide (Ov λh=> ∃t:ZOd,IC L t/\h=hOf (KC t))
theorem ah6(L:Lks):ordA L=Ov λh=> ∃t:ZOd,IC L t/\h=hOf (KC t):=gW _
structure ah7 (X:Type) where
 Y:Type
 post:X->Y->Prop
 ret:X->Y->AV
 L:X->Y->Lks
 m:Nat
 ex:X->Y->List dB
structure aq9 where
 X:Type
 args:X->List AV
 L:X->Lks
 pre:X->Prop
 outs:List (ah7 X)
noncomputable def ah7.po{X:Type}(L0:X->Lks)(o:ah7 X):abr (X×ZOd):={Y:=o.Y×ZOd,post:=λx y=>o.post x.1 y.1/\Hd (IC (o.L x.1 y.1) y.2),ret:=λx y=>o.ret x.1 y.1,m:=o.m,l:=λx y=> .m (KC y.2)::(o.ex x.1 y.1).map PO.o}
noncomputable def ah7.out{X:Type}(o:ah7 X):Out X:={Y:=o.Y,post:=o.post,ret:=o.ret,m:=o.m,os:=λx y=> .abs (ordA (o.L x y))::o.ex x y}
noncomputable def aq9.E(C:aq9):jw:={X:=C.X×ZOd,args:=λx=>C.args x.1,k:=1,l:=λx=>[.m (KC x.2)],pre:=λx=>C.pre x.1/\Hd (IC (C.L x.1) x.2),outs:=C.outs.map (ah7.po C.L)}
noncomputable def aq9.C(C:aq9):Ctr:={X:=C.X,args:=C.args,k:=1,os:=λx=>[.abs (ordA (C.L x))],pre:=C.pre,outs:=C.outs.map ah7.out}
theorem aak{L:Lks}{t:ZOd}(h:IC L t){w:World}{a:SE.Loc}{S:Nat->Prop}(ho:(ownM (KC t)).holds w a S):(ordA L).holds w a S:=by
 rw[pY]at ho;rw[ah6];obtain⟨h0,ρ,e,r⟩:=ho;exact⟨h0,ρ,⟨t,h,e⟩,r⟩
theorem amF{L:Lks}{w:World}{a:SE.Loc}{S:Nat->Prop}(ho:(ordA L).holds w a S): ∃t,IC L t/\(ownM (KC t)).holds w a S:=by
 rw[ah6]at ho;obtain⟨h0,ρ,⟨t,h,e⟩,r⟩:=ho;exact⟨t,h,by rw[pY];exact⟨h0,ρ,e,r⟩⟩
theorem QZ{X:Type}{L0:X->Lks}{x:X}{t:ZOd}{v:AV}{h':Heap}: ∀{l:List (ah7 X)},(∀o∈l,∀x y,(o.ex x y).length+1=o.m)->kS (x,t) v h' ((l.map (ah7.po L0)).map abr.out)-> ∃v0 h0,Leq 1 v h' v0 h0/\kS x v0 h0 (l.map ah7.out)
 |[],_,h=>by simp only[List.map_nil]at h;rw[x9]at h;exact h.elim
 |o::l,hl,h=>by
  simp only[List.map_cons]at h ⊢;rw[dU]at h;rcases h with ⟨y,h1,rfl,rfl⟩|h
  ·have hlen:=hl o (by simp) x y.1
   have hT:IC (o.L x y.1) y.2:=aZ.1 h1.2;refine⟨_,hO o.m (.abs (ordA (o.L x y.1))::o.ex x y.1),⟨?_,λρ T w u hR hv=>⟨ρ,λ_ _=>rfl,?_,hv⟩⟩,by rw[dU];exact .inl ⟨y.1,h1.1,rfl,rfl⟩⟩
   ·show 1<=o.m;omega
   ·have hm:((o.ex x y.1).map PO.o).map PO.ab=o.ex x y.1:=by rw[List.map_map];exact(List.map_id _)
    have hR:Rel (hO o.m (.abs (ownM (KC y.2))::o.ex x y.1)) ρ T w:=by
     have e:(abr.out (ah7.po L0 o)).os (x,t) y= .abs (ownM (KC y.2))::o.ex x y.1:=by
      show PO.ab (.m (KC y.2))::((o.ex x y.1).map PO.o).map PO.ab=_;rw[hm];rfl
     rw[<-e];exact hR
    have h2:=hR.swap (i:=0) (o:= .abs (ownM (KC y.2))) (o':= .abs (ordA (o.L x y.1))) (by rw[jI (by simp only[List.length_cons];omega)];rfl) λa S ho=>aak hT ho
    exact h2.less (by simp;exact aY _) λj x hj=>by rw[zo (by omega)];exact hj
  ·obtain⟨v0,h0,g1,g2⟩:=QZ (l:=l) (λp hp=>hl p (List.mem_cons_of_mem _ hp)) h
   exact⟨v0,h0,g1,by rw[dU];exact .inr g2⟩
theorem ah8{P:Program}{f:FuncId}{C:aq9}(hc:nT P f)(hl: ∀o∈C.outs,∀x y,(o.ex x y).length+1=o.m)(hE:bZ P f C.E.ctr):bZ P f C.C:=λx hp=>by
 refine⟨rfl,hc,λρ T w vs hR hl2=> ?_⟩;obtain⟨t,hR2⟩:=Iy (i:=0) (o:= .abs (ordA (C.L x))) (o':=λt:{t:ZOd//IC (C.L x) t}=> .abs (ownM (KC t.1))) rfl (λa S ho=>by obtain⟨t,h1,h2⟩:=amF ho;exact⟨⟨t,h1⟩,h2⟩) hR;obtain⟨t,ht⟩:=t;have hR3:Rel (hO 1 [.abs (ownM (KC t))]) ρ T w:=hR2.less (aY _) λj y hj=>by
  have:=zo (n:=1) (o:= .abs (ordA (C.L x))) (o':= .abs (ownM (KC t))) (os:=[]) rfl j;exact this.trans hj
 obtain⟨_,hs⟩:=hE (x,t) ⟨hp,aZ.2 ht⟩;refine(hs.2 ρ T w vs hR3 hl2).mono ?_
 rintro e w' ⟨ρ2,v,u,h',c1,c2,c3,c4,c5,c6,c7⟩
 obtain⟨v0,h0,g1,g2⟩:=QZ hl c7;obtain⟨ρ3,q1,q2,q3⟩:=g1.2 ρ2 T w' u c3 c4;exact⟨ρ3,v0,u,h0,λi hi=>(q1 i hi).trans (c1 i hi),g1.1,q2,q3,c5,c6,g2⟩
end Go.Proofs.YtenfleoejgjklaaGreat
end
