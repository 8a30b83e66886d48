import Derived.Test.YtenfleoejgjklaaGreatKa
import Derived.Test.YtenfleoejgjklaaGreatKb
import Derived.Test.YtenfleoejgjklaaGreatKc
import Derived.Test.YtenfleoejgjklaaGreatKd
import Derived.Test.YtenfleoejgjklaaGreatKe
import Derived.KernelRfl
import Derived.Tactics
import Derived.Tactics2
import Derived.Defers
import Derived.Laws.Pointers
import Derived.Laws.LoneSync
import Derived.RegionTactic
import Derived.RegionCalls
import Derived.ChangeAlike
import Derived.Laws.Strings
set_option linter.unusedVariables false
set_option linter.unusedSimpArgs false
set_option linter.unnecessarySimpa false
section
namespace Go.Proofs.YtenfleoejgjklaaGreat
open Go SE
def vG(a:Bys)(b:ah1):Prop:=(a.N=64*b.b.dL/\ ∀q:Nat,q<a.N->[Value.int .u8 (a.g q)]=[Value.int .u8 (b.g q)])/\True
def EW(a:ah1):Prop:= ∀k:Nat,k<64*a.b.dL->isByte [Value.int .u8 (a.g (0+k))]=true
def aaF(a:ZBlk):Prop:=a.kind=0/\a.id=0/\a.ver=0/\a.epoch=0/\a.key=ByteArray.mk #[]/\a.value=ByteArray.mk #[]/\True
def QY(a:ah1):Prop:=(64*a.b.dL=64*a.b.dL/\ ∀q:Nat,q<64*a.b.dL->[Value.int .u8 (a.g q)]=[Value.int .u8 (a.g q)])/\True
def zN(a:ah1):Prop:=True/\((a.b.cls=0/\aaF a.b)/\true=false/\True)/\QY a
def QZ(a:ZBlk)(b:Nat):Prop:=isByte [Value.int .u8 (a.enc (0+b))]=true
def aaG(a:ZBlk):Prop:= ∀k:Nat,k<64*a.dL->QZ a k
def mV(a:Int)(b:ET):Prop:=a=wV (λ(k:Nat)=>b.b.g (b.b.q+k)) b.at_ b.w
def EX(a:ah1)(b:ET)(c:BI)(d:ET):Prop:=mV a.b.epoch b/\a.b.key=ByteArray.extract c.str 0 (Int.toNat (a.g 3))/\a.b.value=ByteArray.extract c.str (Int.toNat (a.g 3)) (Int.toNat (a.g 3+wV (λ(k:Nat)=>d.b.g (d.b.q+k)) d.at_ d.w))/\True
def yQ(a:ET):Prop:=Hd (a.b.ok/\a.at_+a.w<=a.b.n/\1<=a.w/\a.w<=8)
def aaH(a:ZBlk):Prop:=Hd (a.may/\a.key.size<1099511627776/\a.value.size<1099511627776)
def vH(a:ZBlk):Prop:=0+64*a.dL<=64*a.dL
def I9(a:Nat):Prop:=(a:Int)=8/\True
def aaI(a:ZBlk)(b:BI)(c:ah1)(d:ET):Prop:=a.key=ByteArray.extract b.str 0 (Int.toNat (c.g 3))/\a.value=ByteArray.extract b.str (Int.toNat (c.g 3)) (Int.toNat (c.g 3+wV (λ(k:Nat)=>d.b.g (d.b.q+k)) d.at_ d.w))/\True
def BJ(a:Bys)(b:ZBlk):Prop:=a.q=0/\a.n=64*b.dL
def aaJ(a:ET)(b:ZBlk):Prop:=BJ a.b b/\(a.at_:Int)=24/\I9 a.w
def arN(a:ah1)(b:ET)(c:BI)(d:ET):Prop:=True/\ ∃x_6:ET,yQ x_6/\(BJ x_6.b a.b/\(x_6.at_:Int)=16/\I9 x_6.w)/\vG x_6.b a/\ ∀y_5:Unit,True->True/\ ∃x_7:ET,yQ x_7/\aaJ x_7 a.b/\vG x_7.b a/\ ∀y_6:Unit,True->True/\True/\ ∃x_8:ZBlk,aaH x_8/\((x_8.cls=a.g 1/\x_8.kind=a.g 2/\mV x_8.id b/\mV x_8.ver x_6/\mV x_8.epoch x_7/\aaI x_8 c a d)/\True)/\True/\(∀y_7:Unit,Hd (x_8.cls=0)->64<=64/\(∀k:Nat,k<64->QZ x_8 k)/\vH a.b/\EW a/\cP (Bool.not (BEq.beq (ByteArray.toList (@ByteArray.mk (@List.toArray UInt8 (List.map (λ(k:Nat)=>UInt8.ofBitVec (@BitVec.ofNat 8 (Int.toNat (x_8.enc (0+k))))) (@List.range 64))))) (ByteArray.toList (@ByteArray.mk (@List.toArray UInt8 (List.map (λ(k:Nat)=>UInt8.ofBitVec (@BitVec.ofNat 8 (Int.toNat (a.g (0+k))))) (@List.range (64*a.b.dL)))))))) (∃y_8:Unit,zN a) (∃y_8:Unit,True/\((a.b.cls=a.g 1/\a.b.kind=a.g 2/\mV a.b.id b/\mV a.b.ver x_6/\EX a x_7 c d)/\true=true/\True)/\QY a))/\ ∀y_7:Unit,Hd (x_8.cls≠(0:Int))->vH x_8/\aaG x_8/\vH a.b/\EW a/\cP (Bool.not (BEq.beq (ByteArray.toList (@ByteArray.mk (@List.toArray UInt8 (List.map (λ(k:Nat)=>UInt8.ofBitVec (@BitVec.ofNat 8 (Int.toNat (x_8.enc (0+k))))) (@List.range (64*x_8.dL)))))) (ByteArray.toList (@ByteArray.mk (@List.toArray UInt8 (List.map (λ(k:Nat)=>UInt8.ofBitVec (@BitVec.ofNat 8 (Int.toNat (a.g (0+k))))) (@List.range (64*a.b.dL)))))))) (∃y_8:Unit,zN a) (∃y_8:Unit,True/\((a.b.cls=a.g 1/\a.b.kind=a.g 2/\mV a.b.id b/\mV a.b.ver x_6/\EX a x_7 c d)/\true=true/\True)/\QY a)
def ah2(a:zM):Prop:=64=64/\ ∀q:Nat,q<64->[Value.int .u8 (a.b.jL (λ(k:Nat)=>a.d.g (a.d.q+k)) a.d.n q)]=[Value.int .u8 (a.b.jL (λ(k:Nat)=>a.d.g (a.d.q+k)) a.d.n q)]
def ah3(a:ZBlk):Prop:=(a.cls=a.cls/\a.kind=a.kind/\a.id=a.id/\a.ver=a.ver/\a.epoch=a.epoch/\a.key=a.key/\a.value=a.value/\True)/\True
def ac8(a:zM)(b:Int)(c:ZBlk):Prop:=ah2 a/\(Int.toNat (cpc b)=Int.toNat (cpc b)/\ ∀q:Nat,q<Int.toNat (cpc b)->Cs.eff (λ(p:Nat)=>cond (Nat.ble 0 p&&Nat.blt p (0+ByteArray.size (c.key++c.value))) [Value.int .u8 (eG (c.key++c.value) (p-0))] [Value.int .u8 0]) [] q=Cs.eff (λ(p:Nat)=>cond (Nat.ble 0 p&&Nat.blt p (0+ByteArray.size (c.key++c.value))) [Value.int .u8 (eG (c.key++c.value) (p-0))] [Value.int .u8 0]) [] q)/\ah3 c
def ac9(a:zM)(b:Int)(c:ZBlk):Prop:=ah2 a/\(Int.toNat (cpc b)=Int.toNat (cpc b)/\ ∀q:Nat,q<Int.toNat (cpc b)->Cs.eff (λ(p:Nat)=>cond (Nat.ble 0 p&&Nat.blt p (0+Int.toNat (cpc b))) [Value.int .u8 (eG (c.key++c.value) (p-0))] [Value.int .u8 0]) [] q=Cs.eff (λ(p:Nat)=>cond (Nat.ble 0 p&&Nat.blt p (0+Int.toNat (cpc b))) [Value.int .u8 (eG (c.key++c.value) (p-0))] [Value.int .u8 0]) [] q)/\ah3 c
def ah4(a:ZBlk)(b:Nat)(c:Nat):Prop:=(Nat.beq (List.length (Cs.eff (λ(p:Nat)=>cond (Nat.ble 0 p&&Nat.blt p (0+ByteArray.size (a.key++a.value))) [Value.int .u8 (eG (a.key++a.value) (p-0))] [Value.int .u8 0]) [] (28+63*b+c))) 1&&List.all (Cs.eff (λ(p:Nat)=>cond (Nat.ble 0 p&&Nat.blt p (0+ByteArray.size (a.key++a.value))) [Value.int .u8 (eG (a.key++a.value) (p-0))] [Value.int .u8 0]) [] (28+63*b+c)) Value.oneCell')=true
def ah5(a:ZBlk)(b:Nat):Prop:=(Nat.beq (List.length (Cs.eff (λ(p:Nat)=>cond (Nat.ble 0 p&&Nat.blt p (0+ByteArray.size (a.key++a.value))) [Value.int .u8 (eG (a.key++a.value) (p-0))] [Value.int .u8 0]) [] (28+b))) 1&&List.all (Cs.eff (λ(p:Nat)=>cond (Nat.ble 0 p&&Nat.blt p (0+ByteArray.size (a.key++a.value))) [Value.int .u8 (eG (a.key++a.value) (p-0))] [Value.int .u8 0]) [] (28+b)) Value.oneCell')=true
def ah6(a:Int)(b:ZBlk)(c:Nat)(d:Nat):Prop:=(Nat.beq (List.length (Cs.eff (λ(p:Nat)=>cond (Nat.ble 0 p&&Nat.blt p (0+Int.toNat (cpc a))) [Value.int .u8 (eG (b.key++b.value) (p-0))] [Value.int .u8 0]) [] (28+63*c+d))) 1&&List.all (Cs.eff (λ(p:Nat)=>cond (Nat.ble 0 p&&Nat.blt p (0+Int.toNat (cpc a))) [Value.int .u8 (eG (b.key++b.value) (p-0))] [Value.int .u8 0]) [] (28+63*c+d)) Value.oneCell')=true
def ah7(a:Int)(b:ZBlk)(c:Nat):Prop:=(Nat.beq (List.length (Cs.eff (λ(p:Nat)=>cond (Nat.ble 0 p&&Nat.blt p (0+Int.toNat (cpc a))) [Value.int .u8 (eG (b.key++b.value) (p-0))] [Value.int .u8 0]) [] (28+c))) 1&&List.all (Cs.eff (λ(p:Nat)=>cond (Nat.ble 0 p&&Nat.blt p (0+Int.toNat (cpc a))) [Value.int .u8 (eG (b.key++b.value) (p-0))] [Value.int .u8 0]) [] (28+c)) Value.oneCell')=true
def ah8(a:ZBlk)(b:zM):Prop:=(∃y_4:Unit,Hd (a.cls=0)/\((0=0/\64=64/\64=64)/\(0:Int)=0/\True)/\(64=64/\ ∀q:Nat,q<64->[Value.int .u8 (a.enc q)]=[Value.int .u8 (b.b.jL (λ(k:Nat)=>b.d.g (b.d.q+k)) b.d.n q)])/\True)\/ ∃y_4:Unit,Hd (a.cls≠(0:Int))/\(False/\(0:Int)=0/\True)/\False/\True
def Q5:Prop:=(0:Int)<=64/\(0:Int)<=0/\(0:Int)<=281474976710592/\(0:Int)<=4611686018427387839
def ah9(a:ZBlk)(b:Nat):Prop:=(∃y_4:Unit,Hd (a.cls=0)/\(False/\(0:Int)=0/\True)/\False/\True)\/ ∃y_4:Unit,Hd (a.cls≠(0:Int))/\((0=0/\64*a.dL=64*(b+1))/\(0:Int)=0/\True)/\(64*a.dL=64*(b+1)/\ ∀q:Nat,q<64*a.dL->[Value.int .u8 (a.enc q)]=[Value.int .u8 (a.enc q)])/\True
def Q7(a:ZBlk)(b:Nat):Prop:=a.iI-28-63*b<=a.iI-28-63*b
def aaK(a:ZBlk)(b:ZBlk):Prop:=a.cls=b.cls/\a.kind=b.kind/\a.id=b.id/\a.ver=b.ver/\a.epoch=b.epoch/\a.key=b.key/\a.value=b.value/\True
def EY(a:Nat)(b:Nat):Prop:=64*(a+1)=64*(b+1)+64
def aia(a:Nat)(b:Nat)(c:ZBlk):Prop:=(a:Int)=(b:Int)+1/\(28+63*a=28+63*b+(c.iI-28-63*b)/\c.iI-28-63*a=c.iI-28-63*b-(c.iI-28-63*b)/\c.iI-28-63*a=c.iI-28-63*b-(c.iI-28-63*b))/\(0=0/\EY a b)/\True
def Q8(a:ZBlk)(b:Nat):Prop:=Q7 a b/\Q7 a b
def rG(a:Nat)(b:ZBlk):Prop:=Hd (1<=a/\a+1<=b.dL)
def Ja(a:Bys):Prop:=(rowB a.g a.N=rowB a.g a.N/\true=true)/\True
def aib(a:Nat)(b:Nat)(c:ZBlk):Prop:=(a:Int)=(b:Int)+1/\(28+63*a=28+63*b+63/\c.iI-28-63*a=c.iI-28-63*b-63/\c.iI-28-63*a=c.iI-28-63*b-63)/\(0=0/\EY a b)/\True
def aic(a:Nat)(b:ZBlk):Prop:=(a:Int)=1/\(28+63*a=28+(b.iI-28)/\b.iI-28-63*a=b.iI-28-(b.iI-28)/\b.iI-28-63*a=b.iI-28-(b.iI-28))/\(0=0/\64*(a+1)=128)/\True
def rH(a:ZBlk):Prop:=a.iI-28<=a.iI-28
def aie(a:Nat)(b:ZBlk):Prop:=(a:Int)=1/\(28+63*a=91/\b.iI-28-63*a=b.iI-28-63/\b.iI-28-63*a=b.iI-28-63)/\(0=0/\64*(a+1)=128)/\True
def Q9(a:Nat):Prop:=(2*(64*(a+1)+64)+1000)*1<=281474976710656
def EZ:Prop:=(0:Int)<=0/\(0:Int)<=63
def Rf:Prop:=(2*(64+64)+1000)*1<=281474976710656
def aif(a:ZBlk)(b:Int):Prop:=(0:Int)=0/\(28=28/\a.iI-28=Int.toNat (cpc b)-28/\a.iI-28=Int.toNat (cpc b)-28)/\(0=0/\64=64/\64=64)/\True
def aii(a:ZBlk)(b:Nat):Prop:=(Nat.beq (List.length [Value.int .u8 (eG (a.key++a.value) b)]) 1&&List.all [Value.int .u8 (eG (a.key++a.value) b)] Value.oneCell')=true
def aij(a:Int):Prop:=28<=Int.toNat (cpc a)/\Int.toNat (cpc a)<=Int.toNat (cpc a)/\Int.toNat (cpc a)<=Int.toNat (cpc a)
def Rh:Prop:=1<=64/\64<=64/\64<=64
def aik(a:Nat)(b:Nat):Prop:=28+63*a=28+63*b+(Int.toNat (((64+64*b:Nat):Int)+64)-Int.toNat (((64+64*b:Nat):Int)+1))
def aaL(a:Int):Prop:=0<=cpc a/\cpc a<=cpc a/\1*cpc a<=281474976710656/\cpc a<4611686018427387904
def arO(x:ZBlk):Prop:=
 ∃x_1:ZBlk,Hd (x_1.key.size<1099511627776/\x_1.value.size<1099511627776)/\(aaK x_1 x/\True)/\True/\ ∀y:Unit,True->cP (Bool.not x_1.OJ) ((∃y_1:Unit,Hd (x.cls=0)/\(False/\(0:Int)=3/\True)/\False/\True)\/ ∃y_1:Unit,Hd (x.cls≠(0:Int))/\(False/\(0:Int)=3/\True)/\False/\True) (∃x_2:Int,True/\(x_2=x.cls/\True)/\True/\ ∀y_1:Unit,True->aaL x_2/\((x.key.size+x.value.size:Nat):Int)<=9223372036854775807/\0+Int.toNat (cpc x_2)<=Int.toNat (cpc x_2)/\cP (Nat.ble (ByteArray.size (x.key++x.value)) (Int.toNat (cpc x_2))) ((∀k:Nat,k<ByteArray.size (x.key++x.value)->aii x k)/\ ∃x_3:zM,Hd x_3.ok/\(aaK x_3.b x/\(x_3.d.q=0/\x_3.d.n=Int.toNat (cpc x_2))/\True)/\((x_3.d.N=Int.toNat (cpc x_2)/\ ∀q:Nat,q<x_3.d.N->[Value.int .u8 (x_3.d.g q)]=Cs.eff (λ(p:Nat)=>cond (Nat.ble 0 p&&Nat.blt p (0+ByteArray.size (x.key++x.value))) [Value.int .u8 (eG (x.key++x.value) (p-0))] [Value.int .u8 0]) [] q)/\True)/\ ∀y_2:Unit,True->(0:Int)<=28/\aij x_2/\ ∃x_4:Int,True/\(x_4=x.cls/\True)/\True/\ ∀y_3:Unit,True->I64 (spn x_4-1)/\(∃s:Unit,Hd True/\True/\aif x x_2/\ac8 x_3 x_2 x)/\(∀s:Unit,Hd True->cP (decide (0<spn x_4-1)) (Q5/\EZ/\0<64/\(0:Int)<=1/\Rh/\64<=64/\cP (Nat.ble (x.iI-28) 63) (28+(x.iI-28)<=Int.toNat (cpc x_2)/\(∀k:Nat,k<x.iI-28->ah5 x k)/\0<=((x.iI-28:Nat):Int)/\(rH x/\rH x/\rH x)/\64<=64/\64<=64/\Rf/\I64 (1:Int)/\ ∃s_1:Nat,rG s_1 x/\x.dL-s_1<x.dL+1/\aic s_1 x/\(64*(s_1+1)=128/\
 ∀q:Nat,q<64*(s_1+1)->[Value.int .u8 (x.enc q)]=Cs.eff (λ(q_1:Nat)=>cond (Nat.blt q_1 64) [Value.int .u8 (x_3.b.jL (λ(k:Nat)=>x_3.d.g (x_3.d.q+k)) x_3.d.n (0+q_1))] (Cs.eff (λ(p:Nat)=>cond (Nat.ble 1 p&&Nat.blt p (1+(x.iI-28))) (Cs.eff (λ(p_1:Nat)=>cond (Nat.ble 0 p_1&&Nat.blt p_1 (0+ByteArray.size (x.key++x.value))) [Value.int .u8 (eG (x.key++x.value) (p_1-0))] [Value.int .u8 0]) [] (28+(p-1))) (Cs.eff (λ(x_5:Nat)=>[Value.int .u8 0]) [(0,[Value.int .u8 2])] p)) [] (0+(q_1-64)))) [] q)/\ac8 x_3 x_2 x) (91<=Int.toNat (cpc x_2)/\(∀k:Nat,k<63->ah5 x k)/\0<=((63:Nat):Int)/\(63<=x.iI-28/\rH x/\rH x)/\64<=64/\64<=64/\Rf/\I64 (1:Int)/\ ∃s_1:Nat,rG s_1 x/\x.dL-s_1<x.dL+1/\aie s_1 x/\(64*(s_1+1)=128/\ ∀q:Nat,q<64*(s_1+1)->[Value.int .u8 (x.enc q)]=Cs.eff (λ(q_1:Nat)=>cond (Nat.blt q_1 64) [Value.int .u8 (x_3.b.jL (λ(k:Nat)=>x_3.d.g (x_3.d.q+k)) x_3.d.n (0+q_1))] (Cs.eff (λ(p:Nat)=>cond (Nat.ble 1 p&&Nat.blt p 64) (Cs.eff (λ(p_1:Nat)=>cond (Nat.ble 0 p_1&&Nat.blt p_1 (0+ByteArray.size (x.key++x.value))) [Value.int .u8 (eG (x.key++x.value) (p_1-0))] [Value.int .u8 0]) [] (28+(p-1))) (Cs.eff (λ(x_5:Nat)=>[Value.int .u8 0]) [(0,[Value.int .u8 2])] p)) [] (0+(q_1-64)))) [] q)/\ac8 x_3 x_2 x)) (ah8 x x_3))/\(∀s:Nat,rG s x->cP (decide ((s:Int)<spn x_4-1)) (Q5/\EZ/\0<64/\(0:Int)<=1/\Rh/\64<=64/\cP (Nat.ble (x.iI-28-63*s) 63) (28+63*s+(x.iI-28-63*s)<=Int.toNat (cpc x_2)/\(∀k:Nat,k<x.iI-28-63*s->ah4 x s k)/\0<=((x.iI-28-63*s:Nat):Int)/\(Q7 x s/\
 Q8 x s)/\64*(s+1)=64*(s+1)/\64<=64/\(∀k:Nat,k<64->(Nat.beq (List.length (Cs.eff (λ(p:Nat)=>cond (Nat.ble 1 p&&Nat.blt p (1+(x.iI-28-63*s))) (Cs.eff (λ(p_1:Nat)=>cond (Nat.ble 0 p_1&&Nat.blt p_1 (0+ByteArray.size (x.key++x.value))) [Value.int .u8 (eG (x.key++x.value) (p_1-0))] [Value.int .u8 0]) [] (28+63*s+(p-1))) (Cs.eff (λ(x_5:Nat)=>[Value.int .u8 0]) [(0,[Value.int .u8 2])] p)) [] (0+k))) 1&&List.all (Cs.eff (λ(p:Nat)=>cond (Nat.ble 1 p&&Nat.blt p (1+(x.iI-28-63*s))) (Cs.eff (λ(p_1:Nat)=>cond (Nat.ble 0 p_1&&Nat.blt p_1 (0+ByteArray.size (x.key++x.value))) [Value.int .u8 (eG (x.key++x.value) (p_1-0))] [Value.int .u8 0]) [] (28+63*s+(p-1))) (Cs.eff (λ(x_5:Nat)=>[Value.int .u8 0]) [(0,[Value.int .u8 2])] p)) [] (0+k)) Value.oneCell')=true)/\Q9 s/\I64 ((s:Int)+1)/\ ∃s_1:Nat,rG s_1 x/\x.dL-s_1<x.dL-s/\aia s_1 s x/\(EY s_1 s/\ ∀q:Nat,q<64*(s_1+1)->[Value.int .u8 (x.enc q)]=Cs.eff (λ(q_1:Nat)=>cond (Nat.blt q_1 (64*(s+1))) [Value.int .u8 (x.enc q_1)] (Cs.eff (λ(p:Nat)=>cond (Nat.ble 1 p&&Nat.blt p (1+(x.iI-28-63*s))) (Cs.eff (λ(p_1:Nat)=>cond (Nat.ble 0 p_1&&Nat.blt p_1 (0+ByteArray.size (x.key++x.value))) [Value.int .u8 (eG (x.key++x.value) (p_1-0))] [Value.int .u8 0]) [] (28+63*s+(p-1))) (Cs.eff (λ(x_5:Nat)=>[Value.int .u8 0]) [(0,[Value.int .u8 2])] p)) [] (0+(q_1-64*(s+1))))) [] q)/\ac8 x_3 x_2 x) (28+63*s+63<=Int.toNat (cpc x_2)/\(∀k:Nat,k<63->ah4 x s k)/\0<=((63:Nat):Int)/\(63<=x.iI-28-63*s/\Q8 x s)/\64*(s+1)=64*(s+1)/\64<=64/\
 (∀k:Nat,k<64->(Nat.beq (List.length (Cs.eff (λ(p:Nat)=>cond (Nat.ble 1 p&&Nat.blt p 64) (Cs.eff (λ(p_1:Nat)=>cond (Nat.ble 0 p_1&&Nat.blt p_1 (0+ByteArray.size (x.key++x.value))) [Value.int .u8 (eG (x.key++x.value) (p_1-0))] [Value.int .u8 0]) [] (28+63*s+(p-1))) (Cs.eff (λ(x_5:Nat)=>[Value.int .u8 0]) [(0,[Value.int .u8 2])] p)) [] (0+k))) 1&&List.all (Cs.eff (λ(p:Nat)=>cond (Nat.ble 1 p&&Nat.blt p 64) (Cs.eff (λ(p_1:Nat)=>cond (Nat.ble 0 p_1&&Nat.blt p_1 (0+ByteArray.size (x.key++x.value))) [Value.int .u8 (eG (x.key++x.value) (p_1-0))] [Value.int .u8 0]) [] (28+63*s+(p-1))) (Cs.eff (λ(x_5:Nat)=>[Value.int .u8 0]) [(0,[Value.int .u8 2])] p)) [] (0+k)) Value.oneCell')=true)/\Q9 s/\I64 ((s:Int)+1)/\ ∃s_1:Nat,rG s_1 x/\x.dL-s_1<x.dL-s/\aib s_1 s x/\(EY s_1 s/\ ∀q:Nat,q<64*(s_1+1)->[Value.int .u8 (x.enc q)]=Cs.eff (λ(q_1:Nat)=>cond (Nat.blt q_1 (64*(s+1))) [Value.int .u8 (x.enc q_1)] (Cs.eff (λ(p:Nat)=>cond (Nat.ble 1 p&&Nat.blt p 64) (Cs.eff (λ(p_1:Nat)=>cond (Nat.ble 0 p_1&&Nat.blt p_1 (0+ByteArray.size (x.key++x.value))) [Value.int .u8 (eG (x.key++x.value) (p_1-0))] [Value.int .u8 0]) [] (28+63*s+(p-1))) (Cs.eff (λ(x_5:Nat)=>[Value.int .u8 0]) [(0,[Value.int .u8 2])] p)) [] (0+(q_1-64*(s+1))))) [] q)/\ac8 x_3 x_2 x)) (ah9 x s))/\True) ((∀k:Nat,k<Int.toNat (cpc x_2)->aii x k)/\ ∃x_3:zM,Hd x_3.ok/\(aaK x_3.b x/\(x_3.d.q=0/\x_3.d.n=Int.toNat (cpc x_2))/\True)/\((x_3.d.N=Int.toNat (cpc x_2)/\
 ∀q:Nat,q<x_3.d.N->[Value.int .u8 (x_3.d.g q)]=Cs.eff (λ(p:Nat)=>cond (Nat.ble 0 p&&Nat.blt p (0+Int.toNat (cpc x_2))) [Value.int .u8 (eG (x.key++x.value) (p-0))] [Value.int .u8 0]) [] q)/\True)/\ ∀y_2:Unit,True->(0:Int)<=28/\aij x_2/\ ∃x_4:Int,True/\(x_4=x.cls/\True)/\True/\ ∀y_3:Unit,True->I64 (spn x_4-1)/\(∃s:Unit,Hd True/\True/\aif x x_2/\ac9 x_3 x_2 x)/\(∀s:Unit,Hd True->cP (decide (0<spn x_4-1)) (Q5/\EZ/\0<64/\(0:Int)<=1/\Rh/\64<=64/\cP (Nat.ble (x.iI-28) 63) (28+(x.iI-28)<=Int.toNat (cpc x_2)/\(∀k:Nat,k<x.iI-28->ah7 x_2 x k)/\0<=((x.iI-28:Nat):Int)/\(rH x/\rH x/\rH x)/\64<=64/\64<=64/\Rf/\I64 (1:Int)/\ ∃s_1:Nat,rG s_1 x/\x.dL-s_1<x.dL+1/\aic s_1 x/\(64*(s_1+1)=128/\ ∀q:Nat,q<64*(s_1+1)->[Value.int .u8 (x.enc q)]=Cs.eff (λ(q_1:Nat)=>cond (Nat.blt q_1 64) [Value.int .u8 (x_3.b.jL (λ(k:Nat)=>x_3.d.g (x_3.d.q+k)) x_3.d.n (0+q_1))] (Cs.eff (λ(p:Nat)=>cond (Nat.ble 1 p&&Nat.blt p (1+(x.iI-28))) (Cs.eff (λ(p_1:Nat)=>cond (Nat.ble 0 p_1&&Nat.blt p_1 (0+Int.toNat (cpc x_2))) [Value.int .u8 (eG (x.key++x.value) (p_1-0))] [Value.int .u8 0]) [] (28+(p-1))) (Cs.eff (λ(x_5:Nat)=>[Value.int .u8 0]) [(0,[Value.int .u8 2])] p)) [] (0+(q_1-64)))) [] q)/\ac9 x_3 x_2 x) (91<=Int.toNat (cpc x_2)/\(∀k:Nat,k<63->ah7 x_2 x k)/\0<=((63:Nat):Int)/\(63<=x.iI-28/\rH x/\rH x)/\64<=64/\64<=64/\Rf/\I64 (1:Int)/\ ∃s_1:Nat,rG s_1 x/\x.dL-s_1<x.dL+1/\aie s_1 x/\(64*(s_1+1)=128/\
 ∀q:Nat,q<64*(s_1+1)->[Value.int .u8 (x.enc q)]=Cs.eff (λ(q_1:Nat)=>cond (Nat.blt q_1 64) [Value.int .u8 (x_3.b.jL (λ(k:Nat)=>x_3.d.g (x_3.d.q+k)) x_3.d.n (0+q_1))] (Cs.eff (λ(p:Nat)=>cond (Nat.ble 1 p&&Nat.blt p 64) (Cs.eff (λ(p_1:Nat)=>cond (Nat.ble 0 p_1&&Nat.blt p_1 (0+Int.toNat (cpc x_2))) [Value.int .u8 (eG (x.key++x.value) (p_1-0))] [Value.int .u8 0]) [] (28+(p-1))) (Cs.eff (λ(x_5:Nat)=>[Value.int .u8 0]) [(0,[Value.int .u8 2])] p)) [] (0+(q_1-64)))) [] q)/\ac9 x_3 x_2 x)) (ah8 x x_3))/\(∀s:Nat,rG s x->cP (decide ((s:Int)<spn x_4-1)) (Q5/\EZ/\0<64/\(0:Int)<=1/\Rh/\64<=64/\cP (Nat.ble (x.iI-28-63*s) 63) (28+63*s+(x.iI-28-63*s)<=Int.toNat (cpc x_2)/\(∀k:Nat,k<x.iI-28-63*s->ah6 x_2 x s k)/\0<=((x.iI-28-63*s:Nat):Int)/\(Q7 x s/\Q8 x s)/\64*(s+1)=64*(s+1)/\64<=64/\(∀k:Nat,k<64->(Nat.beq (List.length (Cs.eff (λ(p:Nat)=>cond (Nat.ble 1 p&&Nat.blt p (1+(x.iI-28-63*s))) (Cs.eff (λ(p_1:Nat)=>cond (Nat.ble 0 p_1&&Nat.blt p_1 (0+Int.toNat (cpc x_2))) [Value.int .u8 (eG (x.key++x.value) (p_1-0))] [Value.int .u8 0]) [] (28+63*s+(p-1))) (Cs.eff (λ(x_5:Nat)=>[Value.int .u8 0]) [(0,[Value.int .u8 2])] p)) [] (0+k))) 1&&List.all (Cs.eff (λ(p:Nat)=>cond (Nat.ble 1 p&&Nat.blt p (1+(x.iI-28-63*s))) (Cs.eff (λ(p_1:Nat)=>cond (Nat.ble 0 p_1&&Nat.blt p_1 (0+Int.toNat (cpc x_2))) [Value.int .u8 (eG (x.key++x.value) (p_1-0))] [Value.int .u8 0]) [] (28+63*s+(p-1))) (Cs.eff (λ(x_5:Nat)=>[Value.int .u8 0]) [(0,[Value.int .u8 2])] p)) [] (0+k)) Value.oneCell')=true)/\
 Q9 s/\I64 ((s:Int)+1)/\ ∃s_1:Nat,rG s_1 x/\x.dL-s_1<x.dL-s/\aia s_1 s x/\(EY s_1 s/\ ∀q:Nat,q<64*(s_1+1)->[Value.int .u8 (x.enc q)]=Cs.eff (λ(q_1:Nat)=>cond (Nat.blt q_1 (64*(s+1))) [Value.int .u8 (x.enc q_1)] (Cs.eff (λ(p:Nat)=>cond (Nat.ble 1 p&&Nat.blt p (1+(x.iI-28-63*s))) (Cs.eff (λ(p_1:Nat)=>cond (Nat.ble 0 p_1&&Nat.blt p_1 (0+Int.toNat (cpc x_2))) [Value.int .u8 (eG (x.key++x.value) (p_1-0))] [Value.int .u8 0]) [] (28+63*s+(p-1))) (Cs.eff (λ(x_5:Nat)=>[Value.int .u8 0]) [(0,[Value.int .u8 2])] p)) [] (0+(q_1-64*(s+1))))) [] q)/\ac9 x_3 x_2 x) (28+63*s+63<=Int.toNat (cpc x_2)/\(∀k:Nat,k<63->ah6 x_2 x s k)/\0<=((63:Nat):Int)/\(63<=x.iI-28-63*s/\Q8 x s)/\64*(s+1)=64*(s+1)/\64<=64/\(∀k:Nat,k<64->(Nat.beq (List.length (Cs.eff (λ(p:Nat)=>cond (Nat.ble 1 p&&Nat.blt p 64) (Cs.eff (λ(p_1:Nat)=>cond (Nat.ble 0 p_1&&Nat.blt p_1 (0+Int.toNat (cpc x_2))) [Value.int .u8 (eG (x.key++x.value) (p_1-0))] [Value.int .u8 0]) [] (28+63*s+(p-1))) (Cs.eff (λ(x_5:Nat)=>[Value.int .u8 0]) [(0,[Value.int .u8 2])] p)) [] (0+k))) 1&&List.all (Cs.eff (λ(p:Nat)=>cond (Nat.ble 1 p&&Nat.blt p 64) (Cs.eff (λ(p_1:Nat)=>cond (Nat.ble 0 p_1&&Nat.blt p_1 (0+Int.toNat (cpc x_2))) [Value.int .u8 (eG (x.key++x.value) (p_1-0))] [Value.int .u8 0]) [] (28+63*s+(p-1))) (Cs.eff (λ(x_5:Nat)=>[Value.int .u8 0]) [(0,[Value.int .u8 2])] p)) [] (0+k)) Value.oneCell')=true)/\Q9 s/\I64 ((s:Int)+1)/\ ∃s_1:Nat,rG s_1 x/\x.dL-s_1<x.dL-s/\aib s_1 s x/\(EY s_1 s/\
 ∀q:Nat,q<64*(s_1+1)->[Value.int .u8 (x.enc q)]=Cs.eff (λ(q_1:Nat)=>cond (Nat.blt q_1 (64*(s+1))) [Value.int .u8 (x.enc q_1)] (Cs.eff (λ(p:Nat)=>cond (Nat.ble 1 p&&Nat.blt p 64) (Cs.eff (λ(p_1:Nat)=>cond (Nat.ble 0 p_1&&Nat.blt p_1 (0+Int.toNat (cpc x_2))) [Value.int .u8 (eG (x.key++x.value) (p_1-0))] [Value.int .u8 0]) [] (28+63*s+(p-1))) (Cs.eff (λ(x_5:Nat)=>[Value.int .u8 0]) [(0,[Value.int .u8 2])] p)) [] (0+(q_1-64*(s+1))))) [] q)/\ac9 x_3 x_2 x)) (ah9 x s))/\True))
theorem amQ(x:ZBlk):arO x=wpF Tryz.prog arM tt (auF x) 200 5 180 (apD.args x) (hO apD.k (apD.os x)) (λv h'=>eX apD.k x v h' apD.outs):=by kernel_rfl
def Wn(x:Int):Prop:=
 ∃x_1:Int,True/\(x_1=x/\True)/\True/\ ∀y:Unit,True->cP (BEq.beq (spn x_1) (0:Int)) (∃y_1:Unit,True/\False/\False/\True) (∃x_2:Int,True/\(x_2=x/\True)/\True/\ ∀y_1:Unit,True->aaL x_2/\ ∃x_3:zM,Hd x_3.ok/\((x_3.b.cls=x/\aaF x_3.b)/\(x_3.d.q=0/\x_3.d.n=Int.toNat (cpc x_2))/\True)/\((x_3.d.N=Int.toNat (cpc x_2)/\ ∀q:Nat,q<x_3.d.N->[Value.int .u8 (x_3.d.g q)]=[Value.int .u8 0])/\True)/\ ∀y_2:Unit,True-> ∃y_3:Unit,True/\(0=0/\64=64/\64=64)/\(64=64/\ ∀q:Nat,q<64->[Value.int .u8 (ZBlk.jL (ZBlk.mk x (0:Int) (0:Int) (0:Int) (0:Int) (ByteArray.mk #[]) (ByteArray.mk #[])) (λ(x_4:Nat)=>(0:Int)) (Int.toNat (cpc x)) q)]=[Value.int .u8 (x_3.b.jL (λ(k:Nat)=>x_3.d.g (x_3.d.q+k)) x_3.d.n q)])/\True)
theorem ada(x:Int):Wn x=wpF Tryz.prog arM tt (noA x) 200 5 63 (EU.args x) (hO EU.k (EU.os x)) (λv h'=>eX EU.k x v h' EU.outs):=by kernel_rfl
def ail(x:BI):Prop:=
 (0:Int)<=64/\(0:Int)<=36/\(36<=64/\64<=x.b.n/\x.b.n<=x.b.n)/\x.b.q+36+28<=x.b.N/\(2*(0+28)+1000)*1<=281474976710656/\(∃s:Unit,Hd True/\True/\((64:Int)=64/\(0=0/\28=0+28)/\True)/\(28=28/\ ∀q:Nat,q<28->[Value.int .u8 (x.at_ q)]=[Value.int .u8 (x.b.g (x.b.q+36+(q-0)))])/\True/\Ja x.b)/\(∀s:Unit,Hd True->cP (decide (64<(x.b.n:Int))) (I64 (65:Int)/\I64 (128:Int)/\(0:Int)<=128/\(0:Int)<=65/\(65<=128/\128<=x.b.n/\x.b.n<=x.b.n)/\28=28/\x.b.q+65+63<=x.b.N/\(∀k:Nat,k<63->(Nat.beq (List.length [Value.int .u8 (x.b.g (x.b.q+65+k))]) 1&&List.all [Value.int .u8 (x.b.g (x.b.q+65+k))] Value.oneCell')=true)/\(2*(28+63)+1000)*1<=281474976710656/\I64 (128:Int)/\ ∃s_1:Nat,Hd (1<=s_1/\s_1+1<=x.s)/\x.s-s_1<x.s+1/\(((64+64*s_1:Nat):Int)=128/\(0=0/\28+63*s_1=91)/\True)/\(28+63*s_1=91/\ ∀q:Nat,q<28+63*s_1->[Value.int .u8 (x.at_ q)]=Cs.eff (λ(q_1:Nat)=>cond (Nat.blt q_1 28) [Value.int .u8 (x.at_ q_1)] [Value.int .u8 (x.b.g (x.b.q+65+(q_1-28)))]) [] q)/\True/\Ja x.b) (28<=28/\(∀k:Nat,k<28->isByte [Value.int .u8 (x.at_ (0+k))]=true)/\ ∃y:Unit,True/\x.str= @ByteArray.mk (@List.toArray UInt8 (List.map (λ(k:Nat)=>UInt8.ofBitVec (@BitVec.ofNat 8 (Int.toNat (x.at_ (0+k))))) (@List.range 28)))/\Ja x.b))/\(∀s:Nat,Hd (1<=s/\s+1<=x.s)->cP (decide (((64+64*s:Nat):Int)<(x.b.n:Int))) (I64 (((64+64*s:Nat):Int)+1)/\I64 (((64+64*s:Nat):Int)+64)/\0<=((64+64*s:Nat):Int)+64/\0<=((64+64*s:Nat):Int)+1/\(Int.toNat (((64+64*s:Nat):Int)+1)<=Int.toNat (((64+64*s:Nat):Int)+64)/\
 Int.toNat (((64+64*s:Nat):Int)+64)<=x.b.n/\x.b.n<=x.b.n)/\28+63*s=28+63*s/\x.b.q+Int.toNat (((64+64*s:Nat):Int)+1)+(Int.toNat (((64+64*s:Nat):Int)+64)-Int.toNat (((64+64*s:Nat):Int)+1))<=x.b.N/\(∀k:Nat,k<Int.toNat (((64+64*s:Nat):Int)+64)-Int.toNat (((64+64*s:Nat):Int)+1)->(Nat.beq (List.length [Value.int .u8 (x.b.g (x.b.q+Int.toNat (((64+64*s:Nat):Int)+1)+k))]) 1&&List.all [Value.int .u8 (x.b.g (x.b.q+Int.toNat (((64+64*s:Nat):Int)+1)+k))] Value.oneCell')=true)/\(2*(28+63*s+(Int.toNat (((64+64*s:Nat):Int)+64)-Int.toNat (((64+64*s:Nat):Int)+1)))+1000)*1<=281474976710656/\I64 (((64+64*s:Nat):Int)+64)/\ ∃s_1:Nat,Hd (1<=s_1/\s_1+1<=x.s)/\x.s-s_1<x.s-s/\(((64+64*s_1:Nat):Int)=((64+64*s:Nat):Int)+64/\(0=0/\aik s_1 s)/\True)/\(aik s_1 s/\ ∀q:Nat,q<28+63*s_1->[Value.int .u8 (x.at_ q)]=Cs.eff (λ(q_1:Nat)=>cond (Nat.blt q_1 (28+63*s)) [Value.int .u8 (x.at_ q_1)] [Value.int .u8 (x.b.g (x.b.q+Int.toNat (((64+64*s:Nat):Int)+1)+(q_1-(28+63*s))))]) [] q)/\True/\Ja x.b) (0+(28+63*s)<=28+63*s/\(∀k:Nat,k<28+63*s->isByte [Value.int .u8 (x.at_ (0+k))]=true)/\ ∃y:Unit,True/\x.str= @ByteArray.mk (@List.toArray UInt8 (List.map (λ(k:Nat)=>UInt8.ofBitVec (@BitVec.ofNat 8 (Int.toNat (x.at_ (0+k))))) (@List.range (28+63*s))))/\Ja x.b))/\True
theorem ain(x:BI):ail x=wpF Tryz.prog [] tt (apE x) 200 5 179 (Wj.args x) (hO Wj.k (Wj.os x)) (λv h'=>eX Wj.k x v h' Wj.outs):=by kernel_rfl
def arP(x:ah1):Prop:=
 cP (decide (((64*x.b.dL:Nat):Int)<64)) (∃y:Unit,zN x) ((0:Int)<=64/\(0<=64/\64<=64*x.b.dL/\64*x.b.dL<=64*x.b.dL)/\EZ/\0<64*x.b.dL/\cP (bne (x.g 0) (1:Int)) (∃y:Unit,zN x) (((0:Int)<=1/\(0:Int)<=62)/\1<64*x.b.dL/\I64 (x.g 1)/\ ∃x_1:Int,True/\(x_1=x.g 1/\True)/\True/\ ∀y:Unit,True->cP (BEq.beq (spn x_1) (0:Int)) (∃y_1:Unit,zN x) (((0:Int)<=2/\(0:Int)<=61)/\2<64*x.b.dL/\cP (decide (x.g 2>(3:Int))) (∃y_1:Unit,zN x) (((0:Int)<=1/\(0:Int)<=62)/\1<64*x.b.dL/\I64 (x.g 1)/\((0:Int)<=2/\(0:Int)<=61)/\2<64*x.b.dL/\I64 (x.g 2)/\ ∃x_2:Int,True/\(x_2=x.g 1/\True)/\True/\ ∀y_1:Unit,True->I64 (spn x_2*64)/\cP (bne ((64*x.b.dL:Nat):Int) (spn x_2*64)) (∃y_2:Unit,zN x) (((0:Int)<=3/\4<=((64*x.b.dL:Nat):Int))/\3<64*x.b.dL/\I64 (x.g 3)/\ ∃x_3:ET,yQ x_3/\(BJ x_3.b x.b/\(x_3.at_:Int)=4/\(x_3.w:Int)=2/\True)/\vG x_3.b x/\ ∀y_2:Unit,True->((3<64*x.b.dL/\AV.lit (Value.int .u8 (x.g 3))=AV.lit (Value.int .u8 (x.g 3)))/\True)/\I64 (wV (λ(k:Nat)=>x_3.b.g (x_3.b.q+k)) x_3.at_ x_3.w)/\ ∃x_4:BI,Hd (x_4.b.ok/\x_4.b.n=64*x_4.s/\1<=x_4.s/\x_4.s<=8)/\(BJ x_4.b x.b/\True)/\vG x_4.b x/\ ∀y_3:Unit,True->I64 (x.g 3+wV (λ(k:Nat)=>x_3.b.g (x_3.b.q+k)) x_3.at_ x_3.w)/\cP (decide (x.g 3+wV (λ(k:Nat)=>x_3.b.g (x_3.b.q+k)) x_3.at_ x_3.w>(x_4.str.size:Int))) (∃y_4:Unit,zN x) (0<=x.g 3/\(0<=Int.toNat (x.g 3)/\Int.toNat (x.g 3)<=x_4.str.size/\x_4.str.size<=x_4.str.size)/\I64 (x.g 3+wV (λ(k:Nat)=>x_3.b.g (x_3.b.q+k)) x_3.at_ x_3.w)/\
 0<=x.g 3+wV (λ(k:Nat)=>x_3.b.g (x_3.b.q+k)) x_3.at_ x_3.w/\0<=x.g 3/\(Int.toNat (x.g 3)<=Int.toNat (x.g 3+wV (λ(k:Nat)=>x_3.b.g (x_3.b.q+k)) x_3.at_ x_3.w)/\Int.toNat (x.g 3+wV (λ(k:Nat)=>x_3.b.g (x_3.b.q+k)) x_3.at_ x_3.w)<=x_4.str.size/\x_4.str.size<=x_4.str.size)/\(∃x_5:ET,yQ x_5/\(BJ x_5.b x.b/\(x_5.at_:Int)=8/\I9 x_5.w)/\vG x_5.b x/\ ∀y_4:Unit,True->True/\(∃x_6:ET,yQ x_6/\(BJ x_6.b x.b/\(x_6.at_:Int)=16/\I9 x_6.w)/\vG x_6.b x/\ ∀y_5:Unit,True->True/\(∃x_7:ET,yQ x_7/\aaJ x_7 x.b/\vG x_7.b x/\ ∀y_6:Unit,True->True/\True/\True/\ ∃x_8:ZBlk,aaH x_8/\((x_8.cls=x.g 1/\x_8.kind=x.g 2/\mV x_8.id x_5/\mV x_8.ver x_6/\mV x_8.epoch x_7/\aaI x_8 x_4 x x_3)/\True)/\True/\(∀y_7:Unit,Hd (x_8.cls=0)->64<=64/\(∀k:Nat,k<64->QZ x_8 k)/\vH x.b/\EW x/\cP (Bool.not (BEq.beq (ByteArray.toList (@ByteArray.mk (@List.toArray UInt8 (List.map (λ(k:Nat)=>UInt8.ofBitVec (@BitVec.ofNat 8 (Int.toNat (x_8.enc (0+k))))) (@List.range 64))))) (ByteArray.toList (@ByteArray.mk (@List.toArray UInt8 (List.map (λ(k:Nat)=>UInt8.ofBitVec (@BitVec.ofNat 8 (Int.toNat (x.g (0+k))))) (@List.range (64*x.b.dL)))))))) (∃y_8:Unit,zN x) (∃y_8:Unit,True/\((x.b.cls=x.g 1/\x.b.kind=x.g 2/\mV x.b.id x_5/\mV x.b.ver x_6/\EX x x_7 x_4 x_3)/\true=true/\True)/\QY x))/\ ∀y_7:Unit,Hd (x_8.cls≠(0:Int))->vH x_8/\aaG x_8/\vH x.b/\EW x/\
 cP (Bool.not (BEq.beq (ByteArray.toList (@ByteArray.mk (@List.toArray UInt8 (List.map (λ(k:Nat)=>UInt8.ofBitVec (@BitVec.ofNat 8 (Int.toNat (x_8.enc (0+k))))) (@List.range (64*x_8.dL)))))) (ByteArray.toList (@ByteArray.mk (@List.toArray UInt8 (List.map (λ(k:Nat)=>UInt8.ofBitVec (@BitVec.ofNat 8 (Int.toNat (x.g (0+k))))) (@List.range (64*x.b.dL)))))))) (∃y_8:Unit,zN x) (∃y_8:Unit,True/\((x.b.cls=x.g 1/\x.b.kind=x.g 2/\mV x.b.id x_5/\mV x.b.ver x_6/\EX x x_7 x_4 x_3)/\true=true/\True)/\QY x))/\True/\ ∃x_7:ET,yQ x_7/\aaJ x_7 x.b/\vG x_7.b x/\ ∀y_6:Unit,True->True/\True/\ ∃x_8:ZBlk,aaH x_8/\((x_8.cls=x.g 1/\x_8.kind=x.g 2/\mV x_8.id x_5/\mV x_8.ver x_6/\mV x_8.epoch x_7/\aaI x_8 x_4 x x_3)/\True)/\True/\(∀y_7:Unit,Hd (x_8.cls=0)->64<=64/\(∀k:Nat,k<64->QZ x_8 k)/\vH x.b/\EW x/\cP (Bool.not (BEq.beq (ByteArray.toList (@ByteArray.mk (@List.toArray UInt8 (List.map (λ(k:Nat)=>UInt8.ofBitVec (@BitVec.ofNat 8 (Int.toNat (x_8.enc (0+k))))) (@List.range 64))))) (ByteArray.toList (@ByteArray.mk (@List.toArray UInt8 (List.map (λ(k:Nat)=>UInt8.ofBitVec (@BitVec.ofNat 8 (Int.toNat (x.g (0+k))))) (@List.range (64*x.b.dL)))))))) (∃y_8:Unit,zN x) (∃y_8:Unit,True/\((x.b.cls=x.g 1/\x.b.kind=x.g 2/\mV x.b.id x_5/\mV x.b.ver x_6/\EX x x_7 x_4 x_3)/\true=true/\True)/\QY x))/\ ∀y_7:Unit,Hd (x_8.cls≠(0:Int))->vH x_8/\aaG x_8/\vH x.b/\EW x/\
 cP (Bool.not (BEq.beq (ByteArray.toList (@ByteArray.mk (@List.toArray UInt8 (List.map (λ(k:Nat)=>UInt8.ofBitVec (@BitVec.ofNat 8 (Int.toNat (x_8.enc (0+k))))) (@List.range (64*x_8.dL)))))) (ByteArray.toList (@ByteArray.mk (@List.toArray UInt8 (List.map (λ(k:Nat)=>UInt8.ofBitVec (@BitVec.ofNat 8 (Int.toNat (x.g (0+k))))) (@List.range (64*x.b.dL)))))))) (∃y_8:Unit,zN x) (∃y_8:Unit,True/\((x.b.cls=x.g 1/\x.b.kind=x.g 2/\mV x.b.id x_5/\mV x.b.ver x_6/\EX x x_7 x_4 x_3)/\true=true/\True)/\QY x))/\arN x x_5 x_4 x_3)/\True/\ ∃x_5:ET,yQ x_5/\(BJ x_5.b x.b/\(x_5.at_:Int)=8/\I9 x_5.w)/\vG x_5.b x/\ ∀y_4:Unit,True->arN x x_5 x_4 x_3))))))
theorem amR(x:ah1):arP x=wpF Tryz.prog auG tt (noA x) 200 5 121 (arL.args x) (hO arL.k (arL.os x)) (λv h'=>eX arL.k x v h' arL.outs):=by kernel_rfl
theorem uT{c:Int}(h:spn c≠0):0<=c/\c<=3/\1<=spn c/\spn c<=8/\cpc c=28+63*(spn c-1):=by
 unfold spn at*
 unfold cpc;grind
theorem aio{n:Int}(h:spn (ned n)≠0):n<=cpc (ned n):=by
 unfold ned spn at*
 unfold cpc;grind
theorem Wp{b:ZBlk}(h:b.may):((b.key.size+b.value.size:Nat):Int)<=cpc b.cls:=by
 obtain⟨hs,h⟩:=h;have hc:=uT hs;rcases h with ⟨_,_,_,_,h1,h2⟩|⟨_,_,_,_,h,_⟩|⟨_,_,_,h,_⟩|⟨_,h,_⟩
 ·rw[h1,h2];show((0:Nat):Int)<=_;omega
 ·rw[<-h];exact aio (by rw[h];exact hs)
 ·rw[<-h];exact aio (by rw[h];exact hs)
 ·rw[h];omega
theorem Ri(x:Int)(hx:0<=x/\x<=3):Wn x:=by
 have hs:spn x≠0:=by have:=VY hx;omega
 have hc:=uT hs;unfold Wn;simp only[aaL,aaF];simp only[aZ,aV,aU,aA,aI,bU,bG,aO,aK,ay,aX,aW,bV,bH,bJ,bK,bW,bC,bM,bn,eY,aH,aN,ah,ak,aB,aF,aC,aG];rw[show(spn x==0)=false from beq_eq_false_iff_ne.2 hs,iE];refine⟨by omega,⟨⟨x,0,0,0,0,⟨#[]⟩,⟨#[]⟩⟩,⟨λ_=>0,0,(cpc x).toNat,(cpc x).toNat⟩⟩,?_,⟨⟨rfl,rfl,rfl,rfl,rfl,rfl,rfl⟩,rfl,rfl⟩,⟨rfl,λq _=>rfl⟩,λq _=>rfl⟩;exact⟨⟨show 0+(cpc x).toNat<=(cpc x).toNat by omega,show(cpc x).toNat<1099511627776 by omega,λ_=>⟨show(0:Int)<=0 by decide,show(0:Int)<256 by decide⟩⟩,show 28<=(cpc x).toNat by omega,show(0:Nat)<256 by decide,show(0:Nat)<65536 by decide,hx.1,show x<256 by omega,show(0:Int)<=0 by decide,show(0:Int)<256 by decide,show(0:Int)<=0 by decide,show(0:Int)<18446744073709551616 by decide,show(0:Int)<=0 by decide,show(0:Int)<18446744073709551616 by decide,show(0:Int)<=0 by decide,show(0:Int)<18446744073709551616 by decide⟩
theorem yR{z:Int}(h:0<=z/\z<256):isByte [Value.int .u8 z]=true:=by
 unfold isByte;simp only[decide_eq_true h.1,decide_eq_true h.2,Bool.and_self]
theorem aaM{x:BI}(h:x.b.ok)(i:Nat):0<=x.at_ i/\x.at_ i<256:=by
 unfold BI.at_;split<;>exact h.2.2 _
theorem aaN{x:BI}{s q:Nat}(h1: ¬q<28+63*s)(h2:q<28+63*(s+1)):x.at_ q=x.b.g (x.b.q+(64*(s+1)+1)+(q-(28+63*s))):=by
 unfold BI.at_;have e1:(q-28)/63=s:=by omega
 rw[if_neg (by omega),e1];congr 1;omega
theorem Wq(x:BI)(hx:x.b.ok/\x.b.n=64*x.s/\1<=x.s/\x.s<=8):ail x:=by
 obtain⟨ho,hn,h1,h2⟩:=hx;obtain⟨o1,o2,o3⟩:=id ho;have t1: ∀s:Nat,(((64+64*s:Nat):Int)+1).toNat=64*(s+1)+1:=λs=>by omega
 have t2: ∀s:Nat,(((64+64*s:Nat):Int)+64).toNat=64*(s+1)+64:=λs=>by omega
 unfold ail;simp only[Ja,aik];simp only[aZ,aV,aU,aA,aI,bU,bG,aO,aK,ay,aX,aW,bV,bH,bJ,bK,bW,bC,bM,bn,eY,aH,aN,ah,ak,aB,aF,aC,aG,t1,t2];refine⟨by decide,by decide,⟨by decide,by omega,by omega⟩,by omega,by decide,λq hq=> ?_,bf (λh=> ?_) λh=> ?_,λs hs=>bf (λh=> ?_) λh=> ?_⟩
 ·unfold BI.at_
  rw[if_pos hq];congr 1;omega
 ·have h:=aS h
  refine⟨by unfold I64;omega,by unfold I64;omega,by decide,by decide,⟨by decide,by omega,by omega⟩,by omega,by decide,by unfold I64;omega,1,by omega,by omega,by omega,by omega,λq hq=> ?_⟩;by_cases hq1:q<28
  ·rw[bg.2 hq1];rfl
  ·rw[bY,decide_eq_false hq1,aQ]
   exact aaN (s:=0) (by omega) (by omega)
 ·have h:=aT h
  have:x.s=1:=by omega
  refine⟨by decide,λk _=>yR (aaM ho k),?_⟩;unfold BI.str;rw[this];rfl
 ·have h:=aS h
  refine⟨by unfold I64;omega,by unfold I64;omega,by omega,by omega,⟨by omega,by omega,by omega⟩,by omega,by omega,by unfold I64;omega,s+1,by omega,by omega,by omega,by omega,λq hq=> ?_⟩;by_cases hq1:q<28+63*s
  ·rw[bg.2 hq1];rfl
  ·rw[bY,decide_eq_false hq1,aQ]
   exact aaN hq1 (by omega)
 ·have h:=aT h
  have:x.s=s+1:=by omega
  refine⟨by omega,λk _=>yR (aaM ho k),?_⟩;unfold BI.str;rw[this];rfl
theorem apF{s:ByteArray}{o k n B:Nat}(hk:k<64)(hB:64<=B):(bif Nat.ble 1 k&&Nat.blt k B then [Value.int .u8 (bif Nat.blt (o+(k-1)) n then(eG s (o+(k-1)):Int)else 0)]else Cs.eff (λ_=>[Value.int .u8 0]) [(0,[Value.int .u8 2])] k)=
  [Value.int .u8 (if k=0 then 2 else if o+(k-1)<n then(eG s (o+(k-1)):Int)else 0)]:=by
 rw[EL];simp only[dA,bY,dK,<-Bool.decide_and];by_cases h:k=0
 ·subst h;simp
 ·rw[if_pos ⟨by omega,by omega⟩,if_neg h]
theorem KR(x:ZBlk)(t r:Nat)(hr:r<64):x.enc (64*(t+1)+r)=if r=0 then 2 else x.dat (28+63*t+(r-1)):=by
 unfold ZBlk.enc;rw[if_neg (by omega),show(64*(t+1)+r)%64=r by omega,show(64*(t+1)+r)/64=t+1 by omega,Nat.add_sub_cancel,Nat.mul_comm t 63]
theorem KT(x:ZBlk){t q B o n:Nat}(h1: ¬q<64*(t+1))(h2:q<64*(t+1+1))(hB:64<=B)(ho:o=28+63*t)(hn:n=(x.key++x.value).size):[Value.int .u8 (x.enc q)]=(bif Nat.ble 1 (q-64*(t+1))&&Nat.blt (q-64*(t+1)) B then [Value.int .u8 (bif Nat.blt (o+(q-64*(t+1)-1)) n then(eG (x.key++x.value) (o+(q-64*(t+1)-1)):Int)else 0)]else Cs.eff (λ_=>[Value.int .u8 0]) [(0,[Value.int .u8 2])] (q-64*(t+1))):=by
 rw[apF (by omega) hB,show q=64*(t+1)+(q-64*(t+1)) by omega,KR x t _ (by omega),Nat.add_sub_cancel_left,ho,hn];rfl
theorem aip{s:ByteArray}{o k n B:Nat}(hk:k<64)(hB:64<=B):((bif Nat.ble 1 k&&Nat.blt k B then [Value.int .u8 (bif Nat.blt (o+(k-1)) n then(eG s (o+(k-1)):Int)else 0)]else Cs.eff (λ_=>[Value.int .u8 0]) [(0,[Value.int .u8 2])] k).length.beq 1&&(bif Nat.ble 1 k&&Nat.blt k B then [Value.int .u8 (bif Nat.blt (o+(k-1)) n then(eG s (o+(k-1)):Int)else 0)]else Cs.eff (λ_=>[Value.int .u8 0]) [(0,[Value.int .u8 2])] k).all Value.oneCell')=true:=by
 rw[apF hk hB];rfl
theorem KU(x:ZBlk)(k:Nat):0<=x.dat k/\x.dat k<256:=by
 unfold ZBlk.dat
 split
 ·unfold eG
  have:=(((x.key++x.value).data.toList.getD k 0)).toNat_lt;exact⟨by omega,by omega⟩
 ·exact⟨by decide,by decide⟩
theorem Dp{x:ZBlk}(h:x.may):x.key.size<256/\x.value.size<65536/\0<=x.kind/\x.kind<256/\0<=x.id/\x.id<18446744073709551616/\0<=x.ver/\x.ver<18446744073709551616/\0<=x.epoch/\x.epoch<18446744073709551616:=by
 have hC:=Wp h;have hc:=uT h.1;obtain⟨hs,h⟩:=h;unfold ZBlk.nums ZBlk.num at h;have e0:ByteArray.size ⟨#[]⟩=0:=rfl;rcases h with ⟨h0,h1,h2,h3,h4,h5⟩|⟨h0,h1,h2,h3,h4,h5,h6,h7⟩|⟨h0,h1,h2,h3,h5,h6,h7⟩|⟨h0,h1,h2,h5,h6,h7⟩
 ·rw[h4,h5];omega
 ·omega
 ·rw[h1];omega
 ·omega
theorem adb(x:ZBlk)(hx:x.may/\x.key.size<1099511627776/\x.value.size<1099511627776):arO x:=by
 obtain⟨hm,hk,hv⟩:=hx;have hM:x.OJ=true:=yO.2 hm;have hc:=uT hm.1;have hC:=Wp hm;have hD:=Dp hm;have hsz:(x.key++x.value).size=x.key.size+x.value.size:=ByteArray.size_append;have hcap:(cpc x.cls).toNat=x.iI:=rfl;have hb:Nat.ble (x.key++x.value).size x.iI=true:=by rw[Nat.ble_eq,hsz,<-hcap];omega
 have hN:x.iI=28+63*(x.dL-1):=by unfold ZBlk.iI ZBlk.dL;omega
 have hS:(x.dL:Int)=spn x.cls:=by unfold ZBlk.dL;omega
 have h0:x.cls=0↔x.dL=1:=by
  have:x.cls=0↔spn x.cls=1:=by unfold spn;grind
  rw[this];omega
 have e1: ∀q,q<64->x.enc q=x.jL x.dat x.iI q:=λq hq=>if_pos hq
 have hN8:x.dL<=8/\1<=x.dL:=by omega
 unfold arO;simp only[aaK,aaL,aii,aij,aif,ac8,Q5,EZ,Rh,ah5,rH,Rf,rG,aic,aie,ah8,ah4,Q7,Q8,Q9,aia,EY,aib,ah9,ac9,ah7,ah6,ah2,ah3];simp only[aZ,aV,aU,aA,aI,bU,bG,aO,aK,ay,aX,aW,bV,bH,bJ,bK,bW,bC,bM,bn,eY,aH,aN,ah,ak,aB,aF,aC,aG,hcap];refine⟨x,⟨hk,hv⟩,⟨rfl,rfl,rfl,rfl,rfl,rfl,rfl⟩,?_⟩;rw[hM,Bool.not_true,iE];refine⟨by omega,by omega,by omega,?_⟩;rw[hb,kQ];refine⟨⟨x,⟨x.dat,0,x.iI,x.iI⟩⟩,⟨⟨by show 0+x.iI<=x.iI;omega,by show x.iI<1099511627776;omega,KU x⟩,by show 28<=x.iI;omega,hD.1,hD.2.1,hc.1,by show x.cls<256;omega,hD.2.2⟩,⟨⟨rfl,rfl,rfl,rfl,rfl,rfl,rfl⟩,rfl,rfl⟩,⟨rfl,λq _=> ?_⟩,?_⟩
 ·simp only[bY,dK];rfl
 ·simp only[aA]
  refine⟨by decide,by omega,by unfold I64;omega,bf (λh=> ?_) λh=> ?_,λs hs=>bf (λh=> ?_) λh=> ?_⟩
  ·have h:=aS h
   refine⟨by decide,by decide,by decide,by decide,by decide,by decide,bf (λhb=> ?_) λhb=> ?_⟩
   ·have hb:=Nat.le_of_ble_eq_true hb
    refine⟨by omega,by omega,by omega,by decide,by decide,by decide,by unfold I64;omega,1,by omega,by omega,by omega,by omega,λq hq=> ?_⟩;by_cases hq1:q<64
    ·rw[bg.2 hq1,aP,e1 q hq1]
    ·rw[bY,decide_eq_false hq1,aQ]
     exact KT x (t:=0) (by omega) (by omega) (by omega) rfl rfl
   ·refine⟨by omega,by omega,⟨by omega,by omega⟩,by decide,by decide,by decide,by unfold I64;omega,1,by omega,by omega,by omega,by omega,λq hq=> ?_⟩
    by_cases hq1:q<64
    ·rw[bg.2 hq1,aP,e1 q hq1]
    ·rw[bY,decide_eq_false hq1,aQ]
     exact KT x (t:=0) (by omega) (by omega) (by omega) rfl rfl
  ·have h:=aT h
   exact .inl ⟨h0.2 (by omega),λq hq=>e1 q hq⟩
  ·have h:=aS h
   refine⟨by decide,by decide,by decide,by decide,by decide,by decide,bf (λhb=> ?_) λhb=> ?_⟩
   ·have hb:=Nat.le_of_ble_eq_true hb
    refine⟨by omega,by omega,by omega,by decide,λk hk=>aip hk (by omega),by omega,by unfold I64;omega,s+1,by omega,by omega,by omega,by omega,λq hq=> ?_⟩;by_cases hq1:q<64*(s+1)
    ·rw[bg.2 hq1,aP]
    ·rw[bY,decide_eq_false hq1,aQ]
     exact KT x hq1 (by omega) (by omega) rfl rfl
   ·refine⟨by omega,by omega,⟨by omega,by omega⟩,by decide,λk hk=>aip hk (by omega),by omega,by unfold I64;omega,s+1,by omega,by omega,by omega,by omega,λq hq=> ?_⟩
    by_cases hq1:q<64*(s+1)
    ·rw[bg.2 hq1,aP]
    ·rw[bY,decide_eq_false hq1,aQ]
     exact KT x hq1 (by omega) (by omega) rfl rfl
  ·have h:=aT h
   exact .inr ⟨λe=>by have:=h0.1 e;omega,by omega⟩
theorem aaO{g:Nat->Int}{a:Nat}{v:Int}(h0:0<=v): ∀w,(∀i,i<w->g (a+i)=v/256^i%256)->wV g a w=v%256^w
 |0,_=>by show(0:Int)=v%256^0;rw[Int.pow_zero,Int.emod_one]
 |w+1,h=>by
  simp only[wV];rw[aaO h0 w λi hi=>h i (by omega),h w (by omega),Int.pow_succ];have hp:(0:Int)<256^w:=Int.pow_pos (by omega);have h1:=Int.emod_add_mul_ediv v (256^w);have h2:=Int.emod_add_mul_ediv (v/256^w) 256;have h3:=Int.emod_add_mul_ediv v (256^w*256);have h4:v/(256^w*256)=v/256^w/256:=(Int.ediv_ediv_of_nonneg (Int.le_of_lt hp)).symm;rw[h4]at h3;generalize (256:Int)^w=p at*
  have h5:p*(v/p)=p*((v/p)%256)+p*(256*(v/p/256)):=by rw[<-Int.mul_add,h2]
  have h6:p*256*(v/p/256)=p*(256*(v/p/256)):=Int.mul_assoc _ _ _;have h7:(v/p)%256*p=p*((v/p)%256):=Int.mul_comm _ _;omega
theorem KW{g:Nat->Int}{a w:Nat}{v:Int}(h0:0<=v)(h1:v<256^w)(h: ∀i,i<w->g (a+i)=v/256^i%256):wV g a w=v:=by
 rw[aaO h0 w h];exact Int.emod_eq_of_lt h0 h1
theorem auH{x:ZBlk}(h:x.may)(k:Nat):0<=x.h32 k/\x.h32 k<256:=by
 have hD:=Dp h;have hc:=uT h.1;unfold ZBlk.h32
 repeat' split
 all_goals first|exact lX _ _|omega
theorem yS{x:ZBlk}(h:x.may)(k:Nat):0<=x.enc k/\x.enc k<256:=by
 unfold ZBlk.enc;split
 ·unfold ZBlk.jL
  split
  ·exact auH h k
  ·split
   ·exact lX _ _
   ·exact KU x _
 ·split
  ·exact⟨by decide,by decide⟩
  ·exact KU x _
theorem E5{x:ZBlk}{k:Nat}(h:k<32):x.enc k=x.h32 k:=by
 unfold ZBlk.enc;rw[if_pos (by omega)];unfold ZBlk.jL;rw[if_pos h]
theorem arQ{x:ZBlk}(h:x.may):wV x.enc 4 2=x.value.size/\wV x.enc 8 8=x.id/\wV x.enc 16 8=x.ver/\wV x.enc 24 8=x.epoch:=by
 have hD:=Dp h;refine⟨KW (by omega) (by omega) λi hi=> ?_,KW (by omega) (by omega) λi hi=> ?_,KW (by omega) (by omega) λi hi=> ?_,KW (by omega) (by omega) λi hi=> ?_⟩
 all_goals
  rw[E5 (by omega)];unfold ZBlk.h32
  repeat rw[if_neg (by omega)]
  rw[if_pos (by omega)];congr 2;congr 1;omega
theorem ade(n:Nat)(f:Nat->UInt8):(mkStr n f).size=n:=by
 show(((List.range n).map f).toArray).size=n;simp
theorem Rj{n a b:Nat}{f:Nat->UInt8}{s:ByteArray}(h1:b=a+s.size)(h2:b<=n)(h: ∀i (hi:i<s.size),f (a+i)=s.data[i]):(mkStr n f).extract a b=s:=by
 have e:((mkStr n f).extract a b).data=s.data:=by
  rw[ByteArray.data_extract];refine Array.ext ?_ λi h3 h4=> ?_
  ·show((List.map f (List.range n)).toArray.extract a b).size=s.size
   simp;omega
  ·show((List.map f (List.range n)).toArray.extract a b)[i]=_
   rw[<-h i h4];simp
 cases s;cases h':(mkStr n f).extract a b;rw[h']at e;cases e;rfl
theorem adf(x:ZBlk)(i:Nat)(hi:i<(x.key++x.value).size):UInt8.ofNat (x.dat i).toNat=(x.key++x.value).data[i]:=by
 unfold ZBlk.dat
 rw[if_pos hi];unfold eG;rw[ay,List.getD_eq_getElem?_getD,Array.getElem?_toList];have e:(x.key++x.value).data[i]? =some (x.key++x.value).data[i]:=Array.getElem?_eq_getElem hi;rw[e,Option.getD_some];exact UInt8.ofNat_toNat
theorem auI{x:ZBlk}{s:Nat}(i:Nat):(BI.mk ⟨x.enc,0,64*s,64*s⟩ s).at_ i=x.dat i:=by
 unfold BI.at_;simp only[aA];split
 ·rename_i h
  unfold ZBlk.enc;rw[if_pos (by omega)];unfold ZBlk.jL;rw[if_neg (by omega),if_neg (by omega)];congr 1;omega
 ·rename_i h
  rw[show 64*((i-28)/63+1)+1+(i-28)%63=64*((i-28)/63+1)+(1+(i-28)%63) by omega,KR x _ _ (by omega),if_neg (by omega)];congr 1;omega
theorem adg(x:ah1)(hx:x.b.may/\x.b.key.size<1099511627776/\x.b.value.size<1099511627776/\ ∀k,k<64*x.b.dL->x.g k=x.b.enc k):arP x:=by
 obtain⟨hm,hk,hv,hg⟩:=hx;have hc:=uT hm.1;have hC:=Wp hm;have hD:=Dp hm;have hE:=arQ hm;have hS:(x.b.dL:Int)=spn x.b.cls:=by unfold ZBlk.dL;omega
 have g0:x.g 0=1:=by rw[hg 0 (by omega),E5 (by omega)];rfl
 have g1:x.g 1=x.b.cls:=by rw[hg 1 (by omega),E5 (by omega)];rfl
 have g2:x.g 2=x.b.kind:=by rw[hg 2 (by omega),E5 (by omega)];rfl
 have g3:x.g 3=x.b.key.size:=by rw[hg 3 (by omega),E5 (by omega)];rfl
 have hB:Bys.ok ⟨x.b.enc,0,64*x.b.dL,64*x.b.dL⟩:=⟨by simp,by show 64*x.b.dL<_;omega,yS hm⟩;have hkd:x.b.kind<=3:=by
  have:=hm.2;omega
 unfold arP;simp only[zN,EZ,yQ,BJ,vG,I9,aaJ,aaH,mV,aaI,QZ,vH,EW,EX,QY,aaG,arN,aaF];simp only[aZ,aV,aU,aA,aI,bU,bG,aO,aK,ay,aX,aW,bV,bH,bJ,bK,bW,bC,bM,bn,eY,aH,aN,ah,ak,aB,aF,aC,aG,g0,g1,g2,g3]
 refine bf (λh=>absurd (aS h) (by omega)) λ_=>⟨by decide,⟨by decide,by omega,by omega⟩,by decide,by omega,bf (λh=>absurd h (by decide)) λ_=>⟨by decide,by omega,by unfold I64;omega,bf (λh=>absurd (beq_iff_eq.1 h) hm.1) λ_=>⟨by decide,by omega,bf (λh=>absurd (aS h) (by omega)) λ_=>⟨by decide,by omega,by unfold I64;omega,by decide,by omega,by unfold I64;omega,by unfold I64;omega,bf (λh=>absurd (bne_iff_ne.1 h) (by omega)) λ_=>⟨⟨by decide,by omega⟩,by omega,by unfold I64;omega,
  ⟨⟨x.b.enc,0,64*x.b.dL,64*x.b.dL⟩,4,2⟩,⟨hB,by show 4+2<=64*x.b.dL;omega,by show 1<=2;decide,by show 2<=8;decide⟩,⟨⟨rfl,rfl⟩,rfl,rfl⟩,⟨rfl,λq hq=>(hg q hq).symm⟩,by omega,?_⟩⟩⟩⟩⟩
 simp only[aA,hE];refine⟨by unfold I64;omega,⟨⟨x.b.enc,0,64*x.b.dL,64*x.b.dL⟩,x.b.dL⟩,⟨hB,rfl,by show 1<=x.b.dL;omega,by show x.b.dL<=8;omega⟩,⟨rfl,rfl⟩,⟨rfl,λq hq=>(hg q hq).symm⟩,?_⟩;have hsz:(x.b.key++x.b.value).size=x.b.key.size+x.b.value.size:=ByteArray.size_append;have hstr: ∀i (hi:i<(x.b.key++x.b.value).size),UInt8.ofNat ((BI.mk ⟨x.b.enc,0,64*x.b.dL,64*x.b.dL⟩ x.b.dL).at_ i).toNat=(x.b.key++x.b.value).data[i]:=λi hi=>by rw[auI];exact adf x.b i hi
 have s1:(BI.mk ⟨x.b.enc,0,64*x.b.dL,64*x.b.dL⟩ x.b.dL).str.size=28+63*(x.b.dL-1):=ade _ _;have s2:(BI.mk ⟨x.b.enc,0,64*x.b.dL,64*x.b.dL⟩ x.b.dL).str.extract 0 x.b.key.size=x.b.key:=Rj (by omega) (by show x.b.key.size<=28+63*(x.b.dL-1);omega) λi hi=>by
  rw[hstr (0+i) (by omega)];simp only[aA,ByteArray.data_append];exact Array.getElem_append_left hi
 have s3:(BI.mk ⟨x.b.enc,0,64*x.b.dL,64*x.b.dL⟩ x.b.dL).str.extract x.b.key.size ((x.b.key.size:Int)+(x.b.value.size:Int)).toNat=x.b.value:=Rj (by omega) (by show((x.b.key.size:Int)+(x.b.value.size:Int)).toNat<=28+63*(x.b.dL-1);omega) λi hi=>by
  rw[hstr (x.b.key.size+i) (by omega)];simp only[ByteArray.data_append];have:x.b.key.data.size=x.b.key.size:=rfl;rw[Array.getElem_append_right (by omega)];congr 1;omega
 rw[s2,s3,s1];have hget: ∀a,a+8<=64->(ET.mk ⟨x.b.enc,0,64*x.b.dL,64*x.b.dL⟩ a 8).b.ok/\a+8<=64*x.b.dL/\1<=8/\8<=8:=λa ha=>⟨hB,by omega,by decide,by decide⟩
 refine⟨by unfold I64;omega,bf (λh=>absurd (aS h) (by omega)) λ_=>⟨by omega,by omega,by unfold I64;omega,by omega,by omega,by omega,
  ⟨⟨x.b.enc,0,64*x.b.dL,64*x.b.dL⟩,8,8⟩,hget 8 (by decide),⟨⟨rfl,rfl⟩,rfl,rfl⟩,⟨rfl,λq hq=>(hg q hq).symm⟩,
  ⟨⟨x.b.enc,0,64*x.b.dL,64*x.b.dL⟩,16,8⟩,hget 16 (by decide),⟨⟨rfl,rfl⟩,rfl,rfl⟩,⟨rfl,λq hq=>(hg q hq).symm⟩,
  ⟨⟨x.b.enc,0,64*x.b.dL,64*x.b.dL⟩,24,8⟩,hget 24 (by decide),⟨⟨rfl,rfl⟩,rfl,rfl⟩,⟨rfl,λq hq=>(hg q hq).symm⟩,?_⟩⟩
 simp only[aA,hE];refine⟨x.b,⟨hm,hk,hv⟩,⟨rfl,rfl,rfl,rfl,rfl,rfl,rfl⟩,?_⟩;have hb: ∀k,k<64*x.b.dL->isByte [Value.int .u8 (x.g k)]=true:=λk hk=>by rw[hg k hk];exact yR (yS hm k)
 have he: ∀k,isByte [Value.int .u8 (x.b.enc k)]=true:=λk=>yR (yS hm k)
 have hq: ∀n,n=64*x.b.dL->(!(ByteArray.toList ⟨(List.map (λk=>(⟨BitVec.ofNat 8 (x.b.enc k).toNat⟩:UInt8)) (List.range n)).toArray⟩==ByteArray.toList ⟨(List.map (λk=>(⟨BitVec.ofNat 8 (x.g k).toNat⟩:UInt8)) (List.range (64*x.b.dL))).toArray⟩))=false:=λn hn=>by
  subst hn;rw[Bool.not_eq_false',ahZ];congr 2;exact List.map_congr_left λk hk=>by rw[hg k (List.mem_range.1 hk)]
 have h1:x.b.cls=0->64=64*x.b.dL:=λh=>by
  have:spn x.b.cls=1:=by rw[h];rfl
  omega
 refine⟨λh=>⟨aY _,λk _=>he k,aY _,hb,?_⟩,λh=>⟨aY _,λk _=>he k,aY _,hb,?_⟩⟩
 ·rw[hq 64 (h1 h),iE]
  exact⟨trivial,trivial,trivial,trivial,trivial⟩
 ·rw[hq _ rfl,iE]
  exact⟨trivial,trivial,trivial,trivial,trivial⟩
theorem aaP:dZ Tryz.prog arM:= .cons (bP mQ) (.cons (bP apv) (.cons (bP ah0) (.cons (bP arK) .nil)))
theorem apG:cO Tryz.prog 180 apD:=iP dG mixed aaP auF 200 5 (λ_=>rfl) (λ_=>⟨λ_=>rfl,λ_=>rfl,trivial⟩) λx hx=>Eq.mp (amQ x) (adb x (aZ.1 hx))
theorem amS:cO Tryz.prog 63 EU:=dM dG mixed aaP noA 200 5 (λ_=>rfl) (λ_=>rfl) λx hx=>Eq.mp (ada x) (Ri x (aZ.1 hx))
theorem arR:cO Tryz.prog 179 Wj:=dM dG mixed .nil apE 200 5 (λ_=>rfl) (λ_=>rfl) λx hx=>Eq.mp (ain x) (Wq x (aZ.1 hx))
theorem amT:dZ Tryz.prog auG:= .cons (bP mQ) (.cons (bP auE) (.cons (bP arR) (.cons (bP apG) .nil)))
theorem auJ:cO Tryz.prog 121 arL:=dM dG mixed amT noA 200 5 (λ_=>rfl) (λ_=>rfl) λx hx=>Eq.mp (amR x) (adg x (aZ.1 hx))



end Go.Proofs.YtenfleoejgjklaaGreat
end
section
namespace Go.Proofs.YtenfleoejgjklaaGreat
open Go
theorem disable(w:World):(callFunc 268 #[]).run Tryz.prog w= .ok (.value (.tuple #[])) w:=run_call_mark0 Tryz.func268 (by kernel_rfl) (by kernel_rfl) (by kernel_rfl) .disable (by kernel_rfl) w
theorem enable(w:World):(callFunc 270 #[]).run Tryz.prog w= .ok (.value (.tuple #[])) w:=run_call_mark0 Tryz.func270 (by kernel_rfl) (by kernel_rfl) (by kernel_rfl) .enable (by kernel_rfl) w
theorem acquire(a:Addr)(w:World):(callFunc 271 #[.pointer (some a)]).run Tryz.prog w= .ok (.value (.tuple #[])) w:=run_call_marked Tryz.func271 (by kernel_rfl) (by kernel_rfl) (by kernel_rfl) .acquire (by kernel_rfl) a w
theorem releaseMerge(a:Addr)(w:World):(callFunc 273 #[.pointer (some a)]).run Tryz.prog w= .ok (.value (.tuple #[])) w:=run_call_marked Tryz.func273 (by kernel_rfl) (by kernel_rfl) (by kernel_rfl) .releaseMerge (by kernel_rfl) a w
set_option maxRecDepth 100000 in
set_option maxHeartbeats 1600000 in
theorem ilock_free(a:Addr)(w:World)(hc:w.cell? a=some (.int .i32 0))(hz:w.frozen? a=false):
  Calls Tryz.prog 237 #[.pointer (some a)] w λe w'=>e= .returned (.tuple #[])/\w'=w.setCell a (.int .i32 1):=by
 have hd:=disable;have he:=enable;have ha:=acquire;have hcas:=run_call_cas_hit (P:=Tryz.prog) Tryz.func269 (by kernel_rfl) (by kernel_rfl) (by kernel_rfl) .i32 (by kernel_rfl) (y:=1) hc hz;have hc':(w.setCell a (.int .i32 1)).cell? a=some (.int .i32 1):=World.cell?_setCell_same w a _ hc;have hcv:=run_convert_to_unsafe (P:=Tryz.prog) (src:=368) (dst:=372) Tryz.underlying368 Tryz.underlying372 (by kernel_rfl) hc'
 go_enter Tryz.func237,Tryz.ntmps237
 go_wp2
 all_goals first|exact⟨rfl,rfl⟩|(first|go_end0|(simp only[Exit.inBlock,Exit.then];refine bodyPost_ret (results_none rfl _ _ _) rfl ?_)|refine bodyPost_ret (results_none rfl _ _ _) rfl ?_)
 all_goals exact⟨rfl,rfl⟩
set_option maxRecDepth 100000 in
set_option maxHeartbeats 1600000 in
theorem lock_free(a:Addr)(w:World)(hc:w.cell? a=some (.int .i32 0))(hz:w.frozen? a=false):
  Calls Tryz.prog 194 #[.pointer (some a)] w λe w'=>e= .returned (.tuple #[])/\w'=w.setCell a (.int .i32 1):=by
 go_enter Tryz.func194,Tryz.ntmps194
 go_wp2_with (go_at_call 237;refine(ilock_free a w hc hz).mono ?_;rintro e w' ⟨rfl,rfl⟩)
 all_goals first|exact⟨rfl,rfl⟩|(go_wp2;go_end0;exact⟨rfl,rfl⟩)|(go_end0;exact⟨rfl,rfl⟩)
set_option maxRecDepth 100000 in
set_option maxHeartbeats 1600000 in
theorem store_deferred(a:Addr)(x:Value)(u:FrameMode)(w:World)(hc:w.cell? a=some x)(hz:w.frozen? a=false):
  CallsD Tryz.prog 196 #[.pointer (some a),.bool true] u w λe u' w'=>u'=u/\(e= .returned (.tuple #[])/\w'=w.drew.setCell a (.int .u32 1)):=by
 have hc':w.drew.cell? a=some x:=by go_simp
 have hz':w.drew.frozen? a=false:=by go_simp
 have hst:=run_call_store (P:=Tryz.prog) Tryz.func239 (by kernel_rfl) (by kernel_rfl) (by kernel_rfl) (by kernel_rfl) (k:= .u32) (y:=1) hc' hz'
 go_enter_d Tryz.func196,Tryz.ntmps196
 go_wp2
 go_region_calls
 all_goals (go_end0;exact⟨rfl,rfl⟩)
set_option maxRecDepth 100000 in
set_option maxHeartbeats 1600000 in
theorem iunlock(a:Addr)(w:World)(hc:w.cell? a=some (.int .i32 1))(hz:w.frozen? a=false):
  Calls Tryz.prog 238 #[.pointer (some a)] w λe w'=>e= .returned (.tuple #[])/\w'=w.setCell a (.int .i32 0):=by
 have hd:=disable;have he:=enable;have hr:=releaseMerge;have hadd:=run_call_add (P:=Tryz.prog) Tryz.func274 (by kernel_rfl) (by kernel_rfl) (by kernel_rfl) .i32 (by kernel_rfl) (y:= -1) (s:=0) hc hz (by simp[go_sem];rfl);have hcv:=run_convert_to_unsafe (P:=Tryz.prog) (src:=368) (dst:=372) Tryz.underlying368 Tryz.underlying372 (by kernel_rfl) hc
 go_enter Tryz.func238,Tryz.ntmps238
 go_wp2
 all_goals first|exact⟨rfl,rfl⟩|go_end0
 all_goals first|exact⟨rfl,rfl⟩|go_wp2
 all_goals first|exact⟨rfl,rfl⟩|go_end0
 all_goals first|exact⟨rfl,rfl⟩
set_option maxRecDepth 100000 in
set_option maxHeartbeats 1600000 in
theorem unlock_deferred(a:Addr)(u:FrameMode)(w:World)(hc:w.cell? a=some (.int .i32 1))(hz:w.frozen? a=false):
  CallsD Tryz.prog 195 #[.pointer (some a)] u w λe u' w'=>u'=u/\(e= .returned (.tuple #[])/\w'=w.setCell a (.int .i32 0)):=by
 go_enter_d Tryz.func195,Tryz.ntmps195
 go_wp2_with (go_at_call 238;refine(iunlock a w hc hz).mono ?_;rintro e w' ⟨rfl,rfl⟩)
 all_goals first|exact⟨rfl,rfl⟩|(go_wp2;go_end0;exact⟨rfl,rfl⟩)|(go_end0;exact⟨rfl,rfl⟩)
set_option maxRecDepth 100000 in
set_option maxHeartbeats 1600000 in
theorem slow_any(b off:Nat)(g:FuncId)(fa ca:Array Value)(w:World)(R:World->Prop)(hc:SE.lN Tryz.prog g)
  (h0:w.cell? ⟨b,off,none⟩=some (.int .u32 0)) (h1:w.cell? ⟨b,off+1,none⟩=some (.int .i32 0)) (f0:w.frozen? ⟨b,off,none⟩=false) (f1:w.frozen? ⟨b,off+1,none⟩=false)
  (hf:Calls Tryz.prog g (fa++ca) (w.setCell ⟨b,off+1,none⟩ (.int .i32 1)) λe w'=>(∃u,e= .returned u)/\w'.cell? ⟨b,off,none⟩=some (.int .u32 0)/\w'.frozen? ⟨b,off,none⟩=false/\
   w'.cell? ⟨b,off+1,none⟩=some (.int .i32 1)/\w'.frozen? ⟨b,off+1,none⟩=false/\R w'):
  Calls Tryz.prog 148 #[.pointer (some ⟨b,off,none⟩),.func (.func g) fa ca] w λe w'=>e= .returned (.tuple #[])/\ ∃w2,R w2/\
   w'=(w2.drew.setCell ⟨b,off,none⟩ (.int .u32 1)).setCell ⟨b,off+1,none⟩ (.int .i32 0):=by
 have hl:=run_call_load (P:=Tryz.prog) Tryz.func193 (by kernel_rfl) (by kernel_rfl) (by kernel_rfl) .u32 (by kernel_rfl) (w:=w.setCell ⟨b,off+1,none⟩ (.int .i32 1)) (a:=⟨b,off,none⟩) (x:=0) ((World.cell?_setCell_other _ ⟨b,off+1,none⟩ ⟨b,off,none⟩ _ (by simp)).trans h0);have hnot: ∀(x:Bool) (w:World),(Op.unary .not (.bool x)).run Tryz.prog w= .ok (.bool (!x)) w:=λ_ _=>rfl
 have hrun:=SE.Bg hc
 go_enter_defers Tryz.func148,Tryz.ntmps148
 go_wp2_with (go_at_call 194;refine(lock_free ⟨b,off+1,none⟩ _ (by go_simp) (by go_simp)).mono ?_;rintro e w' ⟨rfl,rfl⟩)
 go_wp2
 refine hf.mono ?_
 rintro e w' ⟨⟨u,rfl⟩,c0,z0,c1,z1,hR⟩
 go_wp2
 refine leaves_cons (f:=196) (args:= #[.pointer (some ⟨b,off,none⟩),.bool true]) (by simp) (by simp[go_sem]) ?_;refine(store_deferred ⟨b,off,none⟩ (.int .u32 0) .returning _ c0 z0).mono ?_
 rintro e u' w'' ⟨rfl,rfl,rfl⟩
 refine leaves_cons (f:=195) (args:= #[.pointer (some ⟨b,off+1,none⟩)]) (by simp[settle]) (by simp[go_sem]) ?_;refine(unlock_deferred ⟨b,off+1,none⟩ _ _ ?_ ?_).mono ?_
 ·refine(World.cell?_setCell_other _ ⟨b,off,none⟩ ⟨b,off+1,none⟩ _ (by simp)).trans ?_
  rw[World.cell?_drew];exact c1
 ·simp[z1]
 rintro e u' w'' ⟨rfl,rfl,rfl⟩
 simp[Leaves,settle,results,Tryz.results148];exact⟨w',hR,rfl⟩
end Go.Proofs.YtenfleoejgjklaaGreat
end
section
namespace Go.Proofs.YtenfleoejgjklaaGreat
open Go SE
def adh(k:IntKind)(z:Int)(x:Option AV):Bool:=match x with
 |some (.lit (.int k' z'))=>decide (k'=k)&&decide (z'=z)
 |_=>false
theorem amU{k:IntKind}{z:Int}{x:Option AV}(h:adh k z x=true):x=some (.lit (.int k z)):=by
 unfold adh at h;split at h
 ·simp only[aJ,decide_eq_true_eq]at h
  obtain⟨rfl,rfl⟩:=h;rfl
 ·cases h
def KX(i o:Nat)(K:AV->Heap->Prop)(h2:Heap):Prop:=
 bif adh .u32 0 (cellAt h2 i o)&&adh .i32 1 (cellAt h2 i (o+1))&&(setCell h2 i (o+1) (.lit (.int .i32 0))).isSome then(match setCell h2 i o (.lit (.int .u32 1))with
  |some h3=>match setCell h3 i (o+1) (.lit (.int .i32 0))with
   |some h4=>K (.tup []) h4
   |none=>False
  |none=>False)else False
def arS(tbl:je):WTr:=λargs h K=>match args with
 |[.ptr i o,.fn (.func g) first cap]=>bif adh .u32 0 (cellAt h i o)&&adh .i32 0 (cellAt h i (o+1))&&(setCell h i o (.lit (.int .u32 1))).isSome then(match setCell h i (o+1) (.lit (.int .i32 1))with
  |some h1=>wpF Tryz.prog tbl tt (λ_ _ _ _=>[]) 200 5 g (first++cap) h1 (λ_ h2=>KX i o K h2)
  |none=>False)else False
 |_=>False
theorem KY{h:Heap}{ρ:Ren}{T:Nat->Prop}{w:World}(hR:Rel h ρ T w){i o:Nat}{b:SE.Loc}{k:IntKind}{z:Int}(hb:ρ i=some b)(hc:adh k z (cellAt h i o)=true):w.cell? ⟨b.blk,b.base+o,none⟩=some (.int k z):=by
 obtain⟨b',hb',y,hy,hr⟩:=hR.cell (amU hc);obtain rfl:b'=b:=Option.some.inj (hb'.symm.trans hb);simp only[bF]at hr;subst hr;exact hy
theorem Rk{h h':Heap}{i o:Nat}{k:IntKind}{z:Int}(hs:setCell h i o (.lit (.int k z))=some h'):al6 h i o k z (λx=>x=h'):=by unfold al6;rw[hs]
theorem amV{tbl:je}(ht:dZ Tryz.prog tbl)(args:List AV)(h:Heap)(K:AV->Heap->Prop)(hq:arS tbl args h K):Sp Tryz.prog 148 args h K:=by
 unfold arS at hq;split at hq
 ·rename_i i o g first cap
  cases hc:(adh .u32 0 (cellAt h i o)&&adh .i32 0 (cellAt h i (o+1))&&(setCell h i o (.lit (.int .u32 1))).isSome)<;>rw[hc]at hq
  ·exact hq.elim
  ·simp only[aP]at hq
   simp only[aJ]at hc;obtain⟨⟨c0,c1⟩,c2⟩:=hc;split at hq
   ·rename_i h1 hs1
    have hsp:=vC dG mixed ht _ _ _ _ _ _ _ hq;refine⟨⟨_,Tryz.func148,by kernel_rfl,by kernel_rfl⟩,λρ T w vs hR hl=> ?_⟩;simp only[dQ]at hl;obtain⟨u0,_,hvs,hu0,u1,_,rfl,hu1,rfl⟩:=hl;simp only[bF]at hu0 hu1;obtain⟨b,hb,rfl⟩:=hu0;obtain⟨fa,ca,rfl,hfa,hca⟩:=hu1;have hvs':=vs2 hvs;rw[hvs'];have e1:b.base+(o+1)=b.base+o+1:=by omega
    obtain⟨h1',f1,R1,n1,K1,rfl⟩:=oG (P:=Tryz.prog) hR (Rk hs1) hb;have f0:w.frozen? ⟨b.blk,b.base+o,none⟩=false:=by
     obtain⟨h5,hs5⟩:=Option.isSome_iff_exists.1 c2;exact hR.agx hs5 hb
    have g0:=KY hR hb c0;have g1:=KY hR hb c1;rw[e1]at g1 f1;refine(slow_any b.blk (b.base+o) g fa ca w (λw2=> ∃ρ2 h2,(∀j,j<h.next->ρ2 j=ρ j)/\h.next<=h2.next/\Rel h2 ρ2 T w2/\Keeps T w w2/\KX i o K h2) hsp.1 g0 g1 f0 f1 ?_).mono ?_
    ·refine(hsp.2 ρ T _ (fa++ca) (by rw[<-e1];exact R1) (by rw[Array.toList_append];exact hfa.append hca)).mono ?_
     rintro e w2 ⟨ρ2,v3,u,h2,q1,q2,q3,q4,rfl,q5,hq⟩
     have hi:i<h1'.next:=by
      rcases Nat.lt_or_ge i h1'.next with hlt|hge
      ·exact hlt
      ·obtain⟨_,_,_,_,r4,_⟩:=R1
       rw[r4 i hge]at hb;cases hb
     have hb2:ρ2 i=some b:=(q1 i hi).trans hb;have hq0:=hq;unfold KX at hq;cases hc2:(adh .u32 0 (cellAt h2 i o)&&adh .i32 1 (cellAt h2 i (o+1))&&(setCell h2 i (o+1) (.lit (.int .i32 0))).isSome)<;>rw[hc2]at hq
     ·exact hq.elim
     ·simp only[aP]at hq
      simp only[aJ]at hc2;obtain⟨⟨d0,d1⟩,d2⟩:=hc2;split at hq
      ·rename_i h3 hs3
       obtain⟨h5,hs5⟩:=Option.isSome_iff_exists.1 d2;obtain⟨_,z1,_⟩:=oG (P:=Tryz.prog) q3 (Rk hs5) hb2;obtain⟨_,z0,_⟩:=oG (P:=Tryz.prog) q3 (Rk hs3) hb2;have m0:=KY q3 hb2 d0;have m1:=KY q3 hb2 d1;rw[e1]at m1 z1;exact⟨⟨u,rfl⟩,m0,z0,m1,z1,ρ2,h2,λj hj=>q1 j (by rw[n1];exact hj),by rw[<-n1];exact q2,q3,(by rw[e1]at K1;exact K1.trans q5),hq0⟩
      ·exact hq.elim
    ·rintro e w' ⟨rfl,w2,⟨ρ2,h2,q1,q2,q3,q5,hq⟩,rfl⟩
     have hi:i<h.next:=by
      rcases Nat.lt_or_ge i h.next with hlt|hge
      ·exact hlt
      ·obtain⟨_,_,_,_,r4,_⟩:=hR
       rw[r4 i hge]at hb;cases hb
     have hb2:ρ2 i=some b:=(q1 i hi).trans hb;unfold KX at hq;cases hc2:(adh .u32 0 (cellAt h2 i o)&&adh .i32 1 (cellAt h2 i (o+1))&&(setCell h2 i (o+1) (.lit (.int .i32 0))).isSome)<;>rw[hc2]at hq
     ·exact hq.elim
     ·simp only[aP]at hq
      split at hq
      ·rename_i h3 hs3
       split at hq
       ·rename_i h4 hs4
        obtain⟨h3',_,R3,n3,K3,rfl⟩:=oG (P:=Tryz.prog) q3.drew (Rk hs3) hb2;obtain⟨h4',_,R4,n4,K4,rfl⟩:=oG (P:=Tryz.prog) R3 (Rk hs4) hb2;rw[e1]at R4 K4;exact⟨ρ2,_,_,_,q1,by omega,R4,by simp only[bF];exact⟨_,rfl,.nil⟩,rfl,((q5.trans (Keeps.drew T w2)).trans K3).trans K4,hq⟩
       ·exact hq.elim
      ·exact hq.elim
   ·exact hq.elim
 ·exact hq.elim
def adi(n:Nat)(k:Nat):Int:=if k=0 then 4 else if k=1 then 70 else if k=2 then 85 else if k=3 then 83 else if k=4 then 69 else(n:Int)/256^(k-5)%256
noncomputable def mW(n:Nat)(k:Nat):Int:=if k<9 then adi n k else if k<13 then nI 0 (adi n) 9/256^(k-9)%256 else 0
noncomputable def E8:Ctr:=det Nat (λn=>[i64 n]) 0 (λ_=>[]) (λn=>Hd (10<=n/\n<=258)) (λ_=> .tup [.slE 0 0 1 64 64,i64 0]) 1 (λn=>[.cells 312 (rowB (mW n) 64)])
def DevM.wide(d:DevM)(k:Int):Prop:=d.st+k<1099511627776/\d.fl+k<1099511627776/\d.fe+k<1099511627776
noncomputable def Fa:iW:={X:=DevM,args:=λ_=>[.ptr 0 0],k:=1,l:=λd=>[.m d.os],pre:=λd=>Hd (d.ok/\10<=d.n/\d.wide 10),outs:=[
 {Y:=DevM,post:=λd d'=>Hd (d'.ok/\d'.n=d.n/\d'.st=d.st+2/\d'.fl=d.fl+2/\d'.fe=d.fe+1),ret:=λ_ _=>i64 0,m:=1,l:=λ_ d'=>[.m d'.os]}]}
noncomputable def auK:je:=[(149,ctrT E8),(150,ctrT Bq),(62,ctrT BA),(105,ctrT Bv),(106,ctrT Bz)]
def arT(a:uS)(b:Nat):Prop:=(Nat.beq (List.length [Value.int .u8 (a.res (0+b))]) 1&&List.all [Value.int .u8 (a.res (0+b))] Value.oneCell')=true
def amW(a:DevM)(b:DevM):Prop:=a.fe=b.fe/\a.ba=b.ba/\a.cu=b.cu/\True
def arU(a:DevM)(b:Qh):Prop:=((0=0/\a.n=b.d.n/\a.n=b.d.n)/\a.st=b.d.st/\a.fl=ite (b.k<b.d.n) (b.d.fl+1) b.d.fl/\amW a b.d)/\(a.n*193=b.d.n*193/\ ∀q:Nat,q<a.n*193->Cs.eff (gB a) [] q=Cs.eff (gB (b.d.flush b.k)) [] q)/\True
def amX(a:uS):Prop:= ∀k:Nat,k<a.b.n->arT a k
def amY(a:uS):Prop:= ∀k:Nat,k<64->arT a k
def Hl:Prop:=0<=64/\64<=64/\64<=64
def aiq:Prop:=(0=0/\64=64/\64=64)/\(0:Int)=0/\True
def air(a:DevM)(b:lD):Prop:=a.n*193=b.d.n*193/\ ∀q:Nat,q<a.n*193->Cs.eff (gB a) [] q=Cs.eff (gB (b.d.store b.k b.a b.b.n (λ(q_1:Nat)=>b.b.g (b.b.q+q_1)))) [] q
def ais(a:uS)(b: ∀a:Nat,Int)(c:Nat):Prop:=(a.b.q=0/\a.b.n=64/\a.c=64)/\(a.at_:Int)=9/\(a.w:Int)=4/\a.v=IntKind.wrap .u64 (nI (0:Int) b c)/\True
def ait(a:DevM)(b:DevM):Prop:=(0=0/\a.n=b.n/\a.n=b.n)/\a.st=b.st+1/\a.fl=b.fl/\amW a b
def aiu:Prop:= ∃y:Unit,True/\(False/\(0:Int)=2/\True)/\False/\True
def Ws(x:Nat):Prop:=
 cP (decide ((x:Int)<10)) aiu (cP (decide ((x:Int)>(258:Int))) aiu (∃x_1:uS,Hd x_1.ok/\((x_1.b.q=0/\x_1.b.n=9/\x_1.c=9)/\(x_1.at_:Int)=5/\(x_1.w:Int)=4/\x_1.v=IntKind.wrap .u64 (x:Int)/\True)/\((x_1.b.N=9/\ ∀q:Nat,q<x_1.b.N->[Value.int .u8 (x_1.b.g q)]=[List.getD [Value.int .u8 4,Value.int .u8 70,Value.int .u8 85,Value.int .u8 83,Value.int .u8 69,Value.int .u8 0,Value.int .u8 0,Value.int .u8 0,Value.int .u8 0] q (@Inhabited.default Value @instInhabitedValue)])/\True)/\ ∀y:Unit,True->Hl/\64<=64/\cP (Nat.ble x_1.b.n 64) (0+x_1.b.n<=x_1.b.n/\amX x_1/\Hl/\0+x_1.b.n<=x_1.b.n/\ ∃n:Nat,∃g: ∀a:Nat,Int,x_1.b.n=n/\n<1099511627776/\(∀k:Nat,k<n->[Value.int .u8 (x_1.res (0+k))]=[Value.int .u8 (g k)])/\(∀k:Nat,0<=g k/\g k<256)/\True/\ ∃x_2:uS,Hd x_2.ok/\ais x_2 g n/\((x_2.b.N=64/\ ∀q:Nat,q<x_2.b.N->[Value.int .u8 (x_2.b.g q)]=Cs.eff (λ(p:Nat)=>cond (Nat.ble 0 p&&Nat.blt p (0+x_1.b.n)) [Value.int .u8 (x_1.res (0+(p-0)))] [Value.int .u8 0]) [] q)/\True)/\ ∀y_1:Unit,True->True/\Hl/\64<=64/\cP (Nat.ble x_2.b.n 64) (0+x_2.b.n<=x_2.b.n/\amX x_2/\
 (∀k:Nat,k<64->(Nat.beq (List.length (Cs.eff (λ(p:Nat)=>cond (Nat.ble 0 p&&Nat.blt p (0+x_2.b.n)) [Value.int .u8 (x_2.res (0+(p-0)))] (Cs.eff (λ(p_1:Nat)=>cond (Nat.ble 0 p_1&&Nat.blt p_1 (0+x_1.b.n)) [Value.int .u8 (x_1.res (0+(p_1-0)))] [Value.int .u8 0]) [] p)) [] k)) 1&&List.all (Cs.eff (λ(p:Nat)=>cond (Nat.ble 0 p&&Nat.blt p (0+x_2.b.n)) [Value.int .u8 (x_2.res (0+(p-0)))] (Cs.eff (λ(p_1:Nat)=>cond (Nat.ble 0 p_1&&Nat.blt p_1 (0+x_1.b.n)) [Value.int .u8 (x_1.res (0+(p_1-0)))] [Value.int .u8 0]) [] p)) [] k) Value.oneCell')=true)/\(∀k:Nat,k<64->(Nat.beq (List.length (Cs.eff (Cs.eff (λ(p:Nat)=>cond (Nat.ble 0 p&&Nat.blt p (0+x_2.b.n)) [Value.int .u8 (x_2.res (0+(p-0)))] (Cs.eff (λ(p_1:Nat)=>cond (Nat.ble 0 p_1&&Nat.blt p_1 (0+x_1.b.n)) [Value.int .u8 (x_1.res (0+(p_1-0)))] [Value.int .u8 0]) [] p)) []) [] k)) 1&&List.all (Cs.eff (Cs.eff (λ(p:Nat)=>cond (Nat.ble 0 p&&Nat.blt p (0+x_2.b.n)) [Value.int .u8 (x_2.res (0+(p-0)))] (Cs.eff (λ(p_1:Nat)=>cond (Nat.ble 0 p_1&&Nat.blt p_1 (0+x_1.b.n)) [Value.int .u8 (x_1.res (0+(p_1-0)))] [Value.int .u8 0]) [] p)) []) [] k) Value.oneCell')=true)/\
 (∀k:Nat,k<64->(Nat.beq (List.length (Cs.eff (Cs.eff (Cs.eff (λ(p:Nat)=>cond (Nat.ble 0 p&&Nat.blt p (0+x_2.b.n)) [Value.int .u8 (x_2.res (0+(p-0)))] (Cs.eff (λ(p_1:Nat)=>cond (Nat.ble 0 p_1&&Nat.blt p_1 (0+x_1.b.n)) [Value.int .u8 (x_1.res (0+(p_1-0)))] [Value.int .u8 0]) [] p)) []) []) [] k)) 1&&List.all (Cs.eff (Cs.eff (Cs.eff (λ(p:Nat)=>cond (Nat.ble 0 p&&Nat.blt p (0+x_2.b.n)) [Value.int .u8 (x_2.res (0+(p-0)))] (Cs.eff (λ(p_1:Nat)=>cond (Nat.ble 0 p_1&&Nat.blt p_1 (0+x_1.b.n)) [Value.int .u8 (x_1.res (0+(p_1-0)))] [Value.int .u8 0]) [] p)) []) []) [] k) Value.oneCell')=true)/\Hl/\ ∃y_2:Unit,True/\aiq/\(64=64/\ ∀q:Nat,q<64->[Value.int .u8 (mW x q)]=Cs.eff (Cs.eff (Cs.eff (Cs.eff (λ(p:Nat)=>cond (Nat.ble 0 p&&Nat.blt p (0+x_2.b.n)) [Value.int .u8 (x_2.res (0+(p-0)))] (Cs.eff (λ(p_1:Nat)=>cond (Nat.ble 0 p_1&&Nat.blt p_1 (0+x_1.b.n)) [Value.int .u8 (x_1.res (0+(p_1-0)))] [Value.int .u8 0]) [] p)) []) []) []) [] q)/\True) (64<=x_2.b.n/\amY x_2/\(∀k:Nat,k<64->(Nat.beq (List.length (Cs.eff (λ(p:Nat)=>cond (Nat.ble 0 p&&Nat.blt p 64) [Value.int .u8 (x_2.res (0+(p-0)))] (Cs.eff (λ(p_1:Nat)=>cond (Nat.ble 0 p_1&&Nat.blt p_1 (0+x_1.b.n)) [Value.int .u8 (x_1.res (0+(p_1-0)))] [Value.int .u8 0]) [] p)) [] k)) 1&&List.all (Cs.eff (λ(p:Nat)=>cond (Nat.ble 0 p&&Nat.blt p 64) [Value.int .u8 (x_2.res (0+(p-0)))] (Cs.eff (λ(p_1:Nat)=>cond (Nat.ble 0 p_1&&Nat.blt p_1 (0+x_1.b.n)) [Value.int .u8 (x_1.res (0+(p_1-0)))] [Value.int .u8 0]) [] p)) [] k) Value.oneCell')=true)/\
 (∀k:Nat,k<64->(Nat.beq (List.length (Cs.eff (Cs.eff (λ(p:Nat)=>cond (Nat.ble 0 p&&Nat.blt p 64) [Value.int .u8 (x_2.res (0+(p-0)))] (Cs.eff (λ(p_1:Nat)=>cond (Nat.ble 0 p_1&&Nat.blt p_1 (0+x_1.b.n)) [Value.int .u8 (x_1.res (0+(p_1-0)))] [Value.int .u8 0]) [] p)) []) [] k)) 1&&List.all (Cs.eff (Cs.eff (λ(p:Nat)=>cond (Nat.ble 0 p&&Nat.blt p 64) [Value.int .u8 (x_2.res (0+(p-0)))] (Cs.eff (λ(p_1:Nat)=>cond (Nat.ble 0 p_1&&Nat.blt p_1 (0+x_1.b.n)) [Value.int .u8 (x_1.res (0+(p_1-0)))] [Value.int .u8 0]) [] p)) []) [] k) Value.oneCell')=true)/\(∀k:Nat,k<64->(Nat.beq (List.length (Cs.eff (Cs.eff (Cs.eff (λ(p:Nat)=>cond (Nat.ble 0 p&&Nat.blt p 64) [Value.int .u8 (x_2.res (0+(p-0)))] (Cs.eff (λ(p_1:Nat)=>cond (Nat.ble 0 p_1&&Nat.blt p_1 (0+x_1.b.n)) [Value.int .u8 (x_1.res (0+(p_1-0)))] [Value.int .u8 0]) [] p)) []) []) [] k)) 1&&List.all (Cs.eff (Cs.eff (Cs.eff (λ(p:Nat)=>cond (Nat.ble 0 p&&Nat.blt p 64) [Value.int .u8 (x_2.res (0+(p-0)))] (Cs.eff (λ(p_1:Nat)=>cond (Nat.ble 0 p_1&&Nat.blt p_1 (0+x_1.b.n)) [Value.int .u8 (x_1.res (0+(p_1-0)))] [Value.int .u8 0]) [] p)) []) []) [] k) Value.oneCell')=true)/\Hl/\ ∃y_2:Unit,True/\aiq/\(64=64/\ ∀q:Nat,q<64->[Value.int .u8 (mW x q)]=Cs.eff (Cs.eff (Cs.eff (Cs.eff (λ(p:Nat)=>cond (Nat.ble 0 p&&Nat.blt p 64) [Value.int .u8 (x_2.res (0+(p-0)))] (Cs.eff (λ(p_1:Nat)=>cond (Nat.ble 0 p_1&&Nat.blt p_1 (0+x_1.b.n)) [Value.int .u8 (x_1.res (0+(p_1-0)))] [Value.int .u8 0]) [] p)) []) []) []) [] q)/\True)) (64<=x_1.b.n/\amY x_1/\Hl/\0+x_1.b.n<=x_1.b.n/\ ∃n:Nat,∃g: ∀a:Nat,Int,x_1.b.n=n/\n<1099511627776/\
 (∀k:Nat,k<n->[Value.int .u8 (x_1.res (0+k))]=[Value.int .u8 (g k)])/\(∀k:Nat,0<=g k/\g k<256)/\True/\ ∃x_2:uS,Hd x_2.ok/\ais x_2 g n/\((x_2.b.N=64/\ ∀q:Nat,q<x_2.b.N->[Value.int .u8 (x_2.b.g q)]=Cs.eff (λ(p:Nat)=>cond (Nat.ble 0 p&&Nat.blt p 64) [Value.int .u8 (x_1.res (0+(p-0)))] [Value.int .u8 0]) [] q)/\True)/\ ∀y_1:Unit,True->True/\Hl/\64<=64/\cP (Nat.ble x_2.b.n 64) (0+x_2.b.n<=x_2.b.n/\amX x_2/\(∀k:Nat,k<64->(Nat.beq (List.length (Cs.eff (λ(p:Nat)=>cond (Nat.ble 0 p&&Nat.blt p (0+x_2.b.n)) [Value.int .u8 (x_2.res (0+(p-0)))] (Cs.eff (λ(p_1:Nat)=>cond (Nat.ble 0 p_1&&Nat.blt p_1 64) [Value.int .u8 (x_1.res (0+(p_1-0)))] [Value.int .u8 0]) [] p)) [] k)) 1&&List.all (Cs.eff (λ(p:Nat)=>cond (Nat.ble 0 p&&Nat.blt p (0+x_2.b.n)) [Value.int .u8 (x_2.res (0+(p-0)))] (Cs.eff (λ(p_1:Nat)=>cond (Nat.ble 0 p_1&&Nat.blt p_1 64) [Value.int .u8 (x_1.res (0+(p_1-0)))] [Value.int .u8 0]) [] p)) [] k) Value.oneCell')=true)/\(∀k:Nat,k<64->(Nat.beq (List.length (Cs.eff (Cs.eff (λ(p:Nat)=>cond (Nat.ble 0 p&&Nat.blt p (0+x_2.b.n)) [Value.int .u8 (x_2.res (0+(p-0)))] (Cs.eff (λ(p_1:Nat)=>cond (Nat.ble 0 p_1&&Nat.blt p_1 64) [Value.int .u8 (x_1.res (0+(p_1-0)))] [Value.int .u8 0]) [] p)) []) [] k)) 1&&List.all (Cs.eff (Cs.eff (λ(p:Nat)=>cond (Nat.ble 0 p&&Nat.blt p (0+x_2.b.n)) [Value.int .u8 (x_2.res (0+(p-0)))] (Cs.eff (λ(p_1:Nat)=>cond (Nat.ble 0 p_1&&Nat.blt p_1 64) [Value.int .u8 (x_1.res (0+(p_1-0)))] [Value.int .u8 0]) [] p)) []) [] k) Value.oneCell')=true)/\
 (∀k:Nat,k<64->(Nat.beq (List.length (Cs.eff (Cs.eff (Cs.eff (λ(p:Nat)=>cond (Nat.ble 0 p&&Nat.blt p (0+x_2.b.n)) [Value.int .u8 (x_2.res (0+(p-0)))] (Cs.eff (λ(p_1:Nat)=>cond (Nat.ble 0 p_1&&Nat.blt p_1 64) [Value.int .u8 (x_1.res (0+(p_1-0)))] [Value.int .u8 0]) [] p)) []) []) [] k)) 1&&List.all (Cs.eff (Cs.eff (Cs.eff (λ(p:Nat)=>cond (Nat.ble 0 p&&Nat.blt p (0+x_2.b.n)) [Value.int .u8 (x_2.res (0+(p-0)))] (Cs.eff (λ(p_1:Nat)=>cond (Nat.ble 0 p_1&&Nat.blt p_1 64) [Value.int .u8 (x_1.res (0+(p_1-0)))] [Value.int .u8 0]) [] p)) []) []) [] k) Value.oneCell')=true)/\Hl/\ ∃y_2:Unit,True/\aiq/\(64=64/\ ∀q:Nat,q<64->[Value.int .u8 (mW x q)]=Cs.eff (Cs.eff (Cs.eff (Cs.eff (λ(p:Nat)=>cond (Nat.ble 0 p&&Nat.blt p (0+x_2.b.n)) [Value.int .u8 (x_2.res (0+(p-0)))] (Cs.eff (λ(p_1:Nat)=>cond (Nat.ble 0 p_1&&Nat.blt p_1 64) [Value.int .u8 (x_1.res (0+(p_1-0)))] [Value.int .u8 0]) [] p)) []) []) []) [] q)/\True) (64<=x_2.b.n/\amY x_2/\(∀k:Nat,k<64->(Nat.beq (List.length (Cs.eff (λ(p:Nat)=>cond (Nat.ble 0 p&&Nat.blt p 64) [Value.int .u8 (x_2.res (0+(p-0)))] (Cs.eff (λ(p_1:Nat)=>cond (Nat.ble 0 p_1&&Nat.blt p_1 64) [Value.int .u8 (x_1.res (0+(p_1-0)))] [Value.int .u8 0]) [] p)) [] k)) 1&&List.all (Cs.eff (λ(p:Nat)=>cond (Nat.ble 0 p&&Nat.blt p 64) [Value.int .u8 (x_2.res (0+(p-0)))] (Cs.eff (λ(p_1:Nat)=>cond (Nat.ble 0 p_1&&Nat.blt p_1 64) [Value.int .u8 (x_1.res (0+(p_1-0)))] [Value.int .u8 0]) [] p)) [] k) Value.oneCell')=true)/\
 (∀k:Nat,k<64->(Nat.beq (List.length (Cs.eff (Cs.eff (λ(p:Nat)=>cond (Nat.ble 0 p&&Nat.blt p 64) [Value.int .u8 (x_2.res (0+(p-0)))] (Cs.eff (λ(p_1:Nat)=>cond (Nat.ble 0 p_1&&Nat.blt p_1 64) [Value.int .u8 (x_1.res (0+(p_1-0)))] [Value.int .u8 0]) [] p)) []) [] k)) 1&&List.all (Cs.eff (Cs.eff (λ(p:Nat)=>cond (Nat.ble 0 p&&Nat.blt p 64) [Value.int .u8 (x_2.res (0+(p-0)))] (Cs.eff (λ(p_1:Nat)=>cond (Nat.ble 0 p_1&&Nat.blt p_1 64) [Value.int .u8 (x_1.res (0+(p_1-0)))] [Value.int .u8 0]) [] p)) []) [] k) Value.oneCell')=true)/\(∀k:Nat,k<64->(Nat.beq (List.length (Cs.eff (Cs.eff (Cs.eff (λ(p:Nat)=>cond (Nat.ble 0 p&&Nat.blt p 64) [Value.int .u8 (x_2.res (0+(p-0)))] (Cs.eff (λ(p_1:Nat)=>cond (Nat.ble 0 p_1&&Nat.blt p_1 64) [Value.int .u8 (x_1.res (0+(p_1-0)))] [Value.int .u8 0]) [] p)) []) []) [] k)) 1&&List.all (Cs.eff (Cs.eff (Cs.eff (λ(p:Nat)=>cond (Nat.ble 0 p&&Nat.blt p 64) [Value.int .u8 (x_2.res (0+(p-0)))] (Cs.eff (λ(p_1:Nat)=>cond (Nat.ble 0 p_1&&Nat.blt p_1 64) [Value.int .u8 (x_1.res (0+(p_1-0)))] [Value.int .u8 0]) [] p)) []) []) [] k) Value.oneCell')=true)/\Hl/\ ∃y_2:Unit,True/\aiq/\(64=64/\ ∀q:Nat,q<64->[Value.int .u8 (mW x q)]=Cs.eff (Cs.eff (Cs.eff (Cs.eff (λ(p:Nat)=>cond (Nat.ble 0 p&&Nat.blt p 64) [Value.int .u8 (x_2.res (0+(p-0)))] (Cs.eff (λ(p_1:Nat)=>cond (Nat.ble 0 p_1&&Nat.blt p_1 64) [Value.int .u8 (x_1.res (0+(p_1-0)))] [Value.int .u8 0]) [] p)) []) []) []) [] q)/\True))))
theorem adk(x:Nat):Ws x=wpF Tryz.prog tblK tt (noA x) 200 5 149 (E8.args x) (hO E8.k (E8.os x)) (λv h'=>eX E8.k x v h' E8.outs):=by kernel_rfl
def KZ(x:DevM):Prop:=
 ∃x_1:Nat,Hd (10<=x_1/\x_1<=258)/\((x_1:Int)=(x.n:Int)/\True)/\True/\ ∀y:Unit,True-> ∃x_2:lD,Hd (x_2.d.ok/\x_2.k<x_2.d.n/\x_2.b.ok/\x_2.a+x_2.b.n<=64)/\(0=0/\(x_2.k:Int)=0/\(x_2.a:Int)=0/\(x_2.b.q=0/\x_2.b.n=64)/\True)/\(((0=0/\x_2.d.n=x.n/\x_2.d.n=x.n)/\x_2.d.st=x.st/\x_2.d.fl=x.fl/\amW x_2.d x)/\(x_2.d.n*193=x.n*193/\ ∀q:Nat,q<x_2.d.n*193->Cs.eff (gB x_2.d) [] q=Cs.eff (gB x) [] q)/\(x_2.b.N=64/\ ∀q:Nat,q<x_2.b.N->[Value.int .u8 (x_2.b.g q)]=[Value.int .u8 (mW x_1 q)])/\True)/\ ∀y_1:Unit,True-> ∃x_3:Int,Hd (0<=x_3/\x_3<18446744073709551616)/\(x_3=0/\True)/\True/\ ∀y_2:Unit,True-> ∃x_4:lD,Hd (x_4.d.ok/\x_4.k<x_4.d.n/\x_4.b.ok/\x_4.a+x_4.b.n<=64)/\(0=0/\(x_4.k:Int)=1/\(x_4.a:Int)=0/\(x_4.b.q=0/\x_4.b.n=64)/\True)/\(ait x_4.d x_2.d/\air x_4.d x_2/\(x_4.b.N=64/\ ∀q:Nat,q<x_4.b.N->[Value.int .u8 (x_4.b.g q)]=[Value.int .u8 (iG x_3 q)])/\True)/\ ∀y_3:Unit,True-> ∃x_5:Qh,Hd (x_5.d.ok/\x_5.k<258)/\(0=0/\(x_5.k:Int)=0/\True)/\(ait x_5.d x_4.d/\air x_5.d x_4/\True)/\ ∀y_4:Unit,True-> ∃x_6:Qh,Hd (x_6.d.ok/\x_6.k<258)/\(0=0/\(x_6.k:Int)=1/\True)/\arU x_6.d x_5/\ ∀y_5:Unit,True-> ∃x_7:DevM,Hd x_7.ok/\(0=0/\True)/\arU x_7 x_6/\ ∀y_6:Unit,True-> ∃y_7:DevM,Hd (y_7.ok/\y_7.n=x.n/\y_7.st=x.st+2/\y_7.fl=x.fl+2/\y_7.fe=x.fe+1)/\(0:Int)=0/\((0=0/\y_7.n=x_7.n/\y_7.n=x_7.n)/\y_7.st=x_7.st/\y_7.fl=x_7.fl/\y_7.fe=x_7.fe+1/\y_7.ba=x_7.ba/\y_7.cu=x_7.cu/\True)/\(y_7.n*193=x_7.n*193/\ ∀q:Nat,q<y_7.n*193->Cs.eff (gB y_7) [] q=Cs.eff (gB x_7.fence) [] q)/\True
theorem Wu(x:DevM):KZ x=wpF Tryz.prog auK tt (noA x) 200 5 90 (Fa.args x) (hO 2 (flatP 1 (Fa.l x))) (λv h'=>endsPK 1 x v h' Fa.outs):=by kernel_rfl
theorem Rl(v:Nat)(hv:10<=v/\v<=258):Ws v:=by
 have hw:IntKind.u64.wrap (v:Int)=v:=jf (by omega) (by omega);let b0:Bys:=⟨λk=>if k=0 then 4 else if k=1 then 70 else if k=2 then 85 else if k=3 then 83 else if k=4 then 69 else 0,0,9,9⟩
 let x1:uS:=⟨b0,5,4,v,9⟩
 have ok1:x1.ok:=⟨⟨by simp[x1,b0],by simp[x1,b0],λk=>by simp only[x1,b0];grind⟩,by simp[x1,b0],by simp[x1],by simp[x1],by show(0:Int)<=v;omega,by show(v:Int)<256^4;omega⟩;have r1: ∀k,k<9->x1.res k=adi v k:=λk hk=>by
  simp only[uS.res,pG,adi,x1,b0];by_cases h:k<5
  ·rw[if_neg (by omega),aA];grind
  ·rw[if_pos (by omega)];grind
 have u1: ∀k,0<=x1.res k/\x1.res k<256:=zG (λk=>ok1.1.2.2 _) _ _ _;let b1:Bys:=⟨λk=>if k<9 then x1.res k else 0,0,64,64⟩
 let x2:uS:=⟨b1,9,4,nI 0 x1.res 9,64⟩
 have c1:nI 0 x1.res 9=nI 0 (adi v) 9:=zF r1;have hU:=ZX 0 x1.res 9
 have ok2:x2.ok:=⟨⟨by simp[x2,b1],by simp[x2,b1],λk=>by
  show 0<=(if k<9 then x1.res k else 0)/\(if k<9 then x1.res k else 0)<256;split
  ·exact u1 k
  ·exact⟨by omega,by omega⟩⟩,by simp[x2,b1],by simp[x2],by simp[x2],hU.1,hU.2⟩
 have w64:IntKind.u64.wrap (nI 0 x1.res 9)=nI 0 x1.res 9:=jf hU.1 (by have:=hU.2;omega);have nb:x1.b.n=9:=rfl;have nb2:x2.b.n=64:=rfl;have ble9:Nat.ble 9 64=true:=rfl;have arf:Nat.ble 64 64=true:=rfl;unfold Ws;simp only[aiu,Hl,amX,ais,aiq,amY,arT];simp only[aZ,aV,aU,aA,aI,bU,bG,aO,aK,ay,aX,aW,bV,bH,bJ,bK,bW,bC,bM,bn,eY,aH,aN,ah,ak,aB,aF,aC,aG,hw];refine bf (λh=>absurd (aS h) (by omega)) λ_=>bf (λh=>absurd (aS h) (by omega)) λ_=> ?_
 refine⟨x1,ok1,⟨⟨rfl,rfl,rfl⟩,rfl,rfl,rfl⟩,⟨rfl,λq hq=> ?_⟩,by omega,by omega,?_⟩
 ·have hq:q<9:=hq
  match q,hq with
  |0,_|1,_|2,_|3,_|4,_|5,_|6,_|7,_|8,_=>rfl
 simp only[nb,ble9,cP,bV,bH,bJ,bK,bW,bC,bM,bn,eY,aH,aN,ah,ak,aB,aF,aC,aG,aK,aU];refine⟨by omega,by omega,by omega,9,x1.res,rfl,by omega,λ_ _=>rfl,u1,x2,ok2,⟨⟨rfl,rfl,rfl⟩,rfl,rfl,w64.symm⟩,⟨rfl,λq hq=> ?_⟩,by omega,by omega,?_⟩
 ·show(if q<9 then x1.res q else 0)=_
  rw[bY,dK]
 simp only[nb2,arf,cP,bV,bH,bJ,bK,bW,bC,bM,bn,eY,aH,aN,ah,ak,aB,aF,aC,aG,aK,aU];refine⟨by omega,by omega,λq hq=> ?_⟩;simp[bg.2 hq];show mW v q=pG (λk=>if 0+k<9 then x1.res (0+k)else 0) 9 4 (nI 0 x1.res 9) q;simp only[mW,pG,c1,aA];by_cases h:q<9
 ·rw[if_pos h,if_neg (by omega),if_pos h,r1 q h]
 ·by_cases h2:q<13
  ·rw[if_neg h,if_pos h2,if_pos (by omega)]
  ·rw[if_neg h,if_neg h2,if_neg (by omega),if_neg h]
theorem Rn{v:Nat}(hv:v<=258)(k:Nat):0<=mW v k/\mW v k<256:=by
 unfold mW adi
 repeat' split
 all_goals first|exact lX _ _|omega
theorem DevM.zO{d:DevM}(h:d.ok)(k:Nat)(hf:d.fl+1<1099511627776):(d.flush k).ok:=by
 obtain⟨h1,h2,h3,h4,h5,h6⟩:=h;refine⟨h1,λp=> ?_,h3,?_,h5,h6⟩
 ·simp only[DevM.flush];split<;>exact h2 _
 ·unfold small at*;simp only[DevM.flush];split<;>omega
theorem DevM.Jb{d:DevM}(h:d.ok)(hf:d.fe+1<1099511627776):d.fence.ok:=by
 obtain⟨h1,h2,h3,h4,h5,h6⟩:=h;refine⟨h1,λp=> ?_,h3,h4,?_,h6⟩
 ·simp only[DevM.fence,DevM.iL];split<;>exact h2 _
 ·unfold small at*;simp only[DevM.fence,DevM.iL];omega
theorem DevM.pJ{d:DevM}(h:d.ok)(k a n:Nat){g:Nat->Int}(hg: ∀q,0<=g q/\g q<256)(hf:d.st+1<1099511627776):(d.store k a n g).ok:=by
 obtain⟨h1,h2,h3,h4,h5,h6⟩:=h;refine⟨h1,λp=> ?_,?_,h4,h5,h6⟩
 ·simp only[DevM.store]
  split
  ·exact hg _
  ·exact h2 _
 ·unfold small at*;simp only[DevM.store];omega
theorem La(x:DevM)(hx:x.ok/\10<=x.n/\x.wide 10):KZ x:=by
 obtain⟨ho,hn,w1,w2,w3⟩:=hx;have hn2:=ho.1;let s1:=x.store 0 0 64 (mW x.n)
 let s2:=s1.store 1 0 64 (iG 0)
 let f1:=s2.flush 0
 let f2:=f1.flush 1
 have o1:s1.ok:=DevM.pJ ho _ _ _ (Rn (by omega)) (by omega);have o2:s2.ok:=DevM.pJ o1 _ _ _ (yB 0) (by show x.st+1+1<_;omega);have o3:f1.ok:=DevM.zO o2 0 (by show x.fl+1<_;omega);have e3:f1.fl=x.fl+1:=if_pos (by show 0<x.n;omega);have o4:f2.ok:=DevM.zO o3 1 (by rw[e3];omega);have e4:f2.fl=x.fl+2:=(if_pos (show 1<x.n by omega)).trans (by rw[e3];omega);have o5:f2.fence.ok:=DevM.Jb o4 (by show x.fe+1<_;omega);have z1:(x.store 0 0 64 λq=>mW x.n (0+q))=s1:=by simp only[aA];rfl
 have z2:(s1.store 1 0 64 λq=>iG 0 (0+q))=s2:=by simp only[aA];rfl
 unfold KZ;simp only[amW,ait,air,arU];simp only[aZ,aV,aU,aA,aI,bU,bG,aO,aK,ay,aX,aW,bV,bH,bJ,bK,bW,bC,bM,bn,eY,aH,aN,ah,ak,aB,aF,aC,aG]
 refine⟨x.n,⟨hn,hn2⟩,rfl,⟨x,0,0,⟨mW x.n,0,64,64⟩⟩,⟨ho,by show 0<x.n;omega,⟨by simp,by simp,Rn hn2⟩,by simp⟩,⟨rfl,rfl,rfl,rfl⟩,⟨⟨rfl,rfl,rfl,rfl,rfl,rfl⟩,⟨rfl,λq _=>rfl⟩,rfl,λq _=>rfl⟩,
  0,⟨by decide,by decide⟩,rfl,⟨s1,1,0,⟨iG 0,0,64,64⟩⟩,⟨o1,by show 1<x.n;omega,⟨by simp,by simp,yB 0⟩,by simp⟩,⟨rfl,rfl,rfl,rfl⟩,⟨⟨rfl,rfl,rfl,rfl,rfl,rfl⟩,⟨rfl,λq _=> ?_⟩,rfl,λq _=>rfl⟩,
  ⟨s2,0⟩,⟨o2,show 0<258 by decide⟩,rfl,⟨⟨rfl,rfl,rfl,rfl,rfl,rfl⟩,rfl,λq _=> ?_⟩,⟨f1,1⟩,⟨o3,show 1<258 by decide⟩,rfl,⟨⟨rfl,rfl,rfl,rfl,rfl,rfl⟩,rfl,λq _=>rfl⟩,f2,o4,⟨⟨rfl,rfl,rfl,rfl,rfl,rfl⟩,rfl,λq _=>rfl⟩,f2.fence,⟨o5,rfl,by show x.st+1+1=x.st+2;omega,e4,rfl⟩,⟨rfl,rfl,rfl,rfl,rfl,rfl⟩,rfl,λq _=>rfl⟩
 ·show gB s1 q=gB (x.store 0 0 64 λq=>mW x.n (0+q)) q
  rw[z1]
 ·show gB s2 q=gB (s1.store 1 0 64 λq=>iG 0 (0+q)) q
  rw[z2]
theorem amZ:cO Tryz.prog 149 E8:=dM dG mixed agR noA 200 5 (λ_=>rfl) (λ_=>rfl) λx hx=>Eq.mp (adk x) (Rl x (aZ.1 hx))
theorem am0:dZ Tryz.prog auK:= .cons (bP amZ) (.cons (bP Z4) (.cons (bP aag) (.cons (bP aae) (.cons (bP aaf) .nil))))
theorem aiv:cO Tryz.prog 90 Fa.ctr:=dh dG mixed am0 2 noA 200 5 (λ_=>⟨rfl,rfl,rfl,rfl⟩) λx hx=>Eq.mp (Wu x) (La x (aZ.1 hx))
noncomputable def aiw:iW:=oJ Nat (λn=>[i64 n]) 0 (λ_=>[]) (λn=>Hd (1<=n/\n<=258)) (λ_=> .tup [.ptr 0 0,i64 0]) 1 (λn=>[.m (yx n).os])
def aix:iW:=oJ Nat (λt=>[i64 t]) 0 (λ_=>[]) (λt=>Hd (1<=t/\t<=4)) (λ_=> .tup [.ptr 0 0,i64 0]) 1 (λt=>[.m (aht t).os])
def aiy:iW:=oJ (Nat×Int) (λp=>[i64 p.1,u64 p.2]) 0 (λ_=>[]) (λp=>Hd (1<=p.1/\p.1<=4/\0<=p.2/\p.2<=1152921504606846976)) (λ_=> .tup [.ptr 0 0,i64 0]) 1 (λp=>[.m ((Ql p.1 p.2).os 0)])
noncomputable def aiz:iW:=oJ Nat (λn=>[i64 n]) 0 (λ_=>[]) (λn=>Hd (1<=n/\n<=32)) (λ_=> .tup [.ptr 0 0,i64 0]) 1 (λn=>[.m (gI n n).os])
noncomputable def Ro:iW:=oJ DevM (λ_=>[.ptr 0 0]) 1 (λd=>[.m d.os]) (λd=>Hd d.ok) (λd=>i64 d.n) 1 (λd=>[.m d.os])
def Rq:iw:=⟨true,0,λ_=>⟨0,0,0,0,0⟩⟩
def am1:ZLn:=⟨0,0,0,0,λ_=>iQ⟩
def aiA:iW:=oJ Unit (λ_=>[]) 0 (λ_=>[]) (λ_=>Hd True) (λ_=> .ptr 0 0) 1 (λ_=>[.m Rq.os])
def aiB:iW:=oJ Unit (λ_=>[]) 0 (λ_=>[]) (λ_=>Hd True) (λ_=> .ptr 0 0) 1 (λ_=>[.m am1.os])
def CJ:Prop:= ∃y:Unit,True/\(False/\(0:Int)=2/\True)/\False/\False/\True
def Rt:Prop:=0=0/\(0:Int)=0/\True
def Ho(a:Nat):Prop:=0=0/\a=a/\a=a
def arV:Prop:=258=258/\ ∀q:Nat,q<258->[Value.bool false]=[Value.bool false]
def Wv(x:Nat):Prop:=
 cP (decide ((x:Int)<1)) CJ (cP (decide ((x:Int)>(258:Int))) CJ ((0<=(x:Int)/\(x:Int)<=(x:Int)/\193*(x:Int)<=281474976710656/\(x:Int)<4611686018427387904)/\ ∃y:Unit,True/\Rt/\(Ho x/\(0:Int)=0/\(0:Int)=0/\(0:Int)=0/\(0:Int)=0/\(0:Int)=0/\True)/\(x*193=x*193/\ ∀q:Nat,∀j:Nat,q<x->j<193-> ∃v:Value,getElem? (List.replicate 192 (Value.int .u8 0)++[Value.bool false]) j=some v/\Cs.eff (gB (yx x)) [] (q*193+j)=[v])/\True))
theorem adl(x:Nat):Wv x=wpF Tryz.prog [] tt (noA x) 200 5 48 (aiw.args x) (hO 0 (flatP 0 (aiw.l x))) (λv h'=>endsPK 0 x v h' aiw.outs):=by kernel_rfl
def Wx(x:Nat):Prop:=
 cP (decide ((x:Int)<1)) CJ (cP (decide ((x:Int)>(4:Int))) CJ ((0<=(x:Int)/\(x:Int)<=(x:Int)/\8*(x:Int)<=281474976710656/\(x:Int)<4611686018427387904)/\ ∃y:Unit,True/\Rt/\((1:Int)=1/\Ho x/\True)/\(x=x/\ ∀q:Nat,q<x->[Value.int .u64 0]=[Value.int .u64 0])/\True))
theorem adn(x:Nat):Wx x=wpF Tryz.prog nU tt (noA x) 200 5 79 (aix.args x) (hO 0 (flatP 0 (aix.l x))) (λv h'=>endsPK 0 x v h' aix.outs):=by kernel_rfl
def Wy(x:Nat×Int):Prop:=
 cP (decide ((x.1:Int)<1)) CJ (cP (decide ((x.1:Int)>(4:Int))) CJ (cP (decide (x.2>(1152921504606846976:Int))) (∃y:Unit,True/\(False/\(0:Int)=10/\True)/\False/\False/\True) ((0<=(x.1:Int)/\(x.1:Int)<=(x.1:Int)/\8*(x.1:Int)<=281474976710656/\(x.1:Int)<4611686018427387904)/\ ∃y:Unit,True/\Rt/\((x.2+1=IntKind.wrap .u64 (x.2+1)/\x.2=x.2/\(0:Int)=0/\(0=0/\x.1=x.1/\x.1=x.1)/\True)/\arV/\arV/\Value.nilFunc=Value.nilFunc/\True)/\(x.1=x.1/\ ∀q:Nat,q<x.1->[Value.int .i64 0]=[Value.int .i64 0])/\True)))
theorem ado(x:Nat×Int):Wy x=wpF Tryz.prog nU tt (noA x) 200 5 81 (aiy.args x) (hO 0 (flatP 0 (aiy.l x))) (λv h'=>endsPK 0 x v h' aiy.outs):=by kernel_rfl
def WA(x:Nat):Prop:=
 cP (decide ((x:Int)<1)) CJ (I64 (256:Int)/\((8:Int)=0->False)/\I64 (32:Int)/\cP (decide ((x:Int)>(32:Int))) CJ ((0<=(x:Int)/\(x:Int)<=(x:Int)/\24*(x:Int)<=281474976710656/\(x:Int)<4611686018427387904)/\(∃s:Nat,s<=x/\True/\((s:Int)=0/\True)/\(Ho x/\True)/\(x*10=x*10/\ ∀q:Nat,∀j:Nat,q<x->j<10-> ∃v:Value,getElem? [Value.int .i64 0,Value.bool false,Value.bool false,Value.bool false,Value.bool false,Value.bool false,Value.bool false,Value.bool false,Value.bool false,Value.int .i64 0] j=some v/\Cs.eff (gX (gI x s)) [] (q*10+j)=[v])/\True)/\(∀s:Nat,s<=x->cP (decide ((s:Int)<(x:Int))) ((0<=(s:Int)/\(s:Int)<(x:Int))/\(0+s)*10+0<x*10/\I64 ((s:Int)+1)/\ ∃s_1:Nat,s_1<=x/\x-s_1<x-s/\((s_1:Int)=(s:Int)+1/\True)/\(Ho x/\True)/\(x*10=x*10/\ ∀q:Nat,q<x*10->Cs.eff (gX (gI x s_1)) [] q=Cs.eff (gX (gI x s)) [((0+s)*10+0,[Value.int .i64 (-(1:Int))])] q)/\True) (∃y:Unit,True/\Rt/\(Ho x/\True)/\(x*10=x*10/\ ∀q:Nat,q<x*10->Cs.eff (gX (gI x x)) [] q=Cs.eff (gX (gI x s)) [] q)/\True))/\True))
theorem adp(x:Nat):WA x=wpF Tryz.prog [] tt (apw x) 200 5 82 (aiz.args x) (hO 0 (flatP 0 (aiz.l x))) (λv h'=>endsPK 0 x v h' aiz.outs):=by kernel_rfl
def WB(x:DevM):Prop:=
 ∃y:Unit,True/\(x.n:Int)=(x.n:Int)/\(Ho x.n/\x.st=x.st/\x.fl=x.fl/\x.fe=x.fe/\x.ba=x.ba/\x.cu=x.cu/\True)/\(x.n*193=x.n*193/\ ∀q:Nat,q<x.n*193->Cs.eff (gB x) [] q=Cs.eff (gB x) [] q)/\True
theorem adq(x:DevM):WB x=wpF Tryz.prog nU tt (noA x) 200 5 80 (Ro.args x) (hO 2 (flatP 1 (Ro.l x))) (λv h'=>endsPK 1 x v h' Ro.outs):=by kernel_rfl
def aiC(x:Unit):Prop:=
 ∃y:Unit,True/\0=0/\(Value.slice none 0 0=Value.slice none 0 0/\True)/\True
theorem aiD(x:Unit):aiC x=wpF Tryz.prog [] tt (noA x) 200 5 84 (aiA.args x) (hO 0 (flatP 0 (aiA.l x))) (λv h'=>endsPK 0 x v h' aiA.outs):=by kernel_rfl
def aiE(x:Unit):Prop:=
 ∃y:Unit,True/\0=0/\(Value.slice none 0 0=Value.slice none 0 0/\(0:Int)=0/\(0:Int)=0/\True)/\True
theorem aiF(x:Unit):aiE x=wpF Tryz.prog [] tt (noA x) 200 5 87 (aiB.args x) (hO 0 (flatP 0 (aiB.l x))) (λv h'=>endsPK 0 x v h' aiB.outs):=by kernel_rfl
theorem Ru(x:Nat)(hx:1<=x/\x<=258):Wv x:=by
 have h:=Vm x hx;unfold agX at h;simp only[aad,nV,lF]at h;unfold Wv;simp only[CJ,Rt,Ho];simp only[aZ,aV,aU,aA,aI,bU,bG,aO,aK,ay,aX,aW,bV,bH,bJ,bK,bW,bC,bM,bn,eY,aH,aN,ah,ak,aB,aF,aC,aG]at h ⊢;exact h
theorem Rw(x:Nat)(hx:1<=x/\x<=4):Wx x:=by
 have h:=VW x hx;unfold ahC at h;simp only[aav,lI]at h;unfold Wx;simp only[CJ,Rt,Ho];simp only[aZ,aV,aU,aA,aI,bU,bG,aO,aK,ay,aX,aW,bV,bH,bJ,bK,bW,bC,bM,bn,eY,aH,aN,ah,ak,aB,aF,aC,aG]at h ⊢;exact h
theorem Rx(x:Nat×Int)(hx:1<=x.1/\x.1<=4/\0<=x.2/\x.2<=1152921504606846976):Wy x:=by
 have h:=Vu x hx;unfold ag1 at h;simp only[aam,IV,BF]at h;unfold Wy;simp only[CJ,Rt,arV];simp only[aZ,aV,aU,aA,aI,bU,bG,aO,aK,ay,aX,aW,bV,bH,bJ,bK,bW,bC,bM,bn,eY,aH,aN,ah,ak,aB,aF,aC,aG]at h ⊢;exact h
theorem Ry(x:Nat)(hx:1<=x/\x<=32):WA x:=by
 have h:=VJ x hx;unfold ahi at h;simp only[aas,nY,yH]at h;unfold WA;simp only[CJ,Ho,Rt];simp only[aZ,aV,aU,aA,aI,bU,bG,aO,aK,ay,aX,aW,bV,bH,bJ,bK,bW,bC,bM,bn,eY,aH,aN,ah,ak,aB,aF,aC,aG]at h ⊢;exact h
theorem Rz(x:DevM)(_:x.ok):WB x:=by
 unfold WB;simp only[Ho];simp only[aZ,aV,aU,aA,aI,bU,bG,aO,aK,ay,aX,aW,bV,bH,bJ,bK,bW,bC,bM,bn,eY,aH,aN,ah,ak,aB,aF,aC,aG]
theorem am2:cO Tryz.prog 48 aiw.ctr:=dh dG mixed .nil 0 noA 200 5 (λ_=>⟨rfl,rfl,rfl,rfl⟩) λx hx=>Eq.mp (adl x) (Ru x (aZ.1 hx))
theorem am3:cO Tryz.prog 79 aix.ctr:=dh dG mixed dO 0 noA 200 5 (λ_=>⟨rfl,rfl,rfl,rfl⟩) λx hx=>Eq.mp (adn x) (Rw x (aZ.1 hx))
theorem am4:cO Tryz.prog 81 aiy.ctr:=dh dG mixed dO 0 noA 200 5 (λ_=>⟨rfl,rfl,rfl,rfl⟩) λx hx=>Eq.mp (ado x) (Rx x (aZ.1 hx))
theorem am5:cO Tryz.prog 82 aiz.ctr:=dh dG mixed .nil 0 apw 200 5 (λ_=>⟨rfl,rfl,rfl,rfl⟩) λx hx=>Eq.mp (adp x) (Ry x (aZ.1 hx))
theorem am6:cO Tryz.prog 80 Ro.ctr:=dh dG mixed dO 2 noA 200 5 (λ_=>⟨rfl,rfl,rfl,rfl⟩) λx hx=>Eq.mp (adq x) (Rz x (aZ.1 hx))
theorem WC(x:Unit):aiC x:=by
 unfold aiC;simp only[aZ,aV,aU,aA,aI,bU,bG,aO,aK,ay,aX,aW,bV,bH,bJ,bK,bW,bC,bM,bn,eY,aH,aN,ah,ak,aB,aF,aC,aG]
theorem am7:cO Tryz.prog 84 aiA.ctr:=dh dG mixed .nil 0 noA 200 5 (λ_=>⟨rfl,rfl,rfl,rfl⟩) λx _=>Eq.mp (aiD x) (WC x)
theorem WE(x:Unit):aiE x:=by
 unfold aiE;simp only[aZ,aV,aU,aA,aI,bU,bG,aO,aK,ay,aX,aW,bV,bH,bJ,bK,bW,bC,bM,bn,eY,aH,aN,ah,ak,aB,aF,aC,aG]
theorem am8:cO Tryz.prog 87 aiB.ctr:=dh dG mixed .nil 0 noA 200 5 (λ_=>⟨rfl,rfl,rfl,rfl⟩) λx _=>Eq.mp (aiF x) (WE x)
structure ZEff where
 kind:Int
 key:ByteArray
 value:ByteArray
 id:Int
 ver:Int
 epoch:Int
 group:Int
def ZEff.cs(e:ZEff):List Value:=[.int .i64 e.kind,.string e.key,.string e.value,.int .u64 e.id,.int .u64 e.ver,.int .u64 e.epoch,.int .i64 e.group]
structure aiG where
 d:DevM
 p:ZPool
 r:ZRd
 c:eU
 b:iw
 l:ZLn
 id:Int
 ver:Int
 n:Nat
 e:Nat->ZEff
namespace aiG
end aiG
structure ZNew where
 n:Nat
 t:Nat
noncomputable def auL:je:=[(90,ctrT Fa.ctr)]

theorem WG(n:Nat)(h:n<=258):(yx n).ok:=⟨h,λ_=>⟨Int.le_refl 0,(by decide:(0:Int)<256)⟩,⟨Int.le_refl 0,(by decide:(0:Int)<1099511627776)⟩,⟨Int.le_refl 0,(by decide:(0:Int)<1099511627776)⟩,⟨Int.le_refl 0,(by decide:(0:Int)<1099511627776)⟩,
 ⟨Int.le_refl 0,(by decide:(0:Int)<1099511627776)⟩,⟨Int.le_refl 0,(by decide:(0:Int)<1099511627776)⟩⟩
theorem am9:dZ Tryz.prog auL:= .cons (bP aiv) .nil
def arnR(p r c b t l d:AV):dF:= .ro (.av [d,p,r,c,b,t,.any,l,.any,.any,.any])
structure arW where
 b:iw
 l:ZLn
 k:Int
def arW.inB(x:arW):Prop:= ∃i,i<x.b.n/\((x.b.e i).line=x.k\/(x.b.e i).anti=x.k)


def eU.notes(c:eU)(t:Nat)(l:Int):Nat->eU
 |0=>c
 |i+1=>(c.notes t l i).note t (l+i)
structure ZChg where
 a:aiG
 t:Nat
 e:Int
 v:ByteArray
 key:ByteArray
 had:Bool
 old:ZLnk
 k:Nat
 c:Int
namespace ZChg
end ZChg





structure ZFr where
 key:ByteArray
 value:ByteArray
 epoch:Int
 had:Bool
 old:ZLnk
 line:Int
 cls:Int
 piece:Int
 code:Int
 found:Bool
 ans:ByteArray
 aep:Int
namespace ZFr
end ZFr
def aaQ(g:Nat->Int)(n:Nat):dF:= .room 5 (rowB g n)
structure arX where
 k:Int
 key:ByteArray
 value:ByteArray
 to:ByteArray
 ph:Int
 ep:Int
 pos:ByteArray
 past:Bool
 lev:Int
 had:Bool
 okey:ByteArray
 oid:Int
 over:Int
 arY:Int
 ocls:Int
 line:Int
 cls:Int
 piece:Int
 at_:Int
 code:Int
 found:Bool
 ans:ByteArray
 aep:Int
def arX.l(x:arX):List AV:=[i64 x.k,.lit (.string x.key),.lit (.string x.value),.lit (.string x.to),gQ,i64 x.ph,u64 x.ep,.lit (.string x.pos),boo x.past,i64 x.lev,boo x.had,.lit (.string x.okey),u64 x.oid,u64 x.over,i64 x.arY,i64 x.ocls,i64 x.line,i64 x.cls,i64 x.piece,gQ,i64 x.at_,gQ,i64 x.code,boo x.found,.lit (.string x.ans),gQ,gQ,u64 x.aep]
noncomputable def zQ:Ctr:=det arX (λx=>[.agg x.l]) 0 (λ_=>[]) (λ_=>True) (λx=> .agg x.l) 0 (λ_=>[])
inductive Tg where
 |i|u|s|b|n
def aeU:Tg->AV->Bool
 | .i,.lit (.int .i64 _)=>true
 | .u,.lit (.int .u64 _)=>true
 | .s,.lit (.string _)=>true
 | .b,.lit (.bool _)=>true
 | .n,.lit (.slice none 0 0)=>true
 |_,_=>false
def shp:List Tg->List AV->Bool
 |[],[]=>true
 |t::ts,v::vs=>aeU t v&&shp ts vs
 |_,_=>false
def tgs:List Tg:=[.i,.s,.s,.s,.n,.i,.u,.s,.b,.i,.b,.s,.u,.u,.i,.i,.i,.i,.i,.n,.i,.n,.i,.b,.s,.n,.n,.u]
theorem eu{t:Tg}{ts:List Tg}{l:List AV}(h:shp (t::ts) l=true): ∃v vs,l=v::vs/\aeU t v=true/\shp ts vs=true:=by
 cases l with
 |nil=>simp[shp]at h
 |cons v vs=>simp only[shp,aJ]at h;exact⟨v,vs,rfl,h.1,h.2⟩
theorem arZ{l:List AV}(h:shp [] l=true):l=[]:=by
 cases l with
 |nil=>rfl
 |cons v vs=>simp[shp]at h
theorem ali{v:AV}(h:aeU .i v=true): ∃z,v=i64 z:=by
 unfold aeU at h;split at h<;>first|contradiction|exact⟨_,rfl⟩
theorem tg_u{v:AV}(h:aeU .u v=true): ∃z,v=u64 z:=by
 unfold aeU at h;split at h<;>first|contradiction|exact⟨_,rfl⟩
theorem atq{v:AV}(h:aeU .s v=true): ∃z,v= .lit (.string z):=by
 unfold aeU at h;split at h<;>first|contradiction|exact⟨_,rfl⟩
theorem tg_b{v:AV}(h:aeU .b v=true): ∃z,v=boo z:=by
 unfold aeU at h;split at h<;>first|contradiction|exact⟨_,rfl⟩
theorem auM{v:AV}(h:aeU .n v=true):v=gQ:=by
 unfold aeU at h;split at h<;>first|contradiction|rfl
theorem shp_l{l:List AV}(h:shp tgs l=true): ∃x:arX,l=x.l:=by
 obtain⟨v0,r0,rfl,a0,h0⟩:=eu h;obtain⟨v1,r1,rfl,a1,h1⟩:=eu h0;obtain⟨v2,r2,rfl,a2,h2⟩:=eu h1;obtain⟨v3,r3,rfl,a3,h3⟩:=eu h2;obtain⟨v4,r4,rfl,a4,h4⟩:=eu h3;obtain⟨v5,r5,rfl,a5,h5⟩:=eu h4;obtain⟨v6,r6,rfl,a6,h6⟩:=eu h5;obtain⟨v7,r7,rfl,a7,h7⟩:=eu h6;obtain⟨v8,r8,rfl,a8,h8⟩:=eu h7;obtain⟨v9,r9,rfl,a9,h9⟩:=eu h8;obtain⟨v10,r10,rfl,a10,h10⟩:=eu h9;obtain⟨v11,r11,rfl,a11,h11⟩:=eu h10;obtain⟨v12,r12,rfl,a12,h12⟩:=eu h11;obtain⟨v13,r13,rfl,a13,h13⟩:=eu h12;obtain⟨v14,r14,rfl,a14,h14⟩:=eu h13;obtain⟨v15,r15,rfl,a15,h15⟩:=eu h14;obtain⟨v16,r16,rfl,a16,h16⟩:=eu h15;obtain⟨v17,r17,rfl,a17,h17⟩:=eu h16;obtain⟨v18,r18,rfl,a18,h18⟩:=eu h17;obtain⟨v19,r19,rfl,a19,h19⟩:=eu h18;obtain⟨v20,r20,rfl,a20,h20⟩:=eu h19;obtain⟨v21,r21,rfl,a21,h21⟩:=eu h20;obtain⟨v22,r22,rfl,a22,h22⟩:=eu h21;obtain⟨v23,r23,rfl,a23,h23⟩:=eu h22;obtain⟨v24,r24,rfl,a24,h24⟩:=eu h23;obtain⟨v25,r25,rfl,a25,h25⟩:=eu h24;obtain⟨v26,r26,rfl,a26,h26⟩:=eu h25;obtain⟨v27,r27,rfl,a27,h27⟩:=eu h26;obtain rfl:=arZ h27;obtain⟨z0,rfl⟩:=ali a0;obtain⟨z1,rfl⟩:=atq a1;obtain⟨z2,rfl⟩:=atq a2;obtain⟨z3,rfl⟩:=atq a3;obtain rfl:=auM a4;obtain⟨z5,rfl⟩:=ali a5;obtain⟨z6,rfl⟩:=tg_u a6;obtain⟨z7,rfl⟩:=atq a7;obtain⟨z8,rfl⟩:=tg_b a8;obtain⟨z9,rfl⟩:=ali a9;obtain⟨z10,rfl⟩:=tg_b a10;obtain⟨z11,rfl⟩:=atq a11;obtain⟨z12,rfl⟩:=tg_u a12;obtain⟨z13,rfl⟩:=tg_u a13;obtain⟨z14,rfl⟩:=ali a14;obtain⟨z15,rfl⟩:=ali a15;obtain⟨z16,rfl⟩:=ali a16;obtain⟨z17,rfl⟩:=ali a17;obtain⟨z18,rfl⟩:=ali a18;obtain rfl:=auM a19;obtain⟨z20,rfl⟩:=ali a20;obtain rfl:=auM a21;obtain⟨z22,rfl⟩:=ali a22;obtain⟨z23,rfl⟩:=tg_b a23;obtain⟨z24,rfl⟩:=atq a24;obtain rfl:=auM a25;obtain rfl:=auM a26;obtain⟨z27,rfl⟩:=tg_u a27;exact⟨⟨z0,z1,z2,z3,z5,z6,z7,z8,z9,z10,z11,z12,z13,z14,z15,z16,z17,z18,z20,z22,z23,z24,z27⟩,rfl⟩
def adr:Prop:=Value.slice none 0 0=Value.slice none 0 0
def Fb(x:arX):Prop:=
 ∃y:Unit,True/\(x.k=x.k/\x.key=x.key/\x.value=x.value/\x.to=x.to/\adr/\x.ph=x.ph/\x.ep=x.ep/\x.pos=x.pos/\x.past=x.past/\x.lev=x.lev/\x.had=x.had/\x.okey=x.okey/\x.oid=x.oid/\x.over=x.over/\x.arY=x.arY/\x.ocls=x.ocls/\x.line=x.line/\x.cls=x.cls/\x.piece=x.piece/\adr/\x.at_=x.at_/\adr/\x.code=x.code/\x.found=x.found/\x.ans=x.ans/\adr/\adr/\x.aep=x.aep/\True)/\True
theorem RD(x:arX):Fb x=wpF Tryz.prog [] tt (noA x) 200 6 52 (zQ.args x) (hO zQ.k (zQ.os x)) (λv h'=>eX zQ.k x v h' zQ.outs):=by kernel_rfl
theorem Lc{P:Program}{f:FuncId}{X:Type}{args:X->List AV}{pre:X->Prop}{ret:X->AV}(hC:cO P f (det X args 0 (λ_=>[]) pre ret 0 (λ_=>[])))(x:X)(hp:pre x)(h:Heap)(ha:(args x).all kK=true)(hr:kK (ret x)=true){K:AV->Heap->Prop}(hK:K (ret x) h):Sp P f (args x) h K:=
 (ZQ h (U9 hC x hp) (λ_ _ hv=>hv) ha hr).mono λ_ _ hh=>by obtain⟨rfl,rfl⟩:=hh;exact hK
def aiH:WTr:=λargs h K=>match args with
 |[.lit (.int .i64 c)]=>K (i64 (spn c)) h
 |_=>False
theorem Ld(args:List AV)(h:Heap)(K:AV->Heap->Prop)(hq:aiH args h K):Sp Tryz.prog 113 args h K:=by
 unfold aiH at hq;split at hq
 ·exact Lc mQ _ trivial h rfl rfl hq
 ·exact hq.elim
namespace ZChg
end ZChg
def emp:ByteArray:=⟨#[]⟩
theorem Hq(x:arX):Fb x:=by
 unfold Fb;simp only[adr];simp only[aZ,aV,aU,aA,aI,bU,bG,aO,aK,ay,aX,aW,bV,bH,bJ,bK,bW,bC,bM,bn,eY,aH,aN,ah,ak,aB,aF,aC,aG]
theorem ads:cO Tryz.prog 52 zQ:=dM dG mixed .nil noA 200 6 (λ_=>rfl) (λ_=>rfl) λx _=>Eq.mp (RD x) (Hq x)
def ar0:FuncId->qL:=λ_ _ _ _=>[]
noncomputable def aiI:WTr:=λargs h K=>match args with
 |[.agg l]=>bif shp tgs l then K (.agg l) h else wpF Tryz.prog [] tt ar0 200 6 52 args h K
 |_=>False
theorem aiJ(args:List AV)(h:Heap)(K:AV->Heap->Prop)(hq:aiI args h K):Sp Tryz.prog 52 args h K:=by
 unfold aiI at hq;split at hq
 ·rename_i l
  cases hs:shp tgs l<;>rw[hs]at hq
  ·exact vC dG mixed .nil _ _ _ _ _ _ _ hq
  ·obtain⟨x,rfl⟩:=shp_l hs
   refine(ZQ h (U9 ads x trivial) (λ_ _ hv=>hv) (by rfl) (by rfl)).mono ?_
   rintro v h' ⟨rfl,rfl⟩
   exact hq
 ·exact hq.elim
def ar1:WTr:=λargs h K=>match args with
 |[.lit (.int .i64 c)]=>K (i64 (ned c)) h
 |_=>False
theorem ana(args:List AV)(h:Heap)(K:AV->Heap->Prop)(hq:ar1 args h K):Sp Tryz.prog 201 args h K:=by
 unfold ar1 at hq;split at hq
 ·exact Lc aha _ trivial h rfl rfl hq
 ·exact hq.elim
noncomputable def Fe:je:=[(52,aiI)]
noncomputable def ar4:je:=Fe++[(113,aiH),(63,ctrT EU),(62,ctrT IX.ctr)]
noncomputable def ar5:je:=Fe++[(211,ctrT QA.ctr)]




theorem rJ(c:eU)(t:Nat)(l:Int): ∀i,(c.notes t l i).t=c.t
 |0=>rfl
 |i+1=>rJ c t l i
theorem rM(c:eU)(t:Nat)(l:Int): ∀i,(c.notes t l i).now=c.now
 |0=>rfl
 |i+1=>rM c t l i
theorem WH(c:eU)(t:Nat)(l:Int)(hc: ∀k,0<=c.o k): ∀i k,0<=(c.notes t l i).o k/\(c.notes t l i).o k<=c.o k+i
 |0,k=>⟨hc k,by show c.o k<=c.o k+((0:Nat):Int);omega⟩
 |i+1,k=>by
  have ih:=WH c t l hc i k;show 0<=(if k=t/\0<=l+i/\l+i<258 then(c.notes t l i).o k+1 else(c.notes t l i).o k)/\(if k=t/\0<=l+i/\l+i<258 then(c.notes t l i).o k+1 else(c.notes t l i).o k)<=_;split<;>omega
theorem yT{c:eU}(h:c.ok)(hc: ∀k,c.o k+8<1099511627776)(t:Nat)(l:Int){i:Nat}(hi:i<=8):(c.notes t l i).ok:=by
 have hd: ∀i,(c.notes t l i).dur=c.dur/\(c.notes t l i).jr=c.jr:=λi=>by
  induction i with
  |zero=>exact⟨rfl,rfl⟩
  |succ i ih=>exact ih
 refine⟨by rw[rJ];exact h.1,by rw[rJ];exact h.2.1,by rw[rM];exact h.2.2.1,by rw[(hd i).1];exact h.2.2.2.1,by rw[(hd i).2];exact h.2.2.2.2.1,λk=> ?_⟩;have h1:=WH c t l (λk=>(h.2.2.2.2.2 k).1) i k;have h2:=hc k;exact⟨h1.1,by omega⟩
theorem oN(b:ZBlk):b.dL<=8/\(b.dL:Int)=spn b.cls:=by
 have:=dU b.cls;unfold ZBlk.dL;omega
theorem ZLnk.ext5{a b:ZLnk}(h1:a.key=b.key)(h2:a.id=b.id)(h3:a.ver=b.ver)(h4:a.line=b.line)(h5:a.cls=b.cls):a=b:=by
 cases a;cases b;simp_all
theorem aaR(d:DevM)(k a n:Nat)(g:Nat->Int):d.store k a n (λq=>g (0+q))=d.store k a n g:=by
 simp only[aA]
theorem yU{b:ZBlk}(h:b.may):1<=b.dL:=by
 have:=dU b.cls;have h0:=h.1;unfold ZBlk.dL;omega

theorem RF{c:Int}(h:0<=c/\c<=3):spn c≠0:=by
 rcases dU c with h'|h'|h'|h'|h'<;>omega
theorem aiK{c:Int}(h:0<=c/\c<=3):ZBlk.may ⟨c,0,0,0,0,⟨#[]⟩,⟨#[]⟩⟩:=⟨RF h,.inl ⟨rfl,rfl,rfl,rfl,rfl,rfl⟩⟩
theorem aaS{c:Int}(h:0<=c/\c<=3)(k:Nat):0<=(ZBlk.mk c 0 0 0 0 ⟨#[]⟩ ⟨#[]⟩).jL (λ_=>0) (cpc c).toNat k/\(ZBlk.mk c 0 0 0 0 ⟨#[]⟩ ⟨#[]⟩).jL (λ_=>0) (cpc c).toNat k<256:=by
 have hd:(ZBlk.mk c 0 0 0 0 ⟨#[]⟩ ⟨#[]⟩).dat=λ_=>0:=by
  funext i;unfold ZBlk.dat;rw[if_neg];exact Nat.not_lt_zero i
 by_cases hk:k<64
 ·have:=yS (aiK h) k
  unfold ZBlk.enc at this;rw[if_pos hk,hd]at this;exact this
 ·unfold ZBlk.jL
  rw[if_neg (by omega),if_neg (by omega)];exact⟨Int.le_refl 0,show(0:Int)<256 by decide⟩
theorem aiL{s:ByteArray}{a k:Nat}(hk:a+k<s.size):eG (s.extract a s.size) k=eG s (a+k):=by
 unfold eG;rw[ByteArray.data_extract];have h1:a+k<s.data.size:=hk;simp only[List.getD_eq_getElem?_getD,Array.getElem?_toList,Array.getElem?_extract];rw[if_pos (by have:s.size=s.data.size:=rfl;omega)]
theorem aiM(x:ZBlk){m:Nat}(h:64<=m):0<=x.enc m/\x.enc m<256:=by
 unfold ZBlk.enc;rw[if_neg (by omega)];split
 ·decide
 ·exact KU _ _
theorem jB:dZ Tryz.prog Fe:= .cons aiJ .nil
theorem aaT:dZ Tryz.prog ar4:= .append jB (.cons Ld (.cons (bP amS) (.cons (bP QI) .nil)))
theorem aaU:dZ Tryz.prog ar5:= .append jB (.cons (bP amG) .nil)


end Go.Proofs.YtenfleoejgjklaaGreat
end
section
namespace Go.Proofs.YtenfleoejgjklaaGreat.SE
open Go
theorem iU{P:Program}{T:WTr}{f:FuncId}(hT: ∀args h K,T args h K->Sp P f args h K){C:iW}(N:Nat)
  (hk: ∀x,(C.l x).length=C.k/\(flatP C.k (C.l x)).length=N/\(C.l x).all (PO.good C.k)=true/\gU C.k (C.args x)=true)
  (hq: ∀x,C.pre x->T (C.args x) (hO N (flatP C.k (C.l x))) (λv h'=>endsPK C.k x v h' C.outs)):cO P f C.ctr:=λx hp=>by
 obtain⟨h1,h2,h3,h4⟩:=hk x;refine⟨by simp only[iW.ctr,List.length_map];exact h1,?_⟩;have hs:=hT _ _ _ (hq x hp);rw[<-h2,<-h1]at hs;refine⟨hs.1,λρ T w vs hR hl=> ?_⟩;have hR0:Rel (hOf ((C.l x).map PO.ab)) ρ T w:=by rw[hOf,List.length_map,h1];exact hR
 obtain⟨ρ',r1,r2,r3⟩:=Rel.Ku (by rw[h1];exact h3) hR0;refine(hs.2 ρ' T w vs r3 (dQ.mono r2 _ _ hl)).mono ?_
 rintro e w' ⟨ρ2,v,u,h',c1,c2,c3,c4,c5,c6,c7⟩
 obtain⟨v0,h0,g1,g2⟩:=zD c7;obtain⟨ρ3,q1,q2,q3⟩:=g1.2 ρ2 T w' u c3 c4;refine⟨ρ3,v0,u,h0,λj hj=> ?_,?_,q2,q3,c5,c6,g2⟩
 ·have hj':j<C.k:=hj
  have hle:C.k<=(flatP C.k (C.l x)).length:=by unfold flatP;rw[List.length_append,gJ,h1];omega
  rw[q1 j (by rw[h1];exact hj'),c1 j (by show j<(flatP _ _).length;rw[h1];omega),r1 j (by rw[h1];exact hj')]
 ·have:=g1.1;rw[h1]at this;exact this
end Go.Proofs.YtenfleoejgjklaaGreat.SE
end
section
namespace Go.Proofs.YtenfleoejgjklaaGreat
open Go SE

namespace aiG
end aiG

structure ZPb where
 a:aiG
 f:ZFr
 t:Nat
 ln:Nat
namespace ZPb
end ZPb


theorem Jc{P:Program}{f:FuncId}(b:Bool){T U:WTr}(hT: ∀args h K,T args h K->Sp P f args h K)(hU: ∀args h K,U args h K->Sp P f args h K): ∀args h K,(bif b then T else U) args h K->Sp P f args h K:=by
 cases b
 ·exact hU
 ·exact hT
def intL(l:List AV)(i:Nat):Int:=match l[i]? with
 |some (AV.lit (.int _ z))=>z
 |_=>0
def hasB(l:List AV):Bool:=match l[19]? with
 |some (AV.slW _ _ _ _)=>true
 |_=>false
structure ZCl where
 k:Int
 key:ByteArray
 value:ByteArray
 to:ByteArray
def ZCl.l(x:ZCl):List AV:=[i64 x.k,.lit (.string x.key),.lit (.string x.value),.lit (.string x.to),gQ]
def ZCl.fr(x:ZCl):List AV:=x.l++[i64 0,u64 0,.lit (.string ⟨#[]⟩),boo false,i64 0,boo false,.lit (.string ⟨#[]⟩),u64 0,u64 0,i64 0,i64 0,i64 (-1),i64 0,i64 0,gQ,i64 0,gQ,i64 0,boo false,.lit (.string ⟨#[]⟩),gQ,gQ,u64 0]
noncomputable def Jd:Ctr:=det ZCl (λx=>[.agg x.l]) 0 (λ_=>[]) (λ_=>True) (λx=> .agg x.fr) 0 (λ_=>[])
def RG:WTr:=λargs h K=>match args with
 |[.agg [.lit (.int .i64 k),.lit (.string key),.lit (.string v),.lit (.string to),.lit (.slice none 0 0)]]=>K (.agg (ZCl.mk k key v to).fr) h
 |_=>False
def aeV(code:Int)(found:Bool)(v:ByteArray)(ep:Int):AV:= .agg [i64 code,boo found,.lit (.string v),gQ,gQ,u64 ep]
def byAt(h:Heap):Bool:=match cellAt h 3 19 with
 |some (.slW _ _ _ _)=>true
 |_=>false
structure ZRun where
 a:aiG
 t:Nat
 key:ByteArray
 v:ByteArray
 b:ZBlk
namespace ZRun
end ZRun
def anb(k:Int)(key v:ByteArray):AV:= .agg [i64 k,.lit (.string key),.lit (.string v),.lit (.string ⟨#[]⟩),gQ]
def adt:Prop:=Value.slice none 0 0=Value.slice none 0 0
def ane:Prop:=ByteArray.mk #[]=ByteArray.mk #[]
def auN:Prop:=false=false/\ane/\adt/\adt/\(0:Int)=0/\True
def apH:Prop:=(0:Int)=0/\auN
def Le(x:ZCl):Prop:=
 ∃y:Unit,True/\(x.k=x.k/\x.key=x.key/\x.value=x.value/\x.to=x.to/\adt/\(0:Int)=0/\(0:Int)=0/\ane/\false=false/\(0:Int)=0/\false=false/\ane/\(0:Int)=0/\(0:Int)=0/\(0:Int)=0/\(0:Int)=0/\(-(1:Int))=(-(1:Int))/\(0:Int)=0/\(0:Int)=0/\adt/\(0:Int)=0/\adt/\apH)/\True
theorem WI(x:ZCl):Le x=wpF Tryz.prog [] tt (noA x) 200 6 17 (Jd.args x) (hO Jd.k (Jd.os x)) (λv h'=>eX Jd.k x v h' Jd.outs):=by kernel_rfl
def qN(f:Nat->Bool):Nat->Nat
 |0=>0
 |n+1=>qN f n+(bif f n then 1 else 0)
theorem aiN(f:Nat->Bool): ∀n,qN f n<=n
 |0=>aY _
 |n+1=>by
  have:=aiN f n;simp only[qN];cases f n<;>simp<;>omega
theorem aiO{f:Nat->Bool}{k:Nat}(hf:f k=false): ∀{n},k<n->qN f n<n
 |n+1,h=>by
  simp only[qN];by_cases e:k=n
  ·subst e;rw[hf];have:=aiN f k;simp;omega
  ·have:=aiO hf (n:=n) (by omega)
   cases f n<;>simp<;>omega
theorem pK{f g:Nat->Bool}: ∀{n},(∀k,k<n->f k=g k)->qN f n=qN g n
 |0,_=>rfl
 |n+1,h=>by simp only[qN];rw[pK λk hk=>h k (by omega),h n (by omega)]
theorem aaV{f:Nat->Bool}{k:Nat}(hf:f k=false): ∀{n},k<n->qN (λq=>if q=k then true else f q) n=qN f n+1
 |n+1,h=>by
  simp only[qN];by_cases e:k=n
  ·subst e
   rw[pK (g:=f) λq hq=>if_neg (by omega),hf];simp
  ·rw[aaV hf (n:=n) (by omega),if_neg (by omega)];omega
theorem RH{f:Nat->Bool}(h: ∀k,f k=false): ∀n,qN f n=0
 |0=>rfl
 |n+1=>by simp only[qN,h,RH h n];rfl
namespace ZPool
def at_(p:ZPool)(L:Int)(i j:Nat):Prop:=i<p.n/\0<=p.cls i/\j<many (p.cls i)/\p.tk i j=true/\L=2+i*8+j*spn (p.cls i)
def has(p:ZPool)(L:Int):Prop:= ∃i j,p.at_ L i j
def good(p:ZPool):Prop:=p.ok/\ ∀i,i<p.n->(p.cls i= -1-> ∀k,p.tk i k=false)/\(∀k,p.tk i k=true->k<many (p.cls i))/\p.cnt i=(qN (p.tk i) 8:Nat)
end ZPool
theorem pO{p:ZPool}(hp:p.good){c:Int}{i k:Nat}(h:p.takes c i k):i<p.n/\k<ZPool.many c/\p.tk i k=false/\(p.cls i=c\/p.cls i= -1):=by
 obtain⟨h1,h2,h3,h4⟩:=h;refine⟨h1,h2,?_,?_⟩
 ·rcases h4 with ⟨h4,_⟩|⟨h4,_⟩
  ·rw[if_pos h4]at h3;exact h3
  ·exact(hp.2 i h1).1 h4 k
 ·rcases h4 with ⟨h4,_⟩|⟨h4,_⟩
  ·exact .inl h4
  ·exact .inr h4
theorem ar6(c:Int):ZPool.many c<=8:=by rcases gK c with h|h|h|h|h<;>omega
theorem aiP{p:ZPool}(hp:p.good){c:Int}(hc:0<=c/\c<=3){i k:Nat}(h:p.takes c i k):(p.take c i k).good:=by
 obtain⟨h1,h2,h3,h4⟩:=pO hp h;obtain⟨⟨o1,o2,o3⟩,hg⟩:=hp;have hm:=ar6 c;have hlt:qN (p.tk i) 8<8:=aiO h3 (by omega);refine⟨⟨o1,o2,λj hj=> ?_⟩,λj hj=> ?_⟩
 ·have hj':j<p.n:=hj
  have a1:=o3 j hj';have a2:=(hg j hj').2.2;by_cases e:j=i
  ·subst e
   refine⟨by show-1<=(if j=j then c else _);rw[if_pos rfl];omega,by show(if j=j then c else _)<=3;rw[if_pos rfl];omega,by show 0<=(if j=j then p.cnt j+1 else _);rw[if_pos rfl];omega,by show(if j=j then p.cnt j+1 else _)<=8;rw[if_pos rfl];omega⟩
  ·refine⟨by show-1<=(if j=i then c else p.cls j);rw[if_neg e];omega,by show(if j=i then c else p.cls j)<=3;rw[if_neg e];omega,by show 0<=(if j=i then p.cnt j+1 else p.cnt j);rw[if_neg e];omega,by show(if j=i then p.cnt j+1 else p.cnt j)<=8;rw[if_neg e];omega⟩
 ·have hj':j<p.n:=hj
  have a2:=hg j hj';by_cases e:j=i
  ·subst e
   refine⟨λhh=> ?_,λq hq=> ?_,?_⟩
   ·have:(if j=j then c else p.cls j)= -1:=hh
    rw[if_pos rfl]at this;omega
   ·have hq:(if j=j/\q=k then true else p.tk j q)=true:=hq
    show q<ZPool.many (if j=j then c else p.cls j);rw[if_pos rfl];by_cases eq:q=k
    ·omega
    ·rw[if_neg (λhh=>eq hh.2)]at hq
     have:=a2.2.1 q hq;rcases h4 with h4|h4
     ·rwa [h4]at this
     ·rw[a2.1 h4 q]at hq;cases hq
   ·show(if j=j then p.cnt j+1 else p.cnt j)=(qN (λq=>if j=j/\q=k then true else p.tk j q) 8:Nat)
    have e1:qN (λq=>if j=j/\q=k then true else p.tk j q) 8=qN (p.tk j) 8+1:=by
     rw[<-aaV h3 (show k<8 by omega)];exact pK λq _=>by by_cases e:q=k<;>simp[e]
    rw[if_pos rfl,a2.2.2,e1];omega
  ·refine⟨λhh q=> ?_,λq hq=> ?_,?_⟩
   ·have hh:(if j=i then c else p.cls j)= -1:=hh
    rw[if_neg e]at hh;show(if j=i/\q=k then true else p.tk j q)=false;rw[if_neg (λh=>e h.1)];exact a2.1 hh q
   ·have hq:(if j=i/\q=k then true else p.tk j q)=true:=hq
    rw[if_neg (λh=>e h.1)]at hq;show q<ZPool.many (if j=i then c else p.cls j);rw[if_neg e];exact a2.2.1 q hq
   ·show(if j=i then p.cnt j+1 else p.cnt j)=(qN (λq=>if j=i/\q=k then true else p.tk j q) 8:Nat)
    rw[if_neg e,a2.2.2,pK (g:=p.tk j) (λq _=>if_neg (λh=>e h.1))]
theorem anf{p:ZPool}(hp:p.good){c:Int}(hc:0<=c/\c<=3){i k:Nat}(h:p.takes c i k){L:Int}{i' j':Nat}(hL:p.at_ L i' j'):L+spn (p.cls i')<=2+i*8+k*spn c\/2+i*8+k*spn c+spn c<=L:=by
 obtain⟨h1,h2,h3,h4⟩:=pO hp h;obtain⟨a1,a2,a3,a4,rfl⟩:=hL;have a5:=(hp.1.2.2 i' a1).2.1;by_cases e:i'=i
 ·subst e
  have hcc:p.cls i'=c:=by
   rcases h4 with h4|h4
   ·exact h4
   ·omega
  rw[hcc]at a3 ⊢;have hne:j'≠k:=λe=>by subst e;rw[h3]at a4;cases a4
  rcases gK c with m|m|m|m|m<;>obtain⟨m1,m2,m3⟩:=m<;>rw[m2]<;>omega
 ·rcases gK c with m|m|m|m|m<;>rcases gK (p.cls i')with m'|m'|m'|m'|m'<;>obtain⟨m1,m2,m3⟩:=m<;>obtain⟨m1',m2',m3'⟩:=m'<;>rw[m2,m2']<;>omega
theorem ang{p:ZPool}(hp:p.good){c:Int}(hc:0<=c/\c<=3){i k:Nat}(h:p.takes c i k): ¬p.has (2+i*8+k*spn c):=λ⟨i',j',hL⟩=>by
 have h1:=anf hp hc h hL;have h2:=RF hc;have h3:=RF ⟨hL.2.1,(hp.1.2.2 i' hL.1).2.1⟩;have s1:=dU c;have s2:=dU (p.cls i');omega
theorem ar7{p:ZPool}(hp:p.good){c:Int}{i k:Nat}(h:p.takes c i k){L:Int}{i' j':Nat}(hL:p.at_ L i' j'):(p.take c i k).at_ L i' j'/\(p.take c i k).cls i'=p.cls i':=by
 obtain⟨h1,h2,h3,h4⟩:=pO hp h;obtain⟨a1,a2,a3,a4,a5⟩:=hL;have hcl:(p.take c i k).cls i'=p.cls i':=by
  show(if i'=i then c else p.cls i')=_;split
  ·rename_i e
   subst e;rcases h4 with h4|h4
   ·exact h4.symm
   ·omega
  ·rfl
 refine⟨⟨a1,by rw[hcl];exact a2,by rw[hcl];exact a3,?_,by rw[hcl];exact a5⟩,hcl⟩;show(if i'=i/\j'=k then true else p.tk i' j')=true;split
 ·rfl
 ·exact a4
theorem at_new{p:ZPool}(hp:p.good){c:Int}(hc:0<=c){i k:Nat}(h:p.takes c i k):(p.take c i k).at_ (2+i*8+k*spn c) i k/\(p.take c i k).cls i=c:=by
 obtain⟨h1,h2,h3,h4⟩:=pO hp h;have hcl:(p.take c i k).cls i=c:=if_pos rfl;refine⟨⟨h1,by rw[hcl];exact hc,by rw[hcl];exact h2,if_pos ⟨rfl,rfl⟩,by rw[hcl]⟩,hcl⟩
theorem adu{p:ZPool}(hp:p.good){c:Int}(hc:0<=c/\c<=3){i j:Nat}(h:p.takes c i j):((2+i*8+j*(spn c).toNat:Nat):Int)=2+i*8+j*spn c/\2+i*8+j*(spn c).toNat+(spn c).toNat<=2+p.n*8:=by
 obtain⟨h1,h2,_,_⟩:=pO hp h;rcases gK c with m|m|m|m|m<;>obtain⟨m1,m2,m3⟩:=m<;>rw[m2]<;>simp only[show Int.toNat 1=1 from rfl,show Int.toNat 2=2 from rfl,show Int.toNat 4=4 from rfl,show Int.toNat 8=8 from rfl,show Int.toNat 0=0 from rfl]<;>omega
section
variable{x:ZRun}
theorem Lh(x:ZCl):Le x:=by
 unfold Le;simp only[adt,ane,apH,auN];simp only[aZ,aV,aU,aA,aI,bU,bG,aO,aK,ay,aX,aW,bV,bH,bJ,bK,bW,bC,bM,bn,eY,aH,aN,ah,ak,aB,aF,aC,aG]
theorem aiQ:cO Tryz.prog 17 Jd:=dM dG mixed .nil noA 200 6 (λ_=>rfl) (λ_=>rfl) λx _=>Eq.mp (WI x) (Lh x)
theorem Fg(args:List AV)(h:Heap)(K:AV->Heap->Prop)(hq:RG args h K):Sp Tryz.prog 17 args h K:=by
 unfold RG at hq;split at hq
 ·rename_i k key v to
  exact Lc aiQ ⟨k,key,v,to⟩ trivial h rfl rfl hq
 ·exact hq.elim
end
section
variable{x:ZRun}
end

section
variable{a:aiG}{t N:Nat}{b:Nat->ZBlk}
theorem aiR{x y:ZBlk}(hk:x.key=y.key)(hv:x.value=y.value){m:Nat}(hm:64<=m):x.enc m=y.enc m:=by
 unfold ZBlk.enc;rw[if_neg (show¬m<64 by omega),if_neg (show¬m<64 by omega)];unfold ZBlk.dat
 rw[hk,hv]
theorem zS(d:DevM)(k:Nat)(g:Nat->Int)(m r:Nat)(hr:r<64):(d.store k 0 64 g).b (m*193+r)=if m=k then g r else d.b (m*193+r):=by
 show(if k*193+0<=m*193+r/\m*193+r<k*193+0+64 then g (m*193+r-(k*193+0))else d.b (m*193+r))=_;by_cases h:m=k
 ·subst h;rw[if_pos (by omega),if_pos rfl,show m*193+r-(m*193+0)=r by omega]
 ·rw[if_neg (by omega),if_neg h]
theorem anh{p p':ZPool}(h: ∀L i j,p.at_ L i j->p'.at_ L i j/\p'.cls i=p.cls i){L:Int}(hp:p.has L):p'.has L:=by
 obtain⟨i,j,h1⟩:=hp;exact⟨i,j,(h _ _ _ h1).1⟩
theorem ar8{b:iw}{e:gG}{l:ZLn}{L:Int}(h:arW.inB ⟨b.put e,l,L⟩):arW.inB ⟨b,l,L⟩\/e.line=L\/e.anti=L:=by
 obtain⟨i,hi,hh⟩:=h;unfold iw.put at hi hh;by_cases hn:b.n<258
 ·simp only[if_pos hn]at hi hh
  by_cases e:i=b.n
  ·simp only[if_pos e]at hh;exact .inr hh
  ·simp only[if_neg e]at hh;exact .inl ⟨i,by show i<b.n;omega,hh⟩
 ·simp only[if_neg hn]at hi hh;exact .inl ⟨i,hi,hh⟩
theorem auO{b:iw}(h:b.ok)(e:gG):(b.put e).ok:=by
 unfold iw.put;split
 ·exact⟨by show b.n+1<=258;omega,λh=>nomatch h⟩
 ·exact h
theorem take_at{p:ZPool}(hp:p.good){c:Int}{i k:Nat}(h:p.takes c i k): ∀L i' j',p.at_ L i' j'->(p.take c i k).at_ L i' j'/\(p.take c i k).cls i'=p.cls i':=λ_ _ _ hL=>ar7 hp h hL
end

noncomputable def bkt(s:ByteArray):Nat:=hide (oH s%8).toNat
theorem apI(s:ByteArray):bkt s=(oH s%8).toNat:=iK _
theorem qJ(s:ByteArray):bkt s<8:=by rw[apI];omega
noncomputable def Fh:Ctr:=det ByteArray (λs=>[.lit (.string s)]) 0 (λ_=>[]) (λs=>Hd (s.size<1099511627776)) (λs=>i64 (bkt s)) 0 (λ_=>[])
def ani(c m:Int):Bool:=IntKind.u32.wrap ((BitVec.ofInt 32 (Int.fdiv c m)&&&BitVec.ofInt 32 1).toNat:Nat)==0
def ar9(c:Int):Nat:=if ani c 2147483648=true then 1 else if ani c 1073741824=true then 2 else if ani c 536870912=true then 3 else 4
noncomputable def lvl(s:ByteArray):Nat:=hide (ar9 (oH s))
theorem RI(s:ByteArray):lvl s=ar9 (oH s):=iK _
theorem apJ(s:ByteArray):1<=lvl s/\lvl s<=4:=by
 rw[RI];unfold ar9
 repeat' (split)
 all_goals omega
noncomputable def aaW:Ctr:={X:=ByteArray,args:=λs=>[.lit (.string s)],k:=0,os:=λ_=>[],pre:=λs=>Hd (s.size<1099511627776),outs:=[
 {Y:=Unit,post:=λs _=>Hd (lvl s=1),ret:=λ_ _=>i64 1,m:=0,os:=λ_ _=>[]},
 {Y:=Unit,post:=λs _=>Hd (lvl s=2),ret:=λ_ _=>i64 2,m:=0,os:=λ_ _=>[]},
 {Y:=Unit,post:=λs _=>Hd (lvl s=3),ret:=λ_ _=>i64 3,m:=0,os:=λ_ _=>[]},
 {Y:=Unit,post:=λs _=>Hd (lvl s=4),ret:=λ_ _=>i64 4,m:=0,os:=λ_ _=>[]}]}
noncomputable def asa:je:=[(232,ctrT U3)]
def kl(a b:ByteArray):Bool:=Op.bytesLess a.toList b.toList
theorem aaX: ∀a:List UInt8,Op.bytesLess a a=false
 |[]=>by simp[Op.bytesLess]
 |x::a=>by simp[Op.bytesLess,aaX a]
theorem Lj: ∀{a b c:List UInt8},Op.bytesLess a b=true->Op.bytesLess b c=true->Op.bytesLess a c=true
 |_,[],_,h,_=>by simp[Op.bytesLess]at h
 |_,_::_,[],_,h=>by simp[Op.bytesLess]at h
 |[],_::_,_::_,_,_=>by simp[Op.bytesLess]
 |x::a,y::b,z::c,h,k=>by
  simp only[Op.bytesLess,Bool.or_eq_true,decide_eq_true_eq,aJ,beq_iff_eq]at h k ⊢;rcases h with h|⟨rfl,h⟩
  ·rcases k with k|⟨rfl,k⟩
   ·exact .inl (UInt8.lt_trans h k)
   ·exact .inl h
  ·rcases k with k|⟨rfl,k⟩
   ·exact .inl k
   ·exact .inr ⟨rfl,Lj h k⟩
theorem aiS: ∀(a b:List UInt8),Op.bytesLess a b=false->Op.bytesLess b a=false->a=b
 |[],[],_,_=>rfl
 |[],_::_,h,_=>by simp[Op.bytesLess]at h
 |_::_,[],_,h=>by simp[Op.bytesLess]at h
 |x::a,y::b,h,k=>by
  simp only[Op.bytesLess,Bool.or_eq_false_iff,decide_eq_false_iff_not,Bool.and_eq_false_iff,beq_eq_false_iff_ne]at h k;have hxy:x=y:=by
   have h1:=UInt8.not_lt.1 h.1;have h2:=UInt8.not_lt.1 k.1;exact UInt8.le_antisymm h2 h1
  subst hxy;rw[aiS a b (h.2.resolve_left (λhh=>hh rfl)) (k.2.resolve_left (λhh=>hh rfl))]
theorem mX(a:ByteArray):kl a a=false:=aaX _
theorem jC{a b c:ByteArray}(h:kl a b=true)(k:kl b c=true):kl a c=true:=Lj h k
theorem iH(a:ByteArray):a.toList=a.data.toList:=ByteArray.toList_eq a
theorem aaY{a b:ByteArray}(h:kl a b=false)(k:kl b a=false):a=b:=by
 have:=aiS _ _ h k;rw[iH,iH]at this;exact ByteArray.ext (Array.toList_inj.1 this)
abbrev Lks:=List ZLnk
def srt(L:Lks):Prop:=L.Pairwise λa b=>kl a.key b.key=true
def gY(L:Lks)(s:ByteArray):Option ZLnk:=L.find? λl=>decide (l.key=s)
def jv:Lks->ZLnk->Lks
 |[],l=>[l]
 |x::L,l=>if x.key=l.key then l::L else if kl l.key x.key=true then l::x::L else x::jv L l
def fZ(L:Lks)(s:ByteArray):Lks:=L.filter λl=> !decide (l.key=s)
noncomputable def nextL(L:Lks)(b:Nat)(pos:ByteArray)(past:Bool):Option ZLnk:=L.find? λl=>decide (bkt l.key=b)&&(!past||kl pos l.key)
def lrow(L:Lks):Cs:= .row 5 L.length (λi=>(L.getD i iQ).cs) []
def ZLnk.ent(l:ZLnk)(b:Nat):abK:=⟨l.key,l.cs,b⟩
structure ZMs where
 n:Nat
 lk:Nat->ZLnk
 born:Nat->Nat
 clk:Nat
def ZMs.ms(m:ZMs):MS:=⟨m.n,λj=>(m.lk j).ent (m.born j),m.clk⟩
def ZMs.put(m:ZMs)(j:Nat)(l:ZLnk):ZMs:=⟨m.n,λq=>if q=j then l else m.lk q,m.born,m.clk⟩
def ZMs.add(m:ZMs)(l:ZLnk):ZMs:=⟨m.n+1,λq=>if q=m.n then l else m.lk q,λq=>if q=m.n then m.clk else m.born q,m.clk+1⟩
def ZMs.del(m:ZMs)(j:Nat):ZMs:=⟨m.n-1,λq=>if q<j then m.lk q else m.lk (q+1),λq=>if q<j then m.born q else m.born (q+1),m.clk⟩
theorem auP(m:ZMs)(j:Nat)(l:ZLnk):m.ms.put j l.key l.cs=(m.put j l).ms:=by
 simp only[MS.put,ZMs.ms,ZMs.put,MS.mk.injEq,aU,aV];funext q;rw[dD];by_cases h:q=j
 ·subst h;simp[ZLnk.ent]
 ·simp[h]
theorem auQ(m:ZMs)(l:ZLnk):m.ms.add l.key l.cs=(m.add l).ms:=by
 simp only[MS.add,ZMs.ms,ZMs.add,MS.mk.injEq,aU,aV];funext q;rw[dD];by_cases h:q=m.n
 ·subst h;simp[ZLnk.ent]
 ·simp[h]
theorem auR(m:ZMs)(j:Nat):m.ms.del j=(m.del j).ms:=by
 simp only[MS.del,ZMs.ms,ZMs.del,MS.mk.injEq,aU,aV];funext q;rw[bY];by_cases h:q<j
 ·simp[h]
 ·simp[h]
abbrev iY:=Nat->ZMs
noncomputable def RJ(t:iY):List dF:=[.cells 172 (.av [.mp 1,.mp 2,.mp 3,.mp 4,.mp 5,.mp 6,.mp 7,.mp 8]),.nK (t 0).ms,.nK (t 1).ms,.nK (t 2).ms,.nK (t 3).ms,.nK (t 4).ms,.nK (t 5).ms,.nK (t 6).ms,.nK (t 7).ms]
structure lJ (L:Lks) (t:iY):Prop where
 srt:srt L
 size:L.length<=258
 key: ∀l∈L,l.key.size<1099511627776
 mem: ∀b,b<8-> ∀j,j<(t b).n->(t b).lk j∈L/\bkt ((t b).lk j).key=b
 all: ∀l∈L,∃j,j<(t (bkt l.key)).n/\(t (bkt l.key)).lk j=l
 inj: ∀b,b<8-> ∀i j,i<(t b).n->j<(t b).n->((t b).lk i).key=((t b).lk j).key->i=j
 born: ∀b,b<8-> ∀j,j<(t b).n->(t b).born j<(t b).clk
 bi: ∀b,b<8-> ∀i j,i<(t b).n->j<(t b).n->(t b).born i=(t b).born j->i=j
noncomputable def tabA(L:Lks):Own:=hide (O8 λh=> ∃t:iY,lJ L t/\h=hOf (RJ t))
theorem aiT(L:Lks):tabA L=O8 λh=> ∃t:iY,lJ L t/\h=hOf (RJ t):=iK _
theorem anj{a b:ByteArray}(h:kl a b=true):a≠b:=λe=>by subst e;rw[mX]at h;cases h
theorem WJ{a b:ByteArray}(h:kl a b=true):kl b a=false:=by
 cases hb:kl b a with
 |false=>rfl
 |true=>have:=jC h hb;rw[mX]at this;cases this
theorem Ll: ∀{L:Lks},srt L-> ∀{l l':ZLnk},l∈L->l'∈L->l.key=l'.key->l=l'
 |[],_,_,_,h,_,_=>by cases h
 |x::L,hs,l,l',h,h',e=>by
  obtain⟨h1,h2⟩:=List.pairwise_cons.1 hs;rcases List.mem_cons.1 h with g|g<;>rcases List.mem_cons.1 h' with g'|g'
  ·rw[g,g']
  ·subst g;exact(anj (h1 _ g') e).elim
  ·subst g';exact(anj (h1 _ g) e.symm).elim
  ·exact Ll h2 g g' e
theorem og{L:Lks}{s:ByteArray}{l:ZLnk}(h:gY L s=some l):l∈L/\l.key=s:=
 ⟨List.mem_of_find?_eq_some h,by have:=List.find?_some h;exact aS this⟩
theorem yV{L:Lks}(hs:srt L){l:ZLnk}{s:ByteArray}(h:l∈L)(e:l.key=s):gY L s=some l:=by
 cases hf:gY L s with
 |none=>
  have:=List.find?_eq_none.1 hf l h;exact(this (decide_eq_true e)).elim
 |some l'=>
  obtain⟨h1,h2⟩:=og hf;rw[Ll hs h h1 (e.trans h2.symm)]
theorem yX{L:Lks}{s:ByteArray}(h: ∀l∈L,l.key≠s):gY L s=none:=
 List.find?_eq_none.2 λl hl=>by rw[decide_eq_true_eq];exact h l hl
theorem uU{L:Lks}{s:ByteArray}(h:gY L s=none): ∀l∈L,l.key≠s:=λl hl e=>List.find?_eq_none.1 h l hl (decide_eq_true e)
theorem gZ: ∀{L:Lks} {l x:ZLnk},srt L->(x∈jv L l↔x=l\/(x∈L/\x.key≠l.key))
 |[],l,x,_=>by simp[jv]
 |y::L,l,x,hs=>by
  obtain⟨h1,h2⟩:=List.pairwise_cons.1 hs;unfold jv;by_cases e:y.key=l.key
  ·rw[if_pos e]
   simp only[List.mem_cons];constructor
   ·rintro (h|h)
    ·exact .inl h
    ·exact .inr ⟨.inr h,λe2=>anj (h1 x h) (e.trans e2.symm)⟩
   ·rintro (h|⟨h|h,h3⟩)
    ·exact .inl h
    ·exact(h3 (by rw[h];exact e)).elim
    ·exact .inr h
  ·rw[if_neg e]
   by_cases k:kl l.key y.key=true
   ·rw[if_pos k]
    simp only[List.mem_cons];constructor
    ·rintro (h|h|h)
     ·exact .inl h
     ·exact .inr ⟨.inl h,by rw[h];exact e⟩
     ·exact .inr ⟨.inr h,λe2=>by
       have:=jC k (h1 x h)
       exact anj this e2.symm⟩
    ·rintro (h|⟨h,_⟩)
     ·exact .inl h
     ·exact .inr h
   ·rw[if_neg k]
    simp only[List.mem_cons,gZ h2];constructor
    ·rintro (h|h|⟨h,h3⟩)
     ·exact .inr ⟨.inl h,by rw[h];exact e⟩
     ·exact .inl h
     ·exact .inr ⟨.inr h,h3⟩
    ·rintro (h|⟨h|h,h3⟩)
     ·exact .inr (.inl h)
     ·exact .inl h
     ·exact .inr (.inr ⟨h,h3⟩)
theorem uV: ∀{L:Lks} {l:ZLnk},srt L->srt (jv L l)
 |[],l,_=>by simp[jv,srt]
 |y::L,l,hs=>by
  obtain⟨h1,h2⟩:=List.pairwise_cons.1 hs;unfold jv;by_cases e:y.key=l.key
  ·rw[if_pos e]
   exact List.pairwise_cons.2 ⟨λx hx=>by rw[<-e];exact h1 x hx,h2⟩
  ·rw[if_neg e]
   by_cases k:kl l.key y.key=true
   ·rw[if_pos k]
    exact List.pairwise_cons.2 ⟨λx hx=>by
     rcases List.mem_cons.1 hx with rfl|hx
     ·exact k
     ·exact jC k (h1 x hx),hs⟩
   ·rw[if_neg k]
    refine List.pairwise_cons.2 ⟨λx hx=> ?_,uV h2⟩;rcases (gZ h2).1 hx with rfl|⟨hx,_⟩
    ·cases hy:kl y.key x.key with
     |true=>rfl
     |false=>exact(e (aaY hy (by simpa using k))).elim
    ·exact h1 x hx
theorem aaZ: ∀{L:Lks} {l:ZLnk},(jv L l).length<=L.length+1
 |[],l=>by simp[jv]
 |y::L,l=>by
  unfold jv;by_cases e:y.key=l.key
  ·rw[if_pos e];simp
  ·rw[if_neg e]
   by_cases k:kl l.key y.key=true
   ·rw[if_pos k];simp
   ·rw[if_neg k];have:=aaZ (L:=L) (l:=l);simp;omega
theorem Fj{L:Lks}{s:ByteArray}{x:ZLnk}:x∈fZ L s↔x∈L/\x.key≠s:=by
 unfold fZ;rw[List.mem_filter];simp
theorem RN{L:Lks}{s:ByteArray}(h:srt L):srt (fZ L s):=List.Pairwise.filter _ h
theorem ank{L:Lks}{l:ZLnk}{s:ByteArray}(h:srt L):gY (jv L l) s=if s=l.key then some l else gY L s:=by
 have hs:=uV (l:=l) h;by_cases e:s=l.key
 ·rw[if_pos e];exact yV hs ((gZ h).2 (.inl rfl)) e.symm
 ·rw[if_neg e]
  cases hf:gY L s with
  |some x=>
   obtain⟨h1,h2⟩:=og hf;exact yV hs ((gZ h).2 (.inr ⟨h1,λe2=>e (h2.symm.trans e2)⟩)) h2
  |none=>
   refine yX λx hx=> ?_
   rcases (gZ h).1 hx with rfl|⟨hx,_⟩
   ·exactλe2=>e e2.symm
   ·exact uU hf x hx
def wW(t:iY)(b:Nat)(m:ZMs):iY:=λq=>if q=b then m else t q
theorem lJ.found{L:Lks}{t:iY}(h:lJ L t){s:ByteArray}{b j:Nat}(hb:bkt s=b)(hj:j<(t b).n)(hk:((t b).lk j).key=s):gY L s=some ((t b).lk j):=by
 have:=qJ s;exact yV h.srt (h.mem b (by omega) j hj).1 hk
theorem lJ.none{L:Lks}{t:iY}(h:lJ L t){s:ByteArray}{b:Nat}(hb:bkt s=b)(hn: ∀j,j<(t b).n->((t b).lk j).key≠s):gY L s=none:=by
 refine yX λl hl e=> ?_
 obtain⟨j,h1,h2⟩:=h.all l hl;rw[e,hb]at h1 h2;exact hn j h1 (by rw[h2];exact e)
theorem lJ.put{L:Lks}{t:iY}(h:lJ L t){l:ZLnk}{b j:Nat}(hb:bkt l.key=b)(hj:j<(t b).n)(hk:((t b).lk j).key=l.key)(hl:(jv L l).length<=258)(hs:l.key.size<1099511627776):lJ (jv L l) (wW t b ((t b).put j l)):=by
 have hb8:b<8:=by have:=qJ l.key;omega
 refine⟨uV h.srt,hl,λx hx=> ?_,λc hc q hq=> ?_,λx hx=> ?_,λc hc p q hp hq e=> ?_,λc hc q hq=> ?_,λc hc p q hp hq e=> ?_⟩
 ·rcases (gZ h.srt).1 hx with rfl|⟨hx,_⟩
  ·exact hs
  ·exact h.key x hx
 ·unfold wW at hq ⊢
  by_cases hcb:c=b
  ·subst hcb
   rw[if_pos rfl]at hq ⊢;show(if q=j then l else(t c).lk q)∈_/\bkt (if q=j then l else(t c).lk q).key=c;by_cases hqj:q=j
   ·rw[if_pos hqj];exact⟨(gZ h.srt).2 (.inl rfl),hb⟩
   ·rw[if_neg hqj]
    have hm:=h.mem c hc q hq;exact⟨(gZ h.srt).2 (.inr ⟨hm.1,λe=>hqj (h.inj c hc q j hq hj (e.trans hk.symm))⟩),hm.2⟩
  ·rw[if_neg hcb]at hq ⊢
   have hm:=h.mem c hc q hq;exact⟨(gZ h.srt).2 (.inr ⟨hm.1,λe=>hcb (by rw[<-hm.2,e];exact hb)⟩),hm.2⟩
 ·unfold wW
  rcases (gZ h.srt).1 hx with rfl|⟨hx,hne⟩
  ·rw[hb,if_pos rfl];exact⟨j,hj,if_pos rfl⟩
  ·obtain⟨q,h1,h2⟩:=h.all x hx
   by_cases hcb:bkt x.key=b
   ·rw[hcb]at h1 h2 ⊢
    rw[if_pos rfl];have hqj:q≠j:=λe=>hne (by rw[<-h2,e];exact hk)
    exact⟨q,h1,(if_neg hqj).trans h2⟩
   ·rw[if_neg hcb];exact⟨q,h1,h2⟩
 ·unfold wW at hp hq e
  by_cases hcb:c=b
  ·subst hcb
   rw[if_pos rfl]at hp hq e;have hkey: ∀q,((if q=j then l else(t c).lk q:ZLnk)).key=((t c).lk q).key:=λq=>by
    by_cases hqj:q=j
    ·rw[if_pos hqj,hqj];exact hk.symm
    ·rw[if_neg hqj]
   refine h.inj c hc p q hp hq ?_;rw[<-hkey,<-hkey];exact e
  ·rw[if_neg hcb]at hp hq e;exact h.inj c hc p q hp hq e
 ·unfold wW at hq ⊢
  by_cases hcb:c=b
  ·subst hcb;rw[if_pos rfl]at hq ⊢;exact h.born c hc q hq
  ·rw[if_neg hcb]at hq ⊢;exact h.born c hc q hq
 ·unfold wW at hp hq e
  by_cases hcb:c=b
  ·subst hcb;rw[if_pos rfl]at hp hq e;exact h.bi c hc p q hp hq e
  ·rw[if_neg hcb]at hp hq e;exact h.bi c hc p q hp hq e
theorem lJ.add{L:Lks}{t:iY}(h:lJ L t){l:ZLnk}{b:Nat}(hb:bkt l.key=b)(hn: ∀j,j<(t b).n->((t b).lk j).key≠l.key)(hl:(jv L l).length<=258)(hs:l.key.size<1099511627776):lJ (jv L l) (wW t b ((t b).add l)):=by
 have hb8:b<8:=by have:=qJ l.key;omega
 have hno:=uU (h.none hb hn);have low: ∀{c q},q<(wW t b ((t b).add l) c).n->(c=b/\q=(t b).n/\(wW t b ((t b).add l) c).lk q=l/\(wW t b ((t b).add l) c).born q=(t b).clk)\/(q<(t c).n/\(wW t b ((t b).add l) c).lk q=(t c).lk q/\(wW t b ((t b).add l) c).born q=(t c).born q):=λ{c q} hq=>by
  unfold wW at hq ⊢;by_cases hcb:c=b
  ·subst hcb
   rw[if_pos rfl]at hq ⊢;have hq:q<(t c).n+1:=hq;by_cases hqn:q=(t c).n
   ·exact .inl ⟨rfl,hqn,if_pos hqn,if_pos hqn⟩
   ·exact .inr ⟨by omega,if_neg hqn,if_neg hqn⟩
  ·rw[if_neg hcb]at hq ⊢;exact .inr ⟨hq,rfl,rfl⟩
 have clk: ∀c,(t c).clk<=(wW t b ((t b).add l) c).clk:=λc=>by
  unfold wW;by_cases hcb:c=b
  ·subst hcb;rw[if_pos rfl];show _<=(t c).clk+1;omega
  ·rw[if_neg hcb];exact aY _
 refine⟨uV h.srt,hl,λx hx=> ?_,λc hc q hq=> ?_,λx hx=> ?_,λc hc p q hp hq e=> ?_,λc hc q hq=> ?_,λc hc p q hp hq e=> ?_⟩
 ·rcases (gZ h.srt).1 hx with rfl|⟨hx,_⟩
  ·exact hs
  ·exact h.key x hx
 ·rcases low hq with ⟨rfl,_,e,_⟩|⟨hq,e,_⟩
  ·rw[e];exact⟨(gZ h.srt).2 (.inl rfl),hb⟩
  ·rw[e]
   have hm:=h.mem c hc q hq;exact⟨(gZ h.srt).2 (.inr ⟨hm.1,hno _ hm.1⟩),hm.2⟩
 ·unfold wW
  rcases (gZ h.srt).1 hx with rfl|⟨hx,hne⟩
  ·rw[hb,if_pos rfl];exact⟨(t b).n,Nat.lt_succ_self _,if_pos rfl⟩
  ·obtain⟨q,h1,h2⟩:=h.all x hx
   by_cases hcb:bkt x.key=b
   ·rw[hcb]at h1 h2 ⊢
    rw[if_pos rfl];exact⟨q,Nat.lt_succ_of_lt h1,(if_neg (Nat.ne_of_lt h1)).trans h2⟩
   ·rw[if_neg hcb];exact⟨q,h1,h2⟩
 ·rcases low hp with ⟨rfl,e1,e2,_⟩|⟨hp,e2,_⟩<;>rcases low hq with ⟨e0,f1,f2,_⟩|⟨hq,f2,_⟩
  ·omega
  ·rw[e2,f2]at e;exact(hno _ (h.mem c hc q hq).1 e.symm).elim
  ·rw[e2,f2]at e;exact(hno _ (h.mem c hc p hp).1 e).elim
  ·rw[e2,f2]at e;exact h.inj c hc p q hp hq e
 ·rcases low hq with ⟨rfl,_,_,e⟩|⟨hq,_,e⟩
  ·rw[e];unfold wW;rw[if_pos rfl];exact Nat.lt_succ_self _
  ·rw[e];exact Nat.lt_of_lt_of_le (h.born c hc q hq) (clk c)
 ·rcases low hp with ⟨e1,g1,_,e2⟩|⟨gp,_,e2⟩<;>rcases low hq with ⟨f1,g2,_,f2⟩|⟨gq,_,f2⟩
  ·omega
  ·rw[e2,f2]at e;have:=h.born c hc q gq;subst e1;omega
  ·rw[e2,f2]at e;have:=h.born c hc p gp;subst f1;omega
  ·rw[e2,f2]at e;exact h.bi c hc p q gp gq e
theorem lJ.del{L:Lks}{t:iY}(h:lJ L t){s:ByteArray}{b j:Nat}(hb:bkt s=b)(hj:j<(t b).n)(hk:((t b).lk j).key=s):lJ (fZ L s) (wW t b ((t b).del j)):=by
 have hb8:b<8:=by have:=qJ s;omega
 have low: ∀{c q},q<(wW t b ((t b).del j) c).n-> ∃p,p<(t c).n/\(c=b->p≠j)/\(wW t b ((t b).del j) c).lk q=(t c).lk p/\(wW t b ((t b).del j) c).born q=(t c).born p/\(((c=b->q<j)/\p=q)\/(c=b/\p=q+1/\j<=q)):=λ{c q} hq=>by
  unfold wW at hq ⊢;by_cases hcb:c=b
  ·subst hcb
   rw[if_pos rfl]at hq ⊢;have hq:q<(t c).n-1:=hq;by_cases hqj:q<j
   ·exact⟨q,by omega,λ_=>by omega,if_pos hqj,if_pos hqj,.inl ⟨λ_=>hqj,rfl⟩⟩
   ·exact⟨q+1,by omega,λ_=>by omega,if_neg hqj,if_neg hqj,.inr ⟨rfl,rfl,by omega⟩⟩
  ·rw[if_neg hcb]at hq ⊢;exact⟨q,hq,λe=>absurd e hcb,rfl,rfl,.inl ⟨λe=>absurd e hcb,rfl⟩⟩
 refine⟨RN h.srt,Nat.le_trans (List.length_filter_le _ _) h.size,λx hx=>h.key x (Fj.1 hx).1,λc hc q hq=> ?_,λx hx=> ?_,λc hc p q hp hq e=> ?_,λc hc q hq=> ?_,λc hc p q hp hq e=> ?_⟩
 ·obtain⟨p,h1,h2,h3,_⟩:=low hq
  have hm:=h.mem c hc p h1;rw[h3]
  exact⟨Fj.2 ⟨hm.1,λe=>by
   have hcb:c=b:=by rw[<-hm.2,e];exact hb
   subst hcb
   exact h2 rfl (h.inj c hc p j h1 hj (e.trans hk.symm))⟩,hm.2⟩
 ·obtain⟨hx,hne⟩:=Fj.1 hx
  obtain⟨q,h1,h2⟩:=h.all x hx;unfold wW;by_cases hcb:bkt x.key=b
  ·rw[hcb]at h1 h2 ⊢
   rw[if_pos rfl];have hqj:q≠j:=λe=>hne (by rw[<-h2,e];exact hk)
   by_cases hlt:q<j
   ·exact⟨q,by show q<(t b).n-1;omega,(if_pos hlt).trans h2⟩
   ·exact⟨q-1,by show q-1<(t b).n-1;omega,(if_neg (by omega)).trans (by rw[show q-1+1=q by omega];exact h2)⟩
  ·rw[if_neg hcb];exact⟨q,h1,h2⟩
 ·obtain⟨p',a1,a2,a3,_,a5⟩:=low hp
  obtain⟨q',b1,b2,b3,_,b5⟩:=low hq;rw[a3,b3]at e;have:=h.inj c hc p' q' a1 b1 e;rcases a5 with ⟨a5,a6⟩|⟨a5,a7,a8⟩<;>rcases b5 with ⟨b5,b6⟩|⟨b5,b7,b8⟩
  ·omega
  ·have:=a5 b5;omega
  ·have:=b5 a5;omega
  ·omega
 ·obtain⟨p,h1,h2,_,h4,_⟩:=low hq
  rw[h4];have:=h.born c hc p h1;unfold wW;by_cases hcb:c=b
  ·subst hcb;rw[if_pos rfl];exact this
  ·rw[if_neg hcb];exact this
 ·obtain⟨p',a1,a2,_,a3,a5⟩:=low hp
  obtain⟨q',b1,b2,_,b3,b5⟩:=low hq;rw[a3,b3]at e;have:=h.bi c hc p' q' a1 b1 e;rcases a5 with ⟨a5,a6⟩|⟨a5,a7,a8⟩<;>rcases b5 with ⟨b5,b6⟩|⟨b5,b7,b8⟩
  ·omega
  ·have:=a5 b5;omega
  ·have:=b5 a5;omega
  ·omega
theorem adw:qM Tryz.prog 227 Extern.BytealgCompare.compare:=⟨Tryz.f227,by kernel_rfl,by kernel_rfl,by kernel_rfl,by kernel_rfl,by kernel_rfl⟩
def auS:je:=[(227,cmpX)]
theorem anl:dZ Tryz.prog auS:= .Ej (aqX adw) .nil
def uX(L:Lks)(s:ByteArray):Nat:=L.findIdx λl=> !kl l.key s
structure ZTq where
 L:Lks
 s:ByteArray
def ZTq.at_(x:ZTq)(k:Nat):ZLnk:=x.L.getD k iQ
structure ZIj where
 i:Nat
 j:Nat
noncomputable def auT:Ctr:=det ZTq (λx=>[.slR 0 0 5 x.L.length,.lit (.string x.s)]) 1 (λx=>[.ro (lrow x.L)]) (λx=>Hd (srt x.L/\x.L.length<1099511627776)) (λx=> .tup [i64 (uX x.L x.s),boo (gY x.L x.s).isSome]) 1 (λx=>[.ro (lrow x.L)])
noncomputable def apK(x:ZTq):FuncId->qL:=λf=>bif Nat.beq f 298 then(λb _ _=>bif Nat.beq b 0 then [
 {σ:=ZIj,fr:=λs=>[(9,i64 s.i),(10,i64 s.j)],ob:=λ_=>[],inv:=λs=>Hd (s.i<=s.j/\s.j<=x.L.length/\(∀q,q<s.i->kl (x.at_ q).key x.s=true)/\ ∀q,s.j<=q->q<x.L.length->kl (x.at_ q).key x.s=false),meas:=λs=>s.j-s.i}]else [])elseλ_ _ _=>[]
theorem asb{L:Lks}{s:ByteArray}{i:Nat}(hi:i<=L.length)(h1: ∀q,q<i->kl (L.getD q iQ).key s=true)(h2:i<L.length->kl (L.getD i iQ).key s=false):uX L s=i:=by
 unfold uX;rcases Nat.lt_or_ge i L.length with h|h
 ·rw[List.findIdx_eq h]
  have g: ∀q (hq:q<L.length),L.getD q iQ=L[q]:=λq hq=>by rw[List.getD_eq_getElem?_getD,List.getElem?_eq_getElem hq];rfl
  refine⟨?_,λq hq=> ?_⟩
  ·have:=h2 h;rw[g i h]at this;rw[this];rfl
  ·have:=h1 q hq;rw[g q (by omega)]at this;rw[this];rfl
 ·have hl:i=L.length:=by omega
  subst hl;rw[List.findIdx_eq_length];intro l hl;obtain⟨q,hq,rfl⟩:=List.getElem_of_mem hl;have:=h1 q hq;rw[List.getD_eq_getElem?_getD,List.getElem?_eq_getElem hq]at this;simp only[Option.getD_some]at this;rw[this];rfl
theorem aiU{L:Lks}(h:srt L){i j:Nat}(hij:i<j)(hj:j<L.length):kl (L.getD i iQ).key (L.getD j iQ).key=true:=by
 have:=List.pairwise_iff_getElem.1 h i j (by omega) hj hij;simp only[List.getD_eq_getElem?_getD,List.getElem?_eq_getElem hj,List.getElem?_eq_getElem (show i<L.length by omega),Option.getD_some];exact this
theorem aiV{L:Lks}{i:Nat}(h:i<L.length):L.getD i iQ∈L:=by
 rw[List.getD_eq_getElem?_getD,List.getElem?_eq_getElem h];exact List.getElem_mem h
theorem auU{L:Lks}(hs:srt L){s:ByteArray}{i:Nat}(hi:i<=L.length)(h1: ∀q,q<i->kl (L.getD q iQ).key s=true)(h2: ∀q,i<=q->q<L.length->kl (L.getD q iQ).key s=false):(gY L s).isSome=(decide (i<L.length)&&decide ((L.getD i iQ).key=s)):=by
 cases hf:gY L s with
 |some l=>
  obtain⟨g1,g2⟩:=og hf;obtain⟨q,hq,rfl⟩:=List.getElem_of_mem g1;have e:L.getD q iQ=L[q]:=by rw[List.getD_eq_getElem?_getD,List.getElem?_eq_getElem hq];rfl
  have hiq:i=q:=by
   rcases Nat.lt_trichotomy i q with h|h|h
   ·have:=aiU hs h hq
    rw[e,g2]at this;rw[h2 i (aY _) (by omega)]at this;cases this
   ·exact h
   ·have:=h1 q h
    rw[e,g2,mX]at this;cases this
  subst hiq;rw[e,g2];simp[hq]
 |none=>
  have:=uU hf;by_cases hl:i<L.length
  ·have hne:=this _ (aiV hl)
   simp only[Option.isSome_none,decide_eq_true hl,aH];exact(decide_eq_false hne).symm
  ·simp[hl]
def aiW(a:ZIj)(b:ZTq):Prop:=Hd (a.i<=a.j/\a.j<=List.length b.L/\(∀q:Nat,q<a.i->kl (ZLnk.key (b.at_ q)) b.s=true)/\ ∀q:Nat,a.j<=q->q<List.length b.L->kl (ZLnk.key (b.at_ q)) b.s=false)
def adx(a:Lks):Prop:=(lrow a=lrow a/\true=true)/\True
def asc(x:ZTq):Prop:=
 (∃s:ZIj,aiW s x/\True/\((s.i:Int)=0/\(s.j:Int)=((List.length x.L:Nat):Int)/\True)/\adx x.L)/\(∀s:ZIj,aiW s x->cP (decide ((s.i:Int)<(s.j:Int))) (I64 ((s.i:Int)+(s.j:Int))/\(0:Int)<=1/\I64 (Int.fdiv (IntKind.wrap .u64 ((s.i:Int)+(s.j:Int))) (2:Int))/\(0<=Int.fdiv (IntKind.wrap .u64 ((s.i:Int)+(s.j:Int))) (2:Int)/\Int.fdiv (IntKind.wrap .u64 ((s.i:Int)+(s.j:Int))) (2:Int)<((List.length x.L:Nat):Int))/\0+Int.toNat (Int.fdiv (IntKind.wrap .u64 ((s.i:Int)+(s.j:Int))) (2:Int))<List.length x.L/\cP (decide (agv (ZLnk.key (List.getD x.L (0+Int.toNat (Int.fdiv (IntKind.wrap .u64 ((s.i:Int)+(s.j:Int))) (2:Int))) iQ)) x.s<0)) (I64 (Int.fdiv (IntKind.wrap .u64 ((s.i:Int)+(s.j:Int))) (2:Int)+1)/\ ∃s_1:ZIj,aiW s_1 x/\s_1.j-s_1.i<s.j-s.i/\((s_1.i:Int)=Int.fdiv (IntKind.wrap .u64 ((s.i:Int)+(s.j:Int))) (2:Int)+1/\(s_1.j:Int)=(s.j:Int)/\True)/\adx x.L) (∃s_1:ZIj,aiW s_1 x/\s_1.j-s_1.i<s.j-s.i/\((s_1.i:Int)=(s.i:Int)/\(s_1.j:Int)=Int.fdiv (IntKind.wrap .u64 ((s.i:Int)+(s.j:Int))) (2:Int)/\True)/\adx x.L)) (cP (decide ((s.i:Int)<((List.length x.L:Nat):Int))) ((0<=(s.i:Int)/\(s.i:Int)<((List.length x.L:Nat):Int))/\0+s.i<List.length x.L/\ ∃y:Unit,True/\(((uX x.L x.s:Nat):Int)=(s.i:Int)/\ @Option.isSome ZLnk (gY x.L x.s)=BEq.beq (agv (ZLnk.key (List.getD x.L (0+s.i) iQ)) x.s) (0:Int)/\True)/\adx x.L) (∃y:Unit,True/\(((uX x.L x.s:Nat):Int)=(s.i:Int)/\ @Option.isSome ZLnk (gY x.L x.s)=false/\True)/\adx x.L)))/\True
theorem anm(x:ZTq):asc x=wpF Tryz.prog auS tt (apK x) 200 6 280 (auT.args x) (hO 1 (auT.os x)) (λv h'=>eX 1 x v h' auT.outs):=by kernel_rfl
theorem auV(a b:ByteArray):agv a b<0↔kl a b=true:=agw a b
theorem ano(a b:ByteArray):(agv a b==0)=decide (a=b):=by
 have h:agv a b=0↔a=b:=by
  unfold agv;rw[iK];rw[(nT a.data.toList b.data.toList).2];exact⟨λe=>ByteArray.ext (Array.toList_inj.1 e),λe=>by rw[e]⟩
 rw[Bool.eq_iff_iff];simp[h]
theorem ady(x:ZTq)(hs:srt x.L)(hn:x.L.length<1099511627776):asc x:=by
 unfold asc;simp only[aiW,adx];simp only[aZ,aV,aU,aA,aI,bU,bG,aO,aK,ay,aX,aW,bV,bH,bJ,bK,bW,bC,bM,bn,eY,aH,aN,ah,ak,aB,aF,aC,aG];have hz: ∀q,x.at_ q=x.L.getD q iQ:=λ_=>rfl
 refine⟨⟨⟨0,x.L.length⟩,⟨Nat.zero_le _,aY _,λq h=>absurd h (Nat.not_lt_zero q),λq h h'=>absurd (Nat.lt_of_lt_of_le h' h) (Nat.lt_irrefl _)⟩,rfl,rfl⟩,λs hI=> ?_⟩;obtain⟨h1,h2,h3,h4⟩:=hI;refine bf (λh=> ?_) λh=> ?_
 ·have h:=aS h
  have hw:IntKind.wrap .u64 ((s.i:Int)+(s.j:Int))=(s.i:Int)+(s.j:Int):=jf (by omega) (by omega);rw[hw];have hd:Int.fdiv ((s.i:Int)+(s.j:Int)) 2=(((s.i+s.j)/2:Nat):Int):=by rw[Int.fdiv_eq_ediv_of_nonneg _ (by decide)];omega
  rw[hd];simp only[ay];refine⟨by unfold I64;omega,by omega,by unfold I64;omega,by omega,by omega,bf (λhc=> ?_) λhc=> ?_⟩
  ·have hc:=(auV _ _).1 (aS hc)
   refine⟨by unfold I64;omega,⟨(s.i+s.j)/2+1,s.j⟩,⟨by show(s.i+s.j)/2+1<=s.j;omega,h2,λq hq=> ?_,h4⟩,by show s.j-((s.i+s.j)/2+1)<s.j-s.i;omega,by show(((s.i+s.j)/2+1:Nat):Int)=_;omega,rfl⟩;rcases Nat.lt_or_ge q ((s.i+s.j)/2)with hq'|hq'
   ·rw[hz];exact jC (aiU hs hq' (by omega)) hc
   ·have:q=(s.i+s.j)/2:=by have:q<(s.i+s.j)/2+1:=hq;omega
    subst this;exact hc
  ·have hc:=aT hc
   have hc:kl (x.L.getD ((s.i+s.j)/2) iQ).key x.s=false:=by
    cases hk:kl (x.L.getD ((s.i+s.j)/2) iQ).key x.s
    ·rfl
    ·exact absurd ((auV _ _).2 hk) hc
   refine⟨⟨s.i,(s.i+s.j)/2⟩,⟨by show s.i<=(s.i+s.j)/2;omega,by show(s.i+s.j)/2<=_;omega,h3,λq hq hq'=> ?_⟩,by show(s.i+s.j)/2-s.i<s.j-s.i;omega,rfl,rfl⟩;have hq:(s.i+s.j)/2<=q:=hq;rcases Nat.lt_or_ge ((s.i+s.j)/2) q with g|g
   ·rw[hz]
    cases hk:kl (x.L.getD q iQ).key x.s
    ·rfl
    ·have:=jC (aiU hs g hq') hk
     rw[hc]at this;cases this
   ·have:q=(s.i+s.j)/2:=by omega
    subst this;exact hc
 ·have h:=aT h
  have hij:s.i=s.j:=by omega
  have hp:uX x.L x.s=s.i:=asb (by omega) h3 λhl=>h4 s.i (by omega) hl
  have ha:=auU hs (s:=x.s) (i:=s.i) (by omega) h3 λq hq=>h4 q (by omega)
  refine bf (λhl=> ?_) λhl=> ?_
  ·have hl:=aS hl
   refine⟨by omega,by omega,by rw[hp],?_⟩;rw[ha];have:s.i<x.L.length:=by omega
   rw[decide_eq_true this,aH];exact(ano _ _).symm
  ·have hl:=aT hl
   refine⟨by rw[hp],?_⟩;rw[ha];rw[decide_eq_false (show¬s.i<x.L.length by omega),Bool.false_and]
theorem auW:cO Tryz.prog 280 auT:=dM dG mixed anl apK 200 6 (λ_=>rfl) (λ_=>rfl) λx hx=>Eq.mp (anm x) (ady x (aZ.1 hx).1 (aZ.1 hx).2)
noncomputable section
theorem WL:qM Tryz.prog 300 (Extern.SlicesOverlaps.overlaps #[123,123] #[4]):=⟨Tryz.f300,by kernel_rfl,by kernel_rfl,by kernel_rfl,by kernel_rfl,by kernel_rfl⟩
theorem anp: ∀w,(Go.sizeOf 41).run Tryz.prog w= .ok 5 w:=λw=>by rw[Tryz.sizeOf41]
def anq:je:=[(300,aq1)]
theorem Lm:dZ Tryz.prog anq:= .Ej (amb WL Tryz.underlying123 anp) .nil
structure ZIn where
 n:Nat
 f:Nat->ZLnk
 i:Nat
 l:ZLnk
def insL(f:Nat->ZLnk)(i:Nat)(x:ZLnk)(q:Nat):ZLnk:=bif Nat.blt q i then f q else bif Nat.beq q i then x else f (q-1)
def rO(l:ZLnk):dF:= .cells 41 (.av [.lit (.string l.key),u64 l.id,u64 l.ver,i64 l.line,i64 l.cls])
def zT(n:Nat)(f:Nat->ZLnk):dF:= .room 41 (.row 5 n (λq=>(f q).cs) [])
def aiX(x:ZIn)(c:Nat):Cs:= .row 5 c (λq=>bif Nat.blt q (x.n+1)then(insL x.f x.i x.l q).cs else []) []
def ase(x:ZIn)(c:Nat):Cs:= .row 5 c (λq=>bif Nat.blt q x.n then(x.f q).cs else []) []
def WM:Ctr:={X:=ZIn×Nat,args:=λx=>[.slE 0 0 5 x.1.n x.2,i64 x.1.i,.sl 1 0 1 1],k:=2,os:=λx=>[.room 41 (ase x.1 x.2),rO x.1.l],pre:=λx=>Hd (x.1.i<=x.1.n/\x.1.n<=x.2/\x.1.n<=300),outs:=[
 {Y:=Unit,post:=λx _=>Hd (x.1.n+1<=x.2),ret:=λx _=> .slE 0 0 5 (x.1.n+1) x.2,m:=2,os:=λx _=>[.room 41 (aiX x.1 x.2),rO x.1.l]},
 {Y:=Unit,post:=λ_ _=>True,ret:=λx _=> .slW 2 0 5 (x.1.n+1),m:=3,os:=λx _=>[.room 41 (ase x.1 x.2),rO x.1.l,zT (x.1.n+1) (insL x.1.f x.1.i x.1.l)]}]}
def insLC:Ctr:=det ZIn (λx=>[.slW 0 0 5 x.n,i64 x.i,.sl 1 0 1 1]) 2 (λx=>[zT x.n x.f,rO x.l]) (λx=>Hd (x.i<=x.n/\x.n<=300)) (λx=> .slW 2 0 5 (x.n+1)) 3 (λx=>[.abs Ce,rO x.l,zT (x.n+1) (insL x.f x.i x.l)])
end
def Fp(a:ZIn×Nat):Prop:=a.1.l.key=a.1.l.key/\a.1.l.id=a.1.l.id/\a.1.l.ver=a.1.l.ver/\a.1.l.line=a.1.l.line/\a.1.l.cls=a.1.l.cls/\True
def aiY(a:ZIn×Nat)(b:Nat):Prop:=(Nat.beq (List.length (Cs.eff (λ(q:Nat)=>cond (Nat.blt q a.1.n) (ZLnk.cs (a.1.f q)) (@List.nil Value)) [] (0+a.1.i+b))) 5&&List.all (Cs.eff (λ(q:Nat)=>cond (Nat.blt q a.1.n) (ZLnk.cs (a.1.f q)) (@List.nil Value)) [] (0+a.1.i+b)) Value.oneCell')=true
def aiZ(a:ZIn×Nat):Prop:=List.all [List.take 5 [Value.string a.1.l.key,Value.int .u64 a.1.l.id,Value.int .u64 a.1.l.ver,Value.int .i64 a.1.l.line,Value.int .i64 a.1.l.cls]] (λ(l:List Value)=>Nat.beq (List.length l) 5&&List.all l Value.oneCell')=true
def anr(a:ZIn×Nat):Prop:=a.2=a.2/\ ∀q:Nat,q<a.2->Cs.eff (λ(q_1:Nat)=>cond (Nat.blt q_1 a.1.n) (ZLnk.cs (a.1.f q_1)) (@List.nil Value)) [] q=Cs.eff (λ(q_1:Nat)=>cond (Nat.blt q_1 a.1.n) (ZLnk.cs (a.1.f q_1)) (@List.nil Value)) [] q
def ai0(a:ZIn×Nat):Prop:=a.1.i-0+Int.toNat ((a.1.n:Int)+1-(a.1.i:Int))<=a.1.i-0+Int.toNat ((a.1.n:Int)+1-(a.1.i:Int))
def aa0(a:ZIn×Nat):Prop:=Int.toNat ((a.1.n:Int)+1)-0<=a.2-0/\a.2-0<=a.2-0
def ai1(a:ZIn×Nat):Prop:=ai0 a/\ai0 a
def aa1(a:ZIn×Nat):Prop:=a.1.i<=Int.toNat ((a.1.n:Int)+1)-0/\aa0 a
def RP(a:ZIn×Nat):Prop:=a.1.n+1=a.1.i-0+Int.toNat ((a.1.n:Int)+1-(a.1.i:Int))
def aa2(a:ZIn×Nat):Prop:= ∃y:Unit,Hd (a.1.n+1<=a.2)/\False/\(a.2=a.2/\ ∀q:Nat,q<a.2->Cs.eff (λ(q_1:Nat)=>cond (Nat.blt q_1 (a.1.n+1)) (ZLnk.cs (insL a.1.f a.1.i a.1.l q_1)) (@List.nil Value)) [] q=Cs.eff (λ(q_1:Nat)=>cond (Nat.blt q_1 a.1.n) (ZLnk.cs (a.1.f q_1)) (@List.nil Value)) [] q)/\Fp a/\True
def aa3(a:ZIn×Nat):Prop:=0+a.1.i+(Int.toNat ((a.1.n:Int)+1)-0-a.1.i)<=a.2
def WO(x:ZIn×Nat):Prop:=
 0<=(x.1.i:Int)/\(x.1.i<=x.1.n/\x.1.n<=x.2/\x.2<=x.2)/\cP (BEq.beq (x.1.i:Int) (x.1.n:Int)) (0+x.1.n<=x.2/\cP (Nat.ble (x.1.n+1) x.2) (aiZ x/\0+(x.1.n+1)<=x.2/\((∃y:Unit,Hd (x.1.n+1<=x.2)/\(0=0/\x.1.n+1=x.1.n+1/\x.2=x.2)/\(x.2=x.2/\ ∀q:Nat,q<x.2->Cs.eff (λ(q_1:Nat)=>cond (Nat.blt q_1 (x.1.n+1)) (ZLnk.cs (insL x.1.f x.1.i x.1.l q_1)) (@List.nil Value)) [] q=Cs.eff (λ(q_1:Nat)=>cond (Nat.blt q_1 x.1.n) (ZLnk.cs (x.1.f q_1)) (@List.nil Value)) [(0+x.1.n,List.take 5 [Value.string x.1.l.key,Value.int .u64 x.1.l.id,Value.int .u64 x.1.l.ver,Value.int .i64 x.1.l.line,Value.int .i64 x.1.l.cls])] q)/\Fp x/\True)\/ ∃y:Unit,True/\False/\(x.2=x.2/\ ∀q:Nat,q<x.2->Cs.eff (λ(q_1:Nat)=>cond (Nat.blt q_1 x.1.n) (ZLnk.cs (x.1.f q_1)) (@List.nil Value)) [] q=Cs.eff (λ(q_1:Nat)=>cond (Nat.blt q_1 x.1.n) (ZLnk.cs (x.1.f q_1)) (@List.nil Value)) [(0+x.1.n,List.take 5 [Value.string x.1.l.key,Value.int .u64 x.1.l.id,Value.int .u64 x.1.l.ver,Value.int .i64 x.1.l.line,Value.int .i64 x.1.l.cls])] q)/\Fp x/\False/\True)) ((2*(x.1.n+1)+1000)*48<=281474976710656/\(aa2 x\/ ∃y:Unit,True/\(0=0/\x.1.n+1=x.1.n+1)/\anr x/\Fp x/\(x.1.n+1=x.1.n+List.length [List.take 5 [Value.string x.1.l.key,Value.int .u64 x.1.l.id,Value.int .u64 x.1.l.ver,Value.int .i64 x.1.l.line,Value.int .i64 x.1.l.cls]]/\
 ∀q:Nat,q<x.1.n+1->[Value.string (ZLnk.key (insL x.1.f x.1.i x.1.l q)),Value.int .u64 (ZLnk.id (insL x.1.f x.1.i x.1.l q)),Value.int .u64 (ZLnk.ver (insL x.1.f x.1.i x.1.l q)),Value.int .i64 (ZLnk.line (insL x.1.f x.1.i x.1.l q)),Value.int .i64 (ZLnk.cls (insL x.1.f x.1.i x.1.l q))]=Cs.eff (λ(k:Nat)=>Cs.eff (λ(q_1:Nat)=>cond (Nat.blt q_1 x.1.n) (ZLnk.cs (x.1.f q_1)) (@List.nil Value)) [] (0+k)) [(x.1.n,List.take 5 [Value.string x.1.l.key,Value.int .u64 x.1.l.id,Value.int .u64 x.1.l.ver,Value.int .i64 x.1.l.line,Value.int .i64 x.1.l.cls])] q)/\True))) (I64 ((x.1.n:Int)+1)/\cP (decide ((x.1.n:Int)+1>(x.2:Int))) (0<=(x.1.i:Int)/\(0<=x.1.i/\x.1.i<=x.2/\x.2<=x.2)/\I64 ((x.1.n:Int)+1)/\I64 ((x.1.n:Int)+1-(x.1.i:Int))/\0+(x.1.i-0)<=x.2/\0<=(x.1.n:Int)+1-(x.1.i:Int)/\x.2-0<x.1.i-0+Int.toNat ((x.1.n:Int)+1-(x.1.i:Int))/\(2*(x.1.i-0+Int.toNat ((x.1.n:Int)+1-(x.1.i:Int)))+1000)*48<=281474976710656/\0<=(x.1.i:Int)/\(x.1.i<=x.1.i-0+Int.toNat ((x.1.n:Int)+1-(x.1.i:Int))/\ai1 x)/\0+x.1.i+(x.1.i-0+Int.toNat ((x.1.n:Int)+1-(x.1.i:Int))-x.1.i)<=x.1.i-0+Int.toNat ((x.1.n:Int)+1-(x.1.i:Int))/\1<=x.1.i-0+Int.toNat ((x.1.n:Int)+1-(x.1.i:Int))-x.1.i/\aiZ x/\I64 ((x.1.i:Int)+1)/\0<=(x.1.i:Int)+1/\(Int.toNat ((x.1.i:Int)+1)<=x.1.i-0+Int.toNat ((x.1.n:Int)+1-(x.1.i:Int))/\ai1 x)/\0<=(x.1.i:Int)/\(x.1.i<=x.1.n/\x.1.n<=x.2/\x.2<=x.2)/\0+Int.toNat ((x.1.i:Int)+1)+(x.1.i-0+Int.toNat ((x.1.n:Int)+1-(x.1.i:Int))-Int.toNat ((x.1.i:Int)+1))<=x.1.i-0+Int.toNat ((x.1.n:Int)+1-(x.1.i:Int))/\
 cP (Nat.ble (x.1.n-x.1.i) (x.1.i-0+Int.toNat ((x.1.n:Int)+1-(x.1.i:Int))-Int.toNat ((x.1.i:Int)+1))) (0+x.1.i+(x.1.n-x.1.i)<=x.2/\(∀k:Nat,k<x.1.n-x.1.i->aiY x k)/\True/\(aa2 x\/ ∃y:Unit,True/\(0=0/\RP x)/\anr x/\Fp x/\(RP x/\ ∀q:Nat,q<x.1.n+1->[Value.string (ZLnk.key (insL x.1.f x.1.i x.1.l q)),Value.int .u64 (ZLnk.id (insL x.1.f x.1.i x.1.l q)),Value.int .u64 (ZLnk.ver (insL x.1.f x.1.i x.1.l q)),Value.int .i64 (ZLnk.line (insL x.1.f x.1.i x.1.l q)),Value.int .i64 (ZLnk.cls (insL x.1.f x.1.i x.1.l q))]=Cs.eff (λ(p:Nat)=>cond (Nat.ble (0+Int.toNat ((x.1.i:Int)+1)) p&&Nat.blt p (0+Int.toNat ((x.1.i:Int)+1)+(x.1.n-x.1.i))) (Cs.eff (λ(q_1:Nat)=>cond (Nat.blt q_1 x.1.n) (ZLnk.cs (x.1.f q_1)) (@List.nil Value)) [] (0+x.1.i+(p-(0+Int.toNat ((x.1.i:Int)+1))))) (Cs.eff (λ(q_1:Nat)=>cond (Nat.blt q_1 (x.1.i-0)) (Cs.eff (λ(k:Nat)=>Cs.eff (λ(q_2:Nat)=>cond (Nat.blt q_2 x.1.n) (ZLnk.cs (x.1.f q_2)) (@List.nil Value)) [] (0+k)) [] q_1) [Value.string (ByteArray.mk #[]),Value.int .u64 0,Value.int .u64 0,Value.int .i64 0,Value.int .i64 0]) [(0+x.1.i,List.take 5 [Value.string x.1.l.key,Value.int .u64 x.1.l.id,Value.int .u64 x.1.l.ver,Value.int .i64 x.1.l.line,Value.int .i64 x.1.l.cls])] p)) [] q)/\True)) (0+x.1.i+(x.1.i-0+Int.toNat ((x.1.n:Int)+1-(x.1.i:Int))-Int.toNat ((x.1.i:Int)+1))<=x.2/\(∀k:Nat,k<x.1.i-0+Int.toNat ((x.1.n:Int)+1-(x.1.i:Int))-Int.toNat ((x.1.i:Int)+1)->aiY x k)/\True/\(aa2 x\/ ∃y:Unit,True/\(0=0/\RP x)/\anr x/\Fp x/\(RP x/\
 ∀q:Nat,q<x.1.n+1->[Value.string (ZLnk.key (insL x.1.f x.1.i x.1.l q)),Value.int .u64 (ZLnk.id (insL x.1.f x.1.i x.1.l q)),Value.int .u64 (ZLnk.ver (insL x.1.f x.1.i x.1.l q)),Value.int .i64 (ZLnk.line (insL x.1.f x.1.i x.1.l q)),Value.int .i64 (ZLnk.cls (insL x.1.f x.1.i x.1.l q))]=Cs.eff (λ(p:Nat)=>cond (Nat.ble (0+Int.toNat ((x.1.i:Int)+1)) p&&Nat.blt p (0+Int.toNat ((x.1.i:Int)+1)+(x.1.i-0+Int.toNat ((x.1.n:Int)+1-(x.1.i:Int))-Int.toNat ((x.1.i:Int)+1)))) (Cs.eff (λ(q_1:Nat)=>cond (Nat.blt q_1 x.1.n) (ZLnk.cs (x.1.f q_1)) (@List.nil Value)) [] (0+x.1.i+(p-(0+Int.toNat ((x.1.i:Int)+1))))) (Cs.eff (λ(q_1:Nat)=>cond (Nat.blt q_1 (x.1.i-0)) (Cs.eff (λ(k:Nat)=>Cs.eff (λ(q_2:Nat)=>cond (Nat.blt q_2 x.1.n) (ZLnk.cs (x.1.f q_2)) (@List.nil Value)) [] (0+k)) [] q_1) [Value.string (ByteArray.mk #[]),Value.int .u64 0,Value.int .u64 0,Value.int .i64 0,Value.int .i64 0]) [(0+x.1.i,List.take 5 [Value.string x.1.l.key,Value.int .u64 x.1.l.id,Value.int .u64 x.1.l.ver,Value.int .i64 x.1.l.line,Value.int .i64 x.1.l.cls])] p)) [] q)/\True))) (I64 ((x.1.n:Int)+1)/\0<=(x.1.n:Int)+1/\(0<=Int.toNat ((x.1.n:Int)+1)/\Int.toNat ((x.1.n:Int)+1)<=x.2/\x.2<=x.2)/\I64 ((x.1.i:Int)+1)/\0<=(x.1.i:Int)+1/\(Int.toNat ((x.1.i:Int)+1)<=Int.toNat ((x.1.n:Int)+1)-0/\aa0 x)/\0<x.2*5/\I64 ((x.1.i:Int)+1)/\0<=(x.1.i:Int)+1/\(Int.toNat ((x.1.i:Int)+1)<=Int.toNat ((x.1.n:Int)+1)-0/\aa0 x)/\0<=(x.1.i:Int)/\aa1 x/\0+Int.toNat ((x.1.i:Int)+1)+(Int.toNat ((x.1.n:Int)+1)-0-Int.toNat ((x.1.i:Int)+1))<=x.2/\
 cP (Nat.ble (Int.toNat ((x.1.n:Int)+1)-0-x.1.i) (Int.toNat ((x.1.n:Int)+1)-0-Int.toNat ((x.1.i:Int)+1))) (aa3 x/\(∀k:Nat,k<Int.toNat ((x.1.n:Int)+1)-0-x.1.i->aiY x k)/\True/\0<=(x.1.i:Int)/\aa1 x/\aa3 x/\1<=Int.toNat ((x.1.n:Int)+1)-0-x.1.i/\aiZ x/\((∃y:Unit,Hd (x.1.n+1<=x.2)/\(0=0/\x.1.n+1=Int.toNat ((x.1.n:Int)+1)-0/\x.2=x.2-0)/\(x.2=x.2/\ ∀q:Nat,q<x.2->Cs.eff (λ(q_1:Nat)=>cond (Nat.blt q_1 (x.1.n+1)) (ZLnk.cs (insL x.1.f x.1.i x.1.l q_1)) (@List.nil Value)) [] q=Cs.eff (λ(p:Nat)=>cond (Nat.ble (0+Int.toNat ((x.1.i:Int)+1)) p&&Nat.blt p (0+Int.toNat ((x.1.i:Int)+1)+(Int.toNat ((x.1.n:Int)+1)-0-x.1.i))) (Cs.eff (λ(q_1:Nat)=>cond (Nat.blt q_1 x.1.n) (ZLnk.cs (x.1.f q_1)) (@List.nil Value)) [] (0+x.1.i+(p-(0+Int.toNat ((x.1.i:Int)+1))))) (Cs.eff (λ(q_1:Nat)=>cond (Nat.blt q_1 x.1.n) (ZLnk.cs (x.1.f q_1)) (@List.nil Value)) [] p)) [(0+x.1.i,List.take 5 [Value.string x.1.l.key,Value.int .u64 x.1.l.id,Value.int .u64 x.1.l.ver,Value.int .i64 x.1.l.line,Value.int .i64 x.1.l.cls])] q)/\Fp x/\True)\/ ∃y:Unit,True/\False/\(x.2=x.2/\
 ∀q:Nat,q<x.2->Cs.eff (λ(q_1:Nat)=>cond (Nat.blt q_1 x.1.n) (ZLnk.cs (x.1.f q_1)) (@List.nil Value)) [] q=Cs.eff (λ(p:Nat)=>cond (Nat.ble (0+Int.toNat ((x.1.i:Int)+1)) p&&Nat.blt p (0+Int.toNat ((x.1.i:Int)+1)+(Int.toNat ((x.1.n:Int)+1)-0-x.1.i))) (Cs.eff (λ(q_1:Nat)=>cond (Nat.blt q_1 x.1.n) (ZLnk.cs (x.1.f q_1)) (@List.nil Value)) [] (0+x.1.i+(p-(0+Int.toNat ((x.1.i:Int)+1))))) (Cs.eff (λ(q_1:Nat)=>cond (Nat.blt q_1 x.1.n) (ZLnk.cs (x.1.f q_1)) (@List.nil Value)) [] p)) [(0+x.1.i,List.take 5 [Value.string x.1.l.key,Value.int .u64 x.1.l.id,Value.int .u64 x.1.l.ver,Value.int .i64 x.1.l.line,Value.int .i64 x.1.l.cls])] q)/\Fp x/\False/\True)) (0+x.1.i+(Int.toNat ((x.1.n:Int)+1)-0-Int.toNat ((x.1.i:Int)+1))<=x.2/\(∀k:Nat,k<Int.toNat ((x.1.n:Int)+1)-0-Int.toNat ((x.1.i:Int)+1)->aiY x k)/\True/\0<=(x.1.i:Int)/\aa1 x/\aa3 x/\1<=Int.toNat ((x.1.n:Int)+1)-0-x.1.i/\aiZ x/\((∃y:Unit,Hd (x.1.n+1<=x.2)/\(0=0/\x.1.n+1=Int.toNat ((x.1.n:Int)+1)-0/\x.2=x.2-0)/\(x.2=x.2/\
 ∀q:Nat,q<x.2->Cs.eff (λ(q_1:Nat)=>cond (Nat.blt q_1 (x.1.n+1)) (ZLnk.cs (insL x.1.f x.1.i x.1.l q_1)) (@List.nil Value)) [] q=Cs.eff (λ(p:Nat)=>cond (Nat.ble (0+Int.toNat ((x.1.i:Int)+1)) p&&Nat.blt p (0+Int.toNat ((x.1.i:Int)+1)+(Int.toNat ((x.1.n:Int)+1)-0-Int.toNat ((x.1.i:Int)+1)))) (Cs.eff (λ(q_1:Nat)=>cond (Nat.blt q_1 x.1.n) (ZLnk.cs (x.1.f q_1)) (@List.nil Value)) [] (0+x.1.i+(p-(0+Int.toNat ((x.1.i:Int)+1))))) (Cs.eff (λ(q_1:Nat)=>cond (Nat.blt q_1 x.1.n) (ZLnk.cs (x.1.f q_1)) (@List.nil Value)) [] p)) [(0+x.1.i,List.take 5 [Value.string x.1.l.key,Value.int .u64 x.1.l.id,Value.int .u64 x.1.l.ver,Value.int .i64 x.1.l.line,Value.int .i64 x.1.l.cls])] q)/\Fp x/\True)\/ ∃y:Unit,True/\False/\(x.2=x.2/\ ∀q:Nat,q<x.2->Cs.eff (λ(q_1:Nat)=>cond (Nat.blt q_1 x.1.n) (ZLnk.cs (x.1.f q_1)) (@List.nil Value)) [] q=Cs.eff (λ(p:Nat)=>cond (Nat.ble (0+Int.toNat ((x.1.i:Int)+1)) p&&Nat.blt p (0+Int.toNat ((x.1.i:Int)+1)+(Int.toNat ((x.1.n:Int)+1)-0-Int.toNat ((x.1.i:Int)+1)))) (Cs.eff (λ(q_1:Nat)=>cond (Nat.blt q_1 x.1.n) (ZLnk.cs (x.1.f q_1)) (@List.nil Value)) [] (0+x.1.i+(p-(0+Int.toNat ((x.1.i:Int)+1))))) (Cs.eff (λ(q_1:Nat)=>cond (Nat.blt q_1 x.1.n) (ZLnk.cs (x.1.f q_1)) (@List.nil Value)) [] p)) [(0+x.1.i,List.take 5 [Value.string x.1.l.key,Value.int .u64 x.1.l.id,Value.int .u64 x.1.l.ver,Value.int .i64 x.1.l.line,Value.int .i64 x.1.l.cls])] q)/\Fp x/\False/\True))))
theorem adz(x:ZIn×Nat):WO x=wpF Tryz.prog anq tt (noA x) 200 6 281 (WM.args x) (hO WM.k (WM.os x)) (λv h'=>eX WM.k x v h' WM.outs):=by kernel_rfl
theorem ai2(l:ZLnk):(@List.all (List Value) [List.take 5 [Value.string l.key,Value.int .u64 l.id,Value.int .u64 l.ver,Value.int .i64 l.line,Value.int .i64 l.cls]] (λl=>Nat.beq l.length 5&&List.all l Value.oneCell'))=true:=rfl
theorem ji{a b:Nat}(h: ¬a<b):Nat.blt a b=false:=by
 cases hb:Nat.blt a b
 ·rfl
 ·exact absurd (bg.1 hb) h
theorem Je{a b:Nat}(h: ¬a<=b):Nat.ble a b=false:=by
 cases hb:Nat.ble a b
 ·rfl
 ·exact absurd (Nat.le_of_ble_eq_true hb) h
theorem zU{f:Nat->ZLnk}{i q:Nat}{x:ZLnk}(h:q<i):insL f i x q=f q:=by unfold insL;rw[bg.2 h];rfl
theorem rP{f:Nat->ZLnk}{i:Nat}{x:ZLnk}:insL f i x i=x:=by unfold insL;rw[ji (Nat.lt_irrefl i)];simp
theorem Fq{f:Nat->ZLnk}{i q:Nat}{x:ZLnk}(h:i<q):insL f i x q=f (q-1):=by unfold insL;rw[ji (by omega),fC (by omega)];rfl
theorem RQ(x:ZIn×Nat)(hx:x.1.i<=x.1.n/\x.1.n<=x.2/\x.1.n<=300):WO x:=by
 obtain⟨⟨n,f,i,l⟩,c⟩:=x;obtain⟨h1,h2,h3⟩:=hx;dsimp only at h1 h2 h3;unfold WO;simp only[aiZ,Fp,aa2,anr,ai1,aiY,RP,aa0,aa1,aa3,ai0];have e1:(((n:Nat):Int)+1-(i:Int)).toNat=n+1-i:=by omega
 have e2:((i:Int)+1).toNat=i+1:=by omega
 have e3:((n:Int)+1).toNat=n+1:=by omega
 have e4:i+(n+1-i)=n+1:=by omega
 simp only[aZ,aV,aU,aA,aI,bU,bG,aO,aK,ay,aX,aW,aN,e1,e2,e3,e4,ai2];have hb: ∀a b:Nat,a<=b->Nat.ble a b=true:=λa b h=>by simpa using h
 simp only[Cs.eff];refine⟨by omega,⟨by omega,by omega,by omega⟩,bf (λhi=> ?_) (λhi=> ?_)⟩
 ·have hi:i=n:=by have:=eq_of_beq hi;omega
  subst hi;have row: ∀q,q<i+1->(insL f i l q).cs=(bif Nat.beq q i then l.cs else(bif Nat.blt q i then(f q).cs else [])):=λq hq=>by
   by_cases h:q=i
   ·subst h;simp[rP]
   ·rw[fC h,bg.2 (show q<i by omega),zU (by omega)];rfl
  refine⟨by omega,bf (λhc=> ?_) (λhc=> ?_)⟩
  ·have hc:i+1<=c:=by simpa using hc
   refine⟨by omega,.inl ⟨hc,λq hq=> ?_⟩⟩;by_cases h:q<i+1
   ·rw[bg.2 h,aP];exact row q h
   ·rw[ji h,ji (show¬q<i by omega),fC (by omega)];rfl
  ·exact⟨by omega,.inr ⟨by simp,λq hq=>row q hq⟩⟩
 ·have hi:i<n:=by
   rcases Nat.lt_or_ge i n with h|h
   ·exact h
   ·have:i=n:=by omega
    subst this;simp at hi
  have old: ∀k,k<n-i->(Nat.beq (bif Nat.blt (i+k) n then(f (i+k)).cs else []).length 5&&(bif Nat.blt (i+k) n then(f (i+k)).cs else []).all Value.oneCell')=true:=λk hk=>by
   rw[bg.2 (show i+k<n by omega)];rfl
  refine⟨by unfold I64;omega,bf (λhc=> ?_) (λhc=> ?_)⟩
  ·have hc:=aS hc
   refine⟨by omega,⟨by omega,by omega,by omega⟩,by unfold I64;omega,by unfold I64;omega,by omega,by omega,by omega,by omega,by omega,⟨by omega,by omega⟩,by omega,by omega,by unfold I64;omega,by omega,⟨by omega,by omega⟩,by omega,⟨by omega,by omega,by omega⟩,by omega,?_⟩;have fin: ∀N,N=n-i-> ∀q,q<n+1->(insL f i l q).cs=(bif Nat.ble (i+1) q&&Nat.blt q (i+1+N)then(bif Nat.blt (i+(q-(i+1))) n then(f (i+(q-(i+1)))).cs else [])else(bif Nat.beq q i then l.cs else(bif Nat.blt q i then(bif Nat.blt q n then(f q).cs else [])else iQ.cs))):=by
    rintro N rfl q hq
    by_cases h1:q<i
    ·rw[Je (show¬i+1<=q by omega),fC (show q≠i by omega),bg.2 h1,bg.2 (show q<n by omega),zU h1];rfl
    ·by_cases h2:q=i
     ·subst h2
      rw[Je (show¬q+1<=q by omega),rP];simp
     ·rw[hb _ _ (show i+1<=q by omega),bg.2 (show q<i+1+(n-i) by omega),bg.2 (show i+(q-(i+1))<n by omega),Fq (by omega),show i+(q-(i+1))=q-1 by omega];rfl
   refine bf (λhb2=>⟨by omega,old,.inr (λq hq=>fin _ rfl q hq)⟩) (λhb2=> ?_);exact absurd (Nat.ble_eq_true_of_le (show n-i<=n+1-(i+1) by omega)) (by rw[hb2];decide)
  ·have hc:=aT hc
   have en:n+1-(i+1)=n-i:=by omega
   rw[en];refine⟨by unfold I64;omega,by omega,⟨by omega,by omega,by omega⟩,by unfold I64;omega,by omega,⟨by omega,by omega,by omega⟩,by omega,by unfold I64;omega,by omega,⟨by omega,by omega,by omega⟩,by omega,⟨by omega,by omega,by omega⟩,by omega,bf (λhb2=> ?_) (λ_=>⟨by omega,old,by omega,⟨by omega,by omega,by omega⟩,by omega,by omega,.inl ⟨by omega,λq hq=> ?_⟩⟩)⟩
   ·have:=Nat.le_of_ble_eq_true hb2;omega
   ·by_cases h0:q<n+1
    ·rw[bg.2 h0,aP]
     by_cases h1:q<i
     ·rw[Je (show¬i+1<=q by omega),fC (show q≠i by omega),bg.2 (show q<n by omega),zU h1];rfl
     ·by_cases h2:q=i
      ·subst h2
       rw[rP];simp[ZLnk.cs]
      ·rw[fC h2,hb _ _ (show i+1<=q by omega),bg.2 (show q<i+1+(n-i) by omega),bg.2 (show i+(q-(i+1))<n by omega),Fq (by omega),show i+(q-(i+1))=q-1 by omega];rfl
    ·rw[ji h0,fC (show q≠i by omega),ji (show¬q<i+1+(n-i) by omega),ji (show¬q<n by omega)];simp
theorem ant:cO Tryz.prog 281 WM:=iP dG mixed Lm (C:=WM) noA 200 6 (λ_=>rfl) (λ_=>⟨λ_=>rfl,λ_=>rfl,trivial⟩) λx hx=>Eq.mp (adz x) (RQ x (aZ.1 hx))
theorem adA(x:ZIn)(c:Nat): ∀q,q<x.n+1->(bif Nat.blt q (x.n+1)then(insL x.f x.i x.l q).cs else [])=(insL x.f x.i x.l q).cs:=λq hq=>by rw[bg.2 hq];rfl
theorem asf:cO Tryz.prog 281 insLC:=λx hx=>⟨rfl,by
 have hx:=aZ.1 hx;refine Bh (P6 (k:=2) (e:=41) (g:=λk=>(x.f k).cs) (wr:=[]) (os:=[rO x.l]) rfl λc hc=> ?_);refine((ant (x,c) (aZ.2 ⟨hx.1,hc,hx.2⟩)).2).mono λv h' hh=> ?_
 refine⟨.slW 2 0 5 (x.n+1),hO 3 [.abs Ce,rO x.l,zT (x.n+1) (insL x.f x.i x.l)],?_,by with_unfolding_all exact Or.inl ⟨(),trivial,rfl,rfl⟩⟩;have hh:(∃y:Unit,Hd (x.n+1<=c)/\v= .slE 0 0 5 (x.n+1) c/\h'=hO 2 [.room 41 (aiX x c),rO x.l])\/(∃y:Unit,True/\v= .slW 2 0 5 (x.n+1)/\h'=hO 3 [.room 41 (ase x c),rO x.l,zT (x.n+1) (insL x.f x.i x.l)])\/False:=by
  with_unfolding_all exact hh
 rcases hh with ⟨_,h1,rfl,rfl⟩|⟨_,_,rfl,rfl⟩|hh
 ·refine(P5 (k:=2) (rest:=[rO x.l]) rfl (aZ.1 h1)).trans ?_
  refine uP (m:=3) rfl rfl (by decide) λi o o' hi hi'=> ?_
  match i,hi,hi' with
  |0,hi,hi'=>cases hi;cases hi';exactλ_ _ _ _ _ h=>h
  |1,hi,hi'=>cases hi;cases hi';exactλ_ _ _ _ _ h=>h
  |2,hi,hi'=>cases hi;cases hi';exact En (adA x c)
 ·exact amd (m:=3) rfl (show(2:Nat)<=3 by decide)
 ·exact hh.elim⟩
noncomputable section
structure ZDl where
 n:Nat
 f:Nat->ZLnk
 i:Nat
def Jf(f:Nat->ZLnk)(i:Nat)(q:Nat):ZLnk:=bif Nat.blt q i then f q else f (q+1)
def openD(x:ZDl)(c:Nat):Cs:= .row 5 c (λq=>bif Nat.blt q x.n then(x.f q).cs else []) []
def cutD(x:ZDl)(c:Nat):Cs:= .row 5 c (λq=>bif Nat.blt q (x.n-1)then(Jf x.f x.i q).cs else bif Nat.blt q x.n then iQ.cs else []) []
def adB:Ctr:=det (ZDl×Nat) (λx=>[.slE 0 0 5 x.1.n x.2,i64 x.1.i,i64 ((x.1.i:Int)+1)]) 1 (λx=>[.room 41 (openD x.1 x.2)]) (λx=>Hd (x.1.i<x.1.n/\x.1.n<=x.2/\x.1.n<=300)) (λx=> .slE 0 0 5 (x.1.n-1) x.2) 1 (λx=>[.room 41 (cutD x.1 x.2)])
def delLC:Ctr:=det ZDl (λx=>[.slW 0 0 5 x.n,i64 x.i,i64 ((x.i:Int)+1)]) 1 (λx=>[zT x.n x.f]) (λx=>Hd (x.i<x.n/\x.n<=300)) (λx=> .slW 1 0 5 (x.n-1)) 2 (λx=>[.abs Ce,zT (x.n-1) (Jf x.f x.i)])
end
def asg(a:ZDl×Nat):Prop:=(a.2=a.2/\ ∀q:Nat,q<a.2->Cs.eff (λ(q_1:Nat)=>cond (Nat.blt q_1 (a.1.n-1)) (ZLnk.cs (Jf a.1.f a.1.i q_1)) (cond (Nat.blt q_1 a.1.n) iQ.cs (@List.nil Value))) [] q=Cs.eff (λ(q_1:Nat)=>cond (Nat.blt q_1 a.1.n) (ZLnk.cs (a.1.f q_1)) (@List.nil Value)) [] q)/\True
def WQ(x:ZDl×Nat):Prop:=
 0<=(x.1.n:Int)/\0<=(x.1.i:Int)+1/\0<=(x.1.i:Int)/\(x.1.i<=Int.toNat ((x.1.i:Int)+1)/\Int.toNat ((x.1.i:Int)+1)<=x.1.n/\x.1.n<=x.2)/\cP (BEq.beq (x.1.i:Int) ((x.1.i:Int)+1)) (∃y:Unit,True/\(0=0/\x.1.n-1=x.1.n/\x.2=x.2)/\asg x) (0<=(x.1.i:Int)/\(0<=x.1.i/\x.1.i<=x.2/\x.2<=x.2)/\0<=(x.1.i:Int)+1/\(Int.toNat ((x.1.i:Int)+1)<=x.1.n/\x.1.n<=x.2/\x.2<=x.2)/\0+(x.1.i-0)<=x.2/\0+Int.toNat ((x.1.i:Int)+1)+(x.1.n-Int.toNat ((x.1.i:Int)+1))<=x.2/\cP (Nat.beq (x.1.n-Int.toNat ((x.1.i:Int)+1)) 0) (True/\True/\0<=(x.1.n:Int)/\0<=((x.1.i-0:Nat):Int)/\(x.1.i-0<=x.1.n/\x.1.n<=x.2-0/\x.2-0<=x.2-0)/\0+(x.1.i-0)+(x.1.n-(x.1.i-0))<=x.2/\ ∃y:Unit,True/\(0=0/\x.1.n-1=x.1.i-0/\x.2=x.2-0)/\(x.2=x.2/\ ∀q:Nat,q<x.2->Cs.eff (λ(q_1:Nat)=>cond (Nat.blt q_1 (x.1.n-1)) (ZLnk.cs (Jf x.1.f x.1.i q_1)) (cond (Nat.blt q_1 x.1.n) iQ.cs (@List.nil Value))) [] q=Cs.eff (λ(p:Nat)=>cond (Nat.ble (0+(x.1.i-0)) p&&Nat.blt p (0+(x.1.i-0)+(x.1.n-(x.1.i-0)))) [Value.string (ByteArray.mk #[]),Value.int .u64 0,Value.int .u64 0,Value.int .i64 0,Value.int .i64 0] (Cs.eff (λ(q_1:Nat)=>cond (Nat.blt q_1 x.1.n) (ZLnk.cs (x.1.f q_1)) (@List.nil Value)) [] p)) [] q)/\
 True) (cP (Nat.ble (x.1.i-0+(x.1.n-Int.toNat ((x.1.i:Int)+1))) (x.2-0)) ((∀k:Nat,k<x.1.n-Int.toNat ((x.1.i:Int)+1)->(Nat.beq (List.length (Cs.eff (λ(q:Nat)=>cond (Nat.blt q x.1.n) (ZLnk.cs (x.1.f q)) (@List.nil Value)) [] (0+Int.toNat ((x.1.i:Int)+1)+k))) 5&&List.all (Cs.eff (λ(q:Nat)=>cond (Nat.blt q x.1.n) (ZLnk.cs (x.1.f q)) (@List.nil Value)) [] (0+Int.toNat ((x.1.i:Int)+1)+k)) Value.oneCell')=true)/\0+(x.1.i-0+(x.1.n-Int.toNat ((x.1.i:Int)+1)))<=x.2/\True/\True/\0<=(x.1.n:Int)/\0<=((x.1.i-0+(x.1.n-Int.toNat ((x.1.i:Int)+1)):Nat):Int)/\(x.1.i-0+(x.1.n-Int.toNat ((x.1.i:Int)+1))<=x.1.n/\x.1.n<=x.2-0/\x.2-0<=x.2-0)/\0+(x.1.i-0+(x.1.n-Int.toNat ((x.1.i:Int)+1)))+(x.1.n-(x.1.i-0+(x.1.n-Int.toNat ((x.1.i:Int)+1))))<=x.2/\ ∃y:Unit,True/\(0=0/\x.1.n-1=x.1.i-0+(x.1.n-Int.toNat ((x.1.i:Int)+1))/\x.2=x.2-0)/\(x.2=x.2/\
 ∀q:Nat,q<x.2->Cs.eff (λ(q_1:Nat)=>cond (Nat.blt q_1 (x.1.n-1)) (ZLnk.cs (Jf x.1.f x.1.i q_1)) (cond (Nat.blt q_1 x.1.n) iQ.cs (@List.nil Value))) [] q=Cs.eff (λ(p:Nat)=>cond (Nat.ble (0+(x.1.i-0+(x.1.n-Int.toNat ((x.1.i:Int)+1)))) p&&Nat.blt p (0+(x.1.i-0+(x.1.n-Int.toNat ((x.1.i:Int)+1)))+(x.1.n-(x.1.i-0+(x.1.n-Int.toNat ((x.1.i:Int)+1)))))) [Value.string (ByteArray.mk #[]),Value.int .u64 0,Value.int .u64 0,Value.int .i64 0,Value.int .i64 0] (Cs.eff (λ(p_1:Nat)=>cond (Nat.ble (0+(x.1.i-0)) p_1&&Nat.blt p_1 (0+(x.1.i-0)+(x.1.n-Int.toNat ((x.1.i:Int)+1)))) (Cs.eff (λ(q_1:Nat)=>cond (Nat.blt q_1 x.1.n) (ZLnk.cs (x.1.f q_1)) (@List.nil Value)) [] (0+Int.toNat ((x.1.i:Int)+1)+(p_1-(0+(x.1.i-0))))) (Cs.eff (λ(q_1:Nat)=>cond (Nat.blt q_1 x.1.n) (ZLnk.cs (x.1.f q_1)) (@List.nil Value)) [] p_1)) [] p)) [] q)/\True) ((2*(x.1.i-0+(x.1.n-Int.toNat ((x.1.i:Int)+1)))+1000)*48<=281474976710656/\True/\True/\0<=(x.1.n:Int)/\0<=((x.1.i-0+(x.1.n-Int.toNat ((x.1.i:Int)+1)):Nat):Int)/\(x.1.i-0+(x.1.n-Int.toNat ((x.1.i:Int)+1))<=x.1.n/\x.1.n<=x.1.i-0+(x.1.n-Int.toNat ((x.1.i:Int)+1))/\x.1.i-0+(x.1.n-Int.toNat ((x.1.i:Int)+1))<=x.1.i-0+(x.1.n-Int.toNat ((x.1.i:Int)+1)))/\0+(x.1.i-0+(x.1.n-Int.toNat ((x.1.i:Int)+1)))+(x.1.n-(x.1.i-0+(x.1.n-Int.toNat ((x.1.i:Int)+1))))<=x.1.i-0+(x.1.n-Int.toNat ((x.1.i:Int)+1))/\ ∃y:Unit,True/\False/\asg x)))
theorem adC(x:ZDl×Nat):WQ x=wpF Tryz.prog anq tt (noA x) 200 6 282 (adB.args x) (hO adB.k (adB.os x)) (λv h'=>eX adB.k x v h' adB.outs):=by kernel_rfl
theorem RS(x:ZDl×Nat)(hx:x.1.i<x.1.n/\x.1.n<=x.2/\x.1.n<=300):WQ x:=by
 obtain⟨⟨n,f,i⟩,c⟩:=x;obtain⟨h1,h2,h3⟩:=hx;dsimp only at h1 h2 h3;unfold WQ;simp only[asg];have e2:((i:Int)+1).toNat=i+1:=by omega
 simp only[aZ,aV,aU,aA,aI,bU,bG,aO,aK,ay,aX,aW,aN,e2];have hb: ∀a b:Nat,a<=b->Nat.ble a b=true:=λa b h=>by simpa using h
 simp only[Cs.eff];refine⟨by omega,by omega,by omega,⟨by omega,by omega,by omega⟩,bf (λh=> ?_) λ_=>⟨by omega,⟨by omega,by omega,by omega⟩,by omega,⟨by omega,by omega,by omega⟩,by omega,by omega,bf (λh=> ?_) λh=>bf (λ_=> ?_) λhb2=> ?_⟩⟩
 ·exact absurd (eq_of_beq h) (by omega)
 ·have hn:n=i+1:=by have:=au h;omega
  subst hn;refine⟨by omega,by omega,⟨by omega,by omega,by omega⟩,by omega,by omega,λq hq=> ?_⟩;by_cases h1:q<i
  ·rw[bg.2 (show q<i+1-1 by omega),Je (show¬i<=q by omega),bg.2 (show q<i+1 by omega)]
   unfold Jf;rw[bg.2 h1];rfl
  ·by_cases h2:q=i
   ·rw[ji (show¬q<i+1-1 by omega),hb _ _ (show i<=q by omega),bg.2 (show q<i+1 by omega),bg.2 (show q<i+(i+1-i) by omega)];rfl
   ·rw[ji (show¬q<i+1-1 by omega),ji (show¬q<i+1 by omega),ji (show¬q<i+(i+1-i) by omega),hb _ _ (show i<=q by omega)];rfl
 ·have hlt:i+1<n:=by
   rcases Nat.lt_or_ge (i+1) n with g|g
   ·exact g
   ·have:n-(i+1)=0:=by omega
    rw[this]at h;cases h
  refine⟨λk hk=> ?_,by omega,by omega,by omega,⟨by omega,by omega,by omega⟩,by omega,by omega,λq hq=> ?_⟩
  ·rw[bg.2 (show i+1+k<n by omega)];rfl
  ·by_cases h1:q<n-1
   ·rw[bg.2 h1,Je (show¬i+(n-(i+1))<=q by omega)]
    by_cases h4:q<i
    ·rw[Je (show¬i<=q by omega),bg.2 (show q<n by omega)]
     unfold Jf;rw[bg.2 h4];rfl
    ·rw[hb _ _ (show i<=q by omega),bg.2 (show q<i+(n-(i+1)) by omega),bg.2 (show i+1+(q-i)<n by omega),show i+1+(q-i)=q+1 by omega]
     unfold Jf;rw[ji h4];rfl
   ·by_cases h4:q<n
    ·rw[ji h1,bg.2 h4,hb _ _ (show i+(n-(i+1))<=q by omega),bg.2 (show q<i+(n-(i+1))+(n-(i+(n-(i+1)))) by omega)];rfl
    ·rw[ji h1,ji h4,hb _ _ (show i+(n-(i+1))<=q by omega),ji (show¬q<i+(n-(i+1))+(n-(i+(n-(i+1)))) by omega),hb _ _ (show i<=q by omega),ji (show¬q<i+(n-(i+1)) by omega)];rfl
 ·exact absurd (Nat.ble_eq_true_of_le (show i+(n-(i+1))<=c by omega)) (by rw[hb2];decide)
theorem anu:cO Tryz.prog 282 adB:=dM dG mixed Lm noA 200 6 (λ_=>rfl) (λ_=>rfl) λx hx=>Eq.mp (adC x) (RS x (aZ.1 hx))
theorem ash(x:ZDl)(c:Nat): ∀q,q<x.n-1->(bif Nat.blt q (x.n-1)then(Jf x.f x.i q).cs else bif Nat.blt q x.n then iQ.cs else [])=(Jf x.f x.i q).cs:=λq hq=>by rw[bg.2 hq];rfl
theorem asi:cO Tryz.prog 282 delLC:=λx hx=>⟨rfl,by
 have hx:=aZ.1 hx;refine Bh (P6 (k:=1) (e:=41) (g:=λk=>(x.f k).cs) (wr:=[]) (os:=[]) rfl λc hc=> ?_);refine((anu (x,c) (aZ.2 ⟨hx.1,hc,hx.2⟩)).2).mono λv h' hh=> ?_
 refine⟨.slW 1 0 5 (x.n-1),hO 2 [.abs Ce,zT (x.n-1) (Jf x.f x.i)],?_,by with_unfolding_all exact Or.inl ⟨(),trivial,rfl,rfl⟩⟩;have hh:(∃y:Unit,True/\v= .slE 0 0 5 (x.n-1) c/\h'=hO 1 [.room 41 (cutD x c)])\/False:=by
  with_unfolding_all exact hh
 rcases hh with ⟨_,h1,rfl,rfl⟩|hh
 ·refine(P5 (k:=1) (rest:=[]) rfl (show x.n-1<=c by omega)).trans ?_
  refine uP (m:=2) rfl rfl (by decide) λi o o' hi hi'=> ?_
  match i,hi,hi' with
  |0,hi,hi'=>cases hi;cases hi';exactλ_ _ _ _ _ h=>h
  |1,hi,hi'=>cases hi;cases hi';exact En (ash x c)
 ·exact hh.elim⟩
def Lp(s:ByteArray):Prop:=
 ∃x:ByteArray,x.size<1099511627776/\(x=s/\True)/\True/\ ∀y:Unit,True->((8:Int)=0->False)/\I64 (Int.tmod (oH x) (8:Int))/\ ∃y_1:Unit,True/\((bkt s:Nat):Int)=Int.tmod (oH x) (8:Int)/\True
theorem WR(s:ByteArray):Lp s=wpF Tryz.prog asa tt (noA s) 200 5 183 (Fh.args s) (hO 0 (Fh.os s)) (λv h'=>eX 0 s v h' Fh.outs):=by kernel_rfl
def WS(s:ByteArray):Prop:=
 ∃x:ByteArray,x.size<1099511627776/\(x=s/\True)/\True/\ ∀y:Unit,True->I64 (31:Int)/\(0:Int)<=31/\cP (BEq.beq (IntKind.wrap .u32 ((@BitVec.toNat 32 (@HAnd.hAnd (@BitVec 32) (@BitVec 32) (@BitVec 32) (@instHAndOfAndOp (@BitVec 32) (@BitVec.instAndOp 32)) (@BitVec.ofInt 32 (Int.fdiv (oH x) (2147483648:Int))) (@BitVec.ofInt 32 (1:Int))):Nat):Int)) (0:Int)) ((∃y_1:Unit,Hd (lvl s=1)/\(1:Int)=1/\True)\/(∃y_1:Unit,Hd (lvl s=2)/\(2:Int)=1/\True)\/(∃y_1:Unit,Hd (lvl s=3)/\(3:Int)=1/\True)\/ ∃y_1:Unit,Hd (lvl s=4)/\(4:Int)=1/\True) (I64 (2:Int)/\I64 (1:Int)/\I64 (30:Int)/\(0:Int)<=30/\cP (BEq.beq (IntKind.wrap .u32 ((@BitVec.toNat 32 (@HAnd.hAnd (@BitVec 32) (@BitVec 32) (@BitVec 32) (@instHAndOfAndOp (@BitVec 32) (@BitVec.instAndOp 32)) (@BitVec.ofInt 32 (Int.fdiv (oH x) (1073741824:Int))) (@BitVec.ofInt 32 (1:Int))):Nat):Int)) (0:Int)) ((∃y_1:Unit,Hd (lvl s=1)/\(1:Int)=2/\True)\/(∃y_1:Unit,Hd (lvl s=2)/\(2:Int)=2/\True)\/(∃y_1:Unit,Hd (lvl s=3)/\(3:Int)=2/\True)\/ ∃y_1:Unit,Hd (lvl s=4)/\(4:Int)=2/\True) (I64 (3:Int)/\I64 (2:Int)/\I64 (29:Int)/\(0:Int)<=29/\cP (BEq.beq (IntKind.wrap .u32 ((@BitVec.toNat 32 (@HAnd.hAnd (@BitVec 32) (@BitVec 32) (@BitVec 32) (@instHAndOfAndOp (@BitVec 32) (@BitVec.instAndOp 32)) (@BitVec.ofInt 32 (Int.fdiv (oH x) (536870912:Int))) (@BitVec.ofInt 32 (1:Int))):Nat):Int)) (0:Int)) ((∃y_1:Unit,Hd (lvl s=1)/\(1:Int)=3/\True)\/(∃y_1:Unit,Hd (lvl s=2)/\(2:Int)=3/\True)\/(∃y_1:Unit,Hd (lvl s=3)/\(3:Int)=3/\True)\/ ∃y_1:Unit,Hd (lvl s=4)/\(4:Int)=3/\True) (I64 (4:Int)/\I64 (3:Int)/\((∃y_1:Unit,Hd (lvl s=1)/\
 (1:Int)=4/\True)\/(∃y_1:Unit,Hd (lvl s=2)/\(2:Int)=4/\True)\/(∃y_1:Unit,Hd (lvl s=3)/\(3:Int)=4/\True)\/ ∃y_1:Unit,Hd (lvl s=4)/\(4:Int)=4/\True))))
theorem adD(s:ByteArray):WS s=wpF Tryz.prog asa tt (noA s) 200 5 279 (aaW.args s) (hO 0 (aaW.os s)) (λv h'=>eX 0 s v h' aaW.outs):=by kernel_rfl
theorem aa4:dZ Tryz.prog asa:= .cons (bP aq5) .nil
theorem Lr(s:ByteArray)(hs:s.size<1099511627776):Lp s:=by
 obtain⟨u1,u2⟩:=aq4 s;have e:(oH s).tmod 8=oH s%8:=Int.tmod_eq_emod_of_nonneg u1;unfold Lp;simp only[aZ,aV,aU,aA,aI,bU,bG,aO,aK,ay,aX,aW,bV,bH,bJ,bK,bW,bC,bM,bn,eY,aH,aN,ah,ak,aB,aF,aC,aG];refine⟨s,hs,rfl,by decide,?_,?_⟩
 ·rw[e];unfold I64;omega
 ·rw[apI,e];omega
theorem RU(s:ByteArray)(hs:s.size<1099511627776):WS s:=by
 have i: ∀z:Int,0<=z->z<=100->I64 z:=λz a b=>by unfold I64;omega
 unfold WS;simp only[aZ,aV,aU,aA,aI,bU,bG,aO,aK,ay,aX,aW,bV,bH,bJ,bK,bW,bC,bM,bn,eY,aH,aN,ah,ak,aB,aF,aC,aG];refine⟨s,hs,rfl,i _ (by decide) (by decide),by decide,bf (λh=> .inl ?_) λh1=>⟨i _ (by decide) (by decide),i _ (by decide) (by decide),i _ (by decide) (by decide),by decide,bf (λh=> .inr (.inl ?_)) λh2=>⟨i _ (by decide) (by decide),i _ (by decide) (by decide),i _ (by decide) (by decide),by decide,bf (λh=> .inr (.inr (.inl ?_))) λh3=>⟨i _ (by decide) (by decide),i _ (by decide) (by decide),.inr (.inr (.inr ?_))⟩⟩⟩⟩
 ·rw[RI];unfold ar9;exact if_pos h
 ·rw[RI];unfold ar9;rw[if_neg (by rw[show ani (oH s) 2147483648=false from h1];decide)];exact if_pos h
 ·rw[RI];unfold ar9;rw[if_neg (by rw[show ani (oH s) 2147483648=false from h1];decide),if_neg (by rw[show ani (oH s) 1073741824=false from h2];decide)];exact if_pos h
 ·rw[RI];unfold ar9;rw[if_neg (by rw[show ani (oH s) 2147483648=false from h1];decide),if_neg (by rw[show ani (oH s) 1073741824=false from h2];decide)];exact if_neg (by rw[show ani (oH s) 536870912=false from h3];decide)
theorem RV:cO Tryz.prog 183 Fh:=dM dG mixed aa4 noA 200 5 (λ_=>rfl) (λ_=>rfl) λx hx=>Eq.mp (WR x) (Lr x (aZ.1 hx))
theorem anv:cO Tryz.prog 279 aaW:=iP dG mixed aa4 noA 200 5 (λ_=>rfl) (λ_=>⟨λ_=>rfl,λ_=>rfl,λ_=>rfl,λ_=>rfl,trivial⟩) λx hx=>Eq.mp (adD x) (RU x (aZ.1 hx))
structure ai3 (X:Type) where
 Y:Type
 post:X->Y->Prop
 ret:X->Y->AV
 L:X->Y->Lks
 m:Nat
 ex:X->Y->List dF
structure aeW where
 X:Type
 args:X->List AV
 L:X->Lks
 pre:X->Prop
 outs:List (ai3 X)
noncomputable def ai3.po{X:Type}(L0:X->Lks)(o:ai3 X):acs (X×iY):={Y:=o.Y×iY,post:=λx y=>o.post x.1 y.1/\Hd (lJ (o.L x.1 y.1) y.2),ret:=λx y=>o.ret x.1 y.1,m:=o.m,l:=λx y=> .m (RJ y.2)::(o.ex x.1 y.1).map PO.o}
noncomputable def ai3.out{X:Type}(o:ai3 X):Out X:={Y:=o.Y,post:=o.post,ret:=o.ret,m:=o.m,os:=λx y=> .abs (tabA (o.L x y))::o.ex x y}
noncomputable def aeW.E(C:aeW):iW:={X:=C.X×iY,args:=λx=>C.args x.1,k:=1,l:=λx=>[.m (RJ x.2)],pre:=λx=>C.pre x.1/\Hd (lJ (C.L x.1) x.2),outs:=C.outs.map (ai3.po C.L)}
noncomputable def aeW.C(C:aeW):Ctr:={X:=C.X,args:=C.args,k:=1,os:=λx=>[.abs (tabA (C.L x))],pre:=C.pre,outs:=C.outs.map ai3.out}
theorem aa5{L:Lks}{t:iY}(h:lJ L t){w:World}{a:SE.Loc}{S:Nat->Prop}(ho:(ownM (RJ t)).holds w a S):(tabA L).holds w a S:=by
 rw[rC]at ho;rw[aiT];obtain⟨h0,ρ,e,r⟩:=ho;exact⟨h0,ρ,⟨t,h,e⟩,r⟩
theorem anw{L:Lks}{w:World}{a:SE.Loc}{S:Nat->Prop}(ho:(tabA L).holds w a S): ∃t,lJ L t/\(ownM (RJ t)).holds w a S:=by
 rw[aiT]at ho;obtain⟨h0,ρ,⟨t,h,e⟩,r⟩:=ho;exact⟨t,h,by rw[rC];exact⟨h0,ρ,e,r⟩⟩
theorem zV{n:Nat}{o o':dF}{os:List dF}(hn:n=os.length+1): ∀j,((hO n (o::os)).set 0 o').get j=(hO n (o'::os)).get j:=λj=>by
 subst hn;rw[Heap.dR,jq (n:=os.length+1) (os:=o::os) (by simp),jq (n:=os.length+1) (os:=o'::os) (by simp)];cases j with
 |zero=>simp
 |succ j=>simp
theorem RX{X:Type}{L0:X->Lks}{x:X}{t:iY}{v:AV}{h':Heap}: ∀{l:List (ai3 X)},(∀o∈l,∀x y,(o.ex x y).length+1=o.m)->kP (x,t) v h' ((l.map (ai3.po L0)).map acs.out)-> ∃v0 h0,Leq 1 v h' v0 h0/\kP x v0 h0 (l.map ai3.out)
 |[],_,h=>by simp only[List.map_nil]at h;rw[yN]at h;exact h.elim
 |o::l,hl,h=>by
  simp only[List.map_cons]at h ⊢;rw[dV]at h;rcases h with ⟨y,h1,rfl,rfl⟩|h
  ·have hlen:=hl o (by simp) x y.1
   have hT:lJ (o.L x y.1) y.2:=aZ.1 h1.2;refine⟨_,hO o.m (.abs (tabA (o.L x y.1))::o.ex x y.1),⟨?_,λρ T w u hR hv=>⟨ρ,λ_ _=>rfl,?_,hv⟩⟩,by rw[dV];exact .inl ⟨y.1,h1.1,rfl,rfl⟩⟩
   ·show 1<=o.m;omega
   ·have hm:((o.ex x y.1).map PO.o).map PO.ab=o.ex x y.1:=by rw[List.map_map];exact(List.map_id _)
    have hR:Rel (hO o.m (.abs (ownM (RJ y.2))::o.ex x y.1)) ρ T w:=by
     have e:(acs.out (ai3.po L0 o)).os (x,t) y= .abs (ownM (RJ y.2))::o.ex x y.1:=by
      show PO.ab (.m (RJ y.2))::((o.ex x y.1).map PO.o).map PO.ab=_;rw[hm];rfl
     rw[<-e];exact hR
    have h2:=hR.swap (i:=0) (o:= .abs (ownM (RJ y.2))) (o':= .abs (tabA (o.L x y.1))) (by rw[jq (by simp only[List.length_cons];omega)];rfl) λa S ho=>aa5 hT ho
    exact h2.less (by simp;exact aY _) λj x hj=>by rw[zV (by omega)];exact hj
  ·obtain⟨v0,h0,g1,g2⟩:=RX (l:=l) (λp hp=>hl p (List.mem_cons_of_mem _ hp)) h
   exact⟨v0,h0,g1,by rw[dV];exact .inr g2⟩
theorem Jg{Z:Type}{h:Heap}{ρ:SE.Ren}{T:Nat->Prop}{w:World}{i:Nat}{o:dF}{o':Z->dF}(hi:h.get i=some o)(hh: ∀a S,dI ρ w T a S o-> ∃z,dI ρ w T a S (o' z))(hR:Rel h ρ T w): ∃z,Rel (h.set i (o' z)) ρ T w:=by
 obtain⟨S,h1,h2,h3,h4,h5⟩:=hR;obtain⟨a,ha,ho⟩:=h1 i o hi;obtain⟨z,hz⟩:=hh a _ ho;have get: ∀j x,(h.set i (o' z)).get j=some x-> ∃y,h.get j=some y:=λj x hj=>by
  rw[Heap.dR]at hj;by_cases hji:j=i
  ·exact⟨o,hji▸hi⟩
  ·rw[if_neg hji]at hj;exact⟨x,hj⟩
 refine⟨z,S,λj x hj=> ?_,λj k x y b hj hk hjk=> ?_,λj x b hj hS=> ?_,λj hj=>h4 j (by simpa using hj),h5⟩
 ·rw[Heap.dR]at hj
  by_cases hji:j=i
  ·subst hji
   rw[if_pos rfl]at hj;cases hj;exact⟨a,ha,hz⟩
  ·rw[if_neg hji]at hj
   exact h1 j x hj
 ·obtain⟨x',hx'⟩:=get j x hj
  obtain⟨y',hy'⟩:=get k y hk;exact h2 j k x' y' b hx' hy' hjk
 ·obtain⟨x',hx'⟩:=get j x hj
  exact h3 j x' b hx' hS
theorem Fv{P:Program}{f:FuncId}{C:aeW}(hc:lN P f)(hl: ∀o∈C.outs,∀x y,(o.ex x y).length+1=o.m)(hE:cO P f C.E.ctr):cO P f C.C:=λx hp=>by
 refine⟨rfl,hc,λρ T w vs hR hl2=> ?_⟩;obtain⟨t,hR2⟩:=Jg (i:=0) (o:= .abs (tabA (C.L x))) (o':=λt:{t:iY//lJ (C.L x) t}=> .abs (ownM (RJ t.1))) rfl (λa S ho=>by obtain⟨t,h1,h2⟩:=anw ho;exact⟨⟨t,h1⟩,h2⟩) hR;obtain⟨t,ht⟩:=t;have hR3:Rel (hO 1 [.abs (ownM (RJ t))]) ρ T w:=hR2.less (aY _) λj y hj=>by
  have:=zV (n:=1) (o:= .abs (tabA (C.L x))) (o':= .abs (ownM (RJ t))) (os:=[]) rfl j;exact this.trans hj
 obtain⟨_,hs⟩:=hE (x,t) ⟨hp,aZ.2 ht⟩;refine(hs.2 ρ T w vs hR3 hl2).mono ?_
 rintro e w' ⟨ρ2,v,u,h',c1,c2,c3,c4,c5,c6,c7⟩
 obtain⟨v0,h0,g1,g2⟩:=RX hl c7;obtain⟨ρ3,q1,q2,q3⟩:=g1.2 ρ2 T w' u c3 c4;exact⟨ρ3,v0,u,h0,λi hi=>(q1 i hi).trans (c1 i hi),g1.1,q2,q3,c5,c6,g2⟩
theorem anx{w:World}{a:SE.Loc}{S:Nat->Prop}:Ce.holds w a S:=by rw[agA];trivial
theorem ai4{P:Program}{f:FuncId}{k m n:Nat}{z:Bool}{e:TypeId}{c:Cs}{rest:List AV}{os:List dF}{K:AV->Heap->Prop}(hk:os.length+1=k)(hc:lN P f)
  (hN:z=true->n=0->Sp P f (gQ::rest) (hO k (.abs Ce::os)) K) (hW:z=false->Sp P f (.slW 0 0 m n::rest) (hO k (.room e c::os)) K):
  Sp P f (.slV z 0 m n::rest) (hO k (.iC z e c::os)) K:=by
 refine⟨hc,λρ T w vs hR hl=> ?_⟩;have sw: ∀o',(∀a S,dI ρ w T a S (.iC z e c)->dI ρ w T a S o')->Rel (hO k (o'::os)) ρ T w:=λo' ho=>by
  have h2:=hR.swap (i:=0) (o:= .iC z e c) (o':=o') (by rw[jq (by simp;omega)];rfl) ho;exact h2.less (by simp;exact aY _) λj x hj=>by rw[zV (by omega)];exact hj
 obtain⟨v,vl,hv,h1,h2⟩:=hl;cases z with
 |false=>
  refine(hW rfl).2 ρ T w vs (sw _ λa S h=> ?_) ⟨v,vl,hv,?_,h2⟩
  ·rcases h with ⟨h,_⟩|⟨_,h⟩
   ·cases h
   ·exact h
  ·rcases h1 with ⟨h,_⟩|⟨_,a,p,c',g1,g2,g3,g4⟩
   ·cases h
   ·exact⟨a,p,c',g1,g2,g3,λhc'=>by obtain⟨g5,g6⟩:=g4 hc';exact⟨by omega,by omega⟩⟩
 |true=>
  rcases h1 with ⟨_,hn,hv'⟩|⟨h,_⟩
  ·exact(hN rfl hn).2 ρ T w vs (sw _ λa S _=>anx) ⟨v,vl,hv,hv',h2⟩
  ·cases h
noncomputable section
def Jh:Ctr:=det ZLnk (λ_=>[gQ,i64 0,.sl 1 0 1 1]) 2 (λl=>[.abs Ce,rO l]) (λ_=>True) (λ_=> .slW 2 0 5 1) 3 (λl=>[.abs Ce,rO l,zT 1 (λ_=>l)])
structure ZIz where
 z:Bool
 L:Lks
 i:Nat
 l:ZLnk
def nthL(L:Lks)(q:Nat):ZLnk:=L.getD q iQ
def wC(z:Bool)(L:Lks):dF:= .iC z 41 (.row 5 L.length (λq=>(nthL L q).cs) [])
def insV:Ctr:=det ZIz (λx=>[.slV x.z 0 5 x.L.length,i64 x.i,.sl 1 0 1 1]) 2 (λx=>[wC x.z x.L,rO x.l]) (λx=>Hd (x.i<=x.L.length/\x.L.length<=300)) (λx=> .slW 2 0 5 (x.L.length+1)) 3 (λx=>[.abs Ce,rO x.l,zT (x.L.length+1) (insL (nthL x.L) x.i x.l)])
structure ZDz where
 z:Bool
 L:Lks
 i:Nat
def delV:Ctr:=det ZDz (λx=>[.slV x.z 0 5 x.L.length,i64 x.i,i64 ((x.i:Int)+1)]) 1 (λx=>[wC x.z x.L]) (λx=>Hd (x.i<x.L.length/\x.L.length<=300)) (λx=> .slW 1 0 5 (x.L.length-1)) 2 (λx=>[.abs Ce,zT (x.L.length-1) (Jf (nthL x.L) x.i)])
end
def Ls(x:ZLnk):Prop:=
 (0:Int)<=0/\(0<=0/\0<=0/\0<=0)/\(2*(0+1)+1000)*48<=281474976710656/\ ∃y:Unit,True/\(0=0/\1=1)/\Ce=Ce/\(x.key=x.key/\x.id=x.id/\x.ver=x.ver/\x.line=x.line/\x.cls=x.cls/\True)/\(1=0+List.length [List.take 5 [Value.string x.key,Value.int .u64 x.id,Value.int .u64 x.ver,Value.int .i64 x.line,Value.int .i64 x.cls]]/\ ∀q:Nat,q<1->[Value.string x.key,Value.int .u64 x.id,Value.int .u64 x.ver,Value.int .i64 x.line,Value.int .i64 x.cls]=Cs.eff (λ(x_1:Nat)=>[]) [(0,List.take 5 [Value.string x.key,Value.int .u64 x.id,Value.int .u64 x.ver,Value.int .i64 x.line,Value.int .i64 x.cls])] q)/\True
theorem WT(x:ZLnk):Ls x=wpF Tryz.prog anq tt (noA x) 200 6 281 (Jh.args x) (hO Jh.k (Jh.os x)) (λv h'=>eX Jh.k x v h' Jh.outs):=by kernel_rfl
theorem Lu(x:ZLnk):Ls x:=by
 unfold Ls;simp only[aZ,aV,aU,aA,aI,bU,bG,aO,aK,ay,aX,aW];refine⟨by omega,by omega,by omega,rfl,λq hq=> ?_⟩;obtain rfl:q=0:=by omega
 rfl
theorem ai5:cO Tryz.prog 281 Jh:=dM dG mixed Lm noA 200 6 (λ_=>rfl) (λ_=>rfl) λx _=>Eq.mp (WT x) (Lu x)
theorem asj:cO Tryz.prog 281 insV:=λx hx=>⟨rfl,by
 have hx:=aZ.1 hx;refine ai4 (k:=2) (os:=[rO x.l]) rfl ⟨Tryz.f281,by kernel_rfl,by kernel_rfl,by kernel_rfl⟩ (λhz hn=> ?_) λhz=> ?_
 ·have hi:x.i=0:=by omega
  rw[hi];refine Bh (((ai5 x.l trivial).2).mono λv h' hh=> ?_);refine⟨.slW 2 0 5 (x.L.length+1),hO 3 [.abs Ce,rO x.l,zT (x.L.length+1) (insL (nthL x.L) x.i x.l)],?_,by with_unfolding_all exact Or.inl ⟨(),trivial,rfl,rfl⟩⟩;have hh:(∃y:Unit,True/\v= .slW 2 0 5 1/\h'=hO 3 [.abs Ce,rO x.l,zT 1 (λ_=>x.l)])\/False:=by
   with_unfolding_all exact hh
  rcases hh with ⟨_,_,rfl,rfl⟩|hh
  ·rw[hn]
   refine uP (m:=3) rfl rfl (show(2:Nat)<=3 by decide) λi o o' hi' asl=> ?_
   match i,hi',asl with
   |0,hi',asl=>cases hi';cases asl;exactλ_ _ _ _ _ h=>h
   |1,hi',asl=>cases hi';cases asl;exactλ_ _ _ _ _ h=>h
   |2,hi',asl=>cases hi';cases asl;exact En (λq hq=>by(obtain rfl:q=0:=by omega);rw[hi,rP])
  ·exact hh.elim
 ·exact((asf ⟨x.L.length,nthL x.L,x.i,x.l⟩ (aZ.2 hx)).2).mono λv h' hh=>by with_unfolding_all exact hh⟩
theorem asn:cO Tryz.prog 282 delV:=λx hx=>⟨rfl,by
 have hx:=aZ.1 hx;refine ai4 (k:=1) (os:=[]) rfl ⟨Tryz.f282,by kernel_rfl,by kernel_rfl,by kernel_rfl⟩ (λhz hn=> ?_) λhz=> ?_
 ·exact absurd hx.1 (by omega)
 ·exact((asi ⟨x.L.length,nthL x.L,x.i⟩ (aZ.2 hx)).2).mono λv h' hh=>by with_unfolding_all exact hh⟩
noncomputable section
def apL(b:Nat):Ctr:=det ByteArray (λs=>[.lit (.string s)]) 0 (λ_=>[]) (λs=>Hd (s.size<1099511627776/\lvl s=b)) (λ_=>i64 b) 0 (λ_=>[])
structure ZOd where
 z:Nat->Bool
 V:Nat->Lks
def LC(x:ZOd):List dF:=[.cells 255 (.av [.slV (x.z 0) 1 5 (x.V 0).length,.slV (x.z 1) 2 5 (x.V 1).length,.slV (x.z 2) 3 5 (x.V 2).length,.slV (x.z 3) 4 5 (x.V 3).length]),wC (x.z 0) (x.V 0),wC (x.z 1) (x.V 1),wC (x.z 2) (x.V 2),wC (x.z 3) (x.V 3)]
structure ZOs where
 o:ZOd
 l:ZLnk
structure ZOk where
 o:ZOd
 s:ByteArray
def ZOd.good(x:ZOd):Prop:= ∀k,k<4->srt (x.V k)/\(x.V k).length<=300/\(x.z k=true->x.V k=[])
def aa6(b:Nat):iW:={X:=ZOs,args:=λx=>[.ptr 0 0,x.l.av],k:=1,l:=λx=>[.m (LC x.o)],pre:=λx=>Hd (x.l.key.size<1099511627776/\lvl x.l.key=b/\x.o.good),outs:=[
 {Y:=ZOd,post:=λx y=>Hd (∀k,k<4->(y.V k=if k<b then jv (x.o.V k) x.l else x.o.V k)/\(y.z k=true->y.V k=[])),ret:=λx _=>boo (gY (x.o.V (b-1)) x.l.key).isSome,m:=1,l:=λ_ y=>[.m (LC y)]}]}
def LD(b:Nat):iW:={X:=ZOk,args:=λx=>[.ptr 0 0,.lit (.string x.s)],k:=1,l:=λx=>[.m (LC x.o)],pre:=λx=>Hd (x.s.size<1099511627776/\lvl x.s=b/\x.o.good),outs:=[
 {Y:=ZOd,post:=λx y=>Hd (∀k,k<4->(y.V k=if k<b then fZ (x.o.V k) x.s else x.o.V k)/\(y.z k=true->y.V k=[])),ret:=λx _=>boo ((List.range b).any λk=>(gY (x.o.V k) x.s).isSome),m:=1,l:=λ_ y=>[.m (LC y)]}]}
def aso(b:Nat):je:=[(279,ctrT (apL b)),(280,ctrT auT),(281,ctrT insV),(282,ctrT delV)]
end
theorem Fz{x:ZLnk}{L:Lks}{s:ByteArray}:uX (x::L) s=if kl x.key s=true then uX L s+1 else 0:=by
 unfold uX;rw[List.findIdx_cons];cases kl x.key s<;>rfl
theorem yY{x:ZLnk}{L:Lks}{q:Nat}:nthL (x::L) (q+1)=nthL L q:=rfl
theorem auX{f:Nat->ZLnk}{x:ZLnk}{q:Nat}:insL f 0 x (q+1)=f q:=by rw[Fq (Nat.succ_pos q)];rfl
theorem auY{f:Nat->ZLnk}{i:Nat}{x:ZLnk}{q:Nat}:insL f (i+1) x (q+1)=insL (λj=>f (j+1)) i x q:=by
 rcases Nat.lt_trichotomy q i with h|h|h
 ·rw[zU (by omega),zU h]
 ·subst h;rw[rP,rP]
 ·rw[Fq (by omega),Fq h,show q+1-1=q-1+1 by omega]
theorem auZ{f:Nat->ZLnk}{q:Nat}:Jf f 0 q=f (q+1):=by unfold Jf;rw[ji (Nat.not_lt_zero q)];rfl
theorem au0{f:Nat->ZLnk}{i q:Nat}:Jf f (i+1) (q+1)=Jf (λj=>f (j+1)) i q:=by
 unfold Jf;by_cases h:q<i
 ·rw[bg.2 h,bg.2 (show q+1<i+1 by omega)]
 ·rw[ji h,ji (show¬q+1<i+1 by omega)]
theorem jU{x:ZLnk}{L:Lks}{s:ByteArray}:gY (x::L) s=if x.key=s then some x else gY L s:=by
 unfold gY;rw[List.find?_cons];by_cases h:x.key=s
 ·rw[decide_eq_true h,if_pos h]
 ·rw[decide_eq_false h,if_neg h]
theorem LG{x:ZLnk}{L:Lks}(h:srt (x::L)):srt L:=(List.pairwise_cons.1 h).2
theorem Ji: ∀{L:Lks} {l:ZLnk},srt L->(gY L l.key).isSome=true->uX L l.key<L.length/\(jv L l).length=L.length/\ ∀q,nthL (jv L l) q=if q=uX L l.key then l else nthL L q
 |[],_,_,h=>by cases h
 |x::L,l,hs,h=>by
  rw[Fz];unfold jv;by_cases hx:x.key=l.key
  ·rw[hx,mX,if_neg (by decide),if_pos rfl]
   refine⟨Nat.succ_pos _,rfl,λq=> ?_⟩;cases q with
   |zero=>rw[if_pos rfl];rfl
   |succ q=>rw[if_neg (by omega)];rfl
  ·rw[jU,if_neg hx]at h
   obtain⟨y,hy⟩:=Option.isSome_iff_exists.1 h;obtain⟨hy1,hy2⟩:=og hy;have hk:kl x.key l.key=true:=by rw[<-hy2];exact(List.pairwise_cons.1 hs).1 y hy1
   obtain⟨i1,i2,i3⟩:=Ji (LG hs) h;rw[if_pos hk,if_neg hx,if_neg (by rw[WJ hk];decide)];refine⟨by simp only[List.length_cons];omega,by simp only[List.length_cons,i2],λq=> ?_⟩;cases q with
   |zero=>rw[if_neg (by omega)];rfl
   |succ q=>
    rw[yY,yY,i3 q];by_cases hq:q=uX L l.key
    ·rw[if_pos hq,if_pos (by omega)]
    ·rw[if_neg hq,if_neg (by omega)]
theorem aa7: ∀{L:Lks} {l:ZLnk},srt L->(gY L l.key).isSome=false->uX L l.key<=L.length/\(jv L l).length=L.length+1/\ ∀q,q<L.length+1->nthL (jv L l) q=insL (nthL L) (uX L l.key) l q
 |[],l,_,_=>⟨aY _,rfl,λq hq=>by have h0:q=0:=Nat.lt_one_iff.1 hq;subst h0;exact rP.symm⟩
 |x::L,l,hs,h=>by
  rw[Fz];unfold jv;have hx:x.key≠l.key:=λe=>by rw[jU,if_pos e]at h;cases h
  rw[jU,if_neg hx]at h;rw[if_neg hx];cases hk:kl x.key l.key with
  |true=>
   obtain⟨i1,i2,i3⟩:=aa7 (LG hs) h;rw[if_pos rfl,if_neg (by rw[WJ hk];decide)];refine⟨by simp only[List.length_cons];omega,by simp only[List.length_cons,i2],λq hq=> ?_⟩;cases q with
   |zero=>rw[zU (Nat.succ_pos _)];rfl
   |succ q=>rw[yY,i3 q (by simp only[List.length_cons]at hq;omega),auY];rfl
  |false=>
   have hk2:kl l.key x.key=true:=by
    cases hk2:kl l.key x.key
    ·exact absurd (aaY hk hk2) hx
    ·rfl
   rw[if_neg (by decide),if_pos hk2];refine⟨Nat.zero_le _,rfl,λq _=> ?_⟩;cases q with
   |zero=>rw[rP];rfl
   |succ q=>rw[auX];rfl
theorem zW: ∀{L:Lks} {s:ByteArray},(gY L s).isSome=false->fZ L s=L
 |[],_,_=>rfl
 |x::L,s,h=>by
  have hx:x.key≠s:=λe=>by rw[jU,if_pos e]at h;cases h
  rw[jU,if_neg hx]at h;unfold fZ;rw[List.filter_cons,decide_eq_false hx];show x::fZ L s=x::L;rw[zW h]
theorem FB: ∀{L:Lks} {s:ByteArray},srt L->(gY L s).isSome=true->uX L s<L.length/\(fZ L s).length=L.length-1/\ ∀q,nthL (fZ L s) q=Jf (nthL L) (uX L s) q
 |[],_,_,h=>by cases h
 |x::L,s,hs,h=>by
  rw[Fz];by_cases hx:x.key=s
  ·have hn:(gY L s).isSome=false:=by
    rw[yX λy hy e=> ?_]
    ·rfl
    ·have:=(List.pairwise_cons.1 hs).1 y hy
     rw[hx,e,mX]at this;cases this
   have e:fZ (x::L) s=L:=by
    unfold fZ;rw[List.filter_cons,decide_eq_true hx];exact zW hn
   rw[e,hx,mX,if_neg (by decide)];exact⟨Nat.succ_pos _,rfl,λq=>by rw[auZ];rfl⟩
  ·rw[jU,if_neg hx]at h
   obtain⟨y,hy⟩:=Option.isSome_iff_exists.1 h;obtain⟨hy1,hy2⟩:=og hy;have hk:kl x.key s=true:=by rw[<-hy2];exact(List.pairwise_cons.1 hs).1 y hy1
   obtain⟨i1,i2,i3⟩:=FB (LG hs) h;have e:fZ (x::L) s=x::fZ L s:=by
    unfold fZ;rw[List.filter_cons,decide_eq_false hx];rfl
   rw[e,if_pos hk];refine⟨by simp only[List.length_cons];omega,by simp only[List.length_cons,i2];omega,λq=> ?_⟩;cases q with
   |zero=>unfold Jf;rw[bg.2 (Nat.succ_pos _)];rfl
   |succ q=>rw[yY,i3 q,au0];rfl
noncomputable def ai6(b:Nat):Ctr:=det ByteArray (λs=>[.lit (.string s)]) 0 (λ_=>[]) (λs=>Hd (s.size<1099511627776/\bkt s=b)) (λ_=>i64 b) 0 (λ_=>[])
theorem adE(b:Nat):cO Tryz.prog 183 (ai6 b):=jg λs hs=>by
 obtain⟨h1,h2⟩:=aZ.1 hs;refine⟨_,RV,rfl,s,aZ.2 h1,rfl,rfl,λv h' hh=> ?_⟩;obtain⟨u,_,e2,e3⟩:=jh hh;exact Eq.mpr (dV (X:=ByteArray) s v h' _ _) (.inl ⟨(),trivial,e2.trans (by show i64 (bkt s)=i64 b;rw[h2]),e3⟩)
structure ZTkB where
 t:iY
 s:ByteArray
noncomputable def ofC(b:Nat):Ctr:=det ZTkB (λx=>[.ptr 0 0,.lit (.string x.s)]) 9 (λx=>RJ x.t) (λx=>Hd (x.s.size<1099511627776/\bkt x.s=b)) (λ_=> .mp (b+1)) 9 (λx=>RJ x.t)
noncomputable def au1(b:Nat):je:=[(183,ctrT (ai6 b))]
noncomputable def ai7(b:Nat):je:=[(277,ctrT (ofC b))]
structure Hr where
 L:Lks
 l:ZLnk
noncomputable def atr:aeW:={X:=ZTq,args:=λx=>[.ptr 0 0,.lit (.string x.s)],L:=λx=>x.L,pre:=λx=>Hd (x.s.size<1099511627776),outs:=[
 {Y:=Unit,post:=λx _=>Hd (gY x.L x.s=none),ret:=λ_ _=> .tup [iQ.av,boo false],L:=λx _=>x.L,m:=1,ex:=λ_ _=>[]},
 {Y:=ZLnk,post:=λx y=>Hd (gY x.L x.s=some y),ret:=λ_ y=> .tup [y.av,boo true],L:=λx _=>x.L,m:=1,ex:=λ_ _=>[]}]}
noncomputable def anz:aeW:={X:=ZTq,args:=λx=>[.ptr 0 0,.lit (.string x.s)],L:=λx=>x.L,pre:=λx=>Hd (x.s.size<1099511627776),outs:=[
 {Y:=Unit,post:=λx _=>Hd (gY x.L x.s=none),ret:=λ_ _=> .tup [iQ.av,boo false],L:=λx _=>x.L,m:=1,ex:=λ_ _=>[]},
 {Y:=ZLnk,post:=λx y=>Hd (gY x.L x.s=some y),ret:=λ_ y=> .tup [y.av,boo true],L:=λx _=>fZ x.L x.s,m:=1,ex:=λ_ _=>[]}]}
noncomputable def au2:aeW:={X:=Hr,args:=λx=>[.ptr 0 0,x.l.av],L:=λx=>x.L,pre:=λx=>Hd (x.l.key.size<1099511627776/\(jv x.L x.l).length<=258),outs:=[
 {Y:=Unit,post:=λ_ _=>True,ret:=λx _=>boo (gY x.L x.l.key).isSome,L:=λx _=>jv x.L x.l,m:=1,ex:=λ_ _=>[]}]}
def att:Prop:=True/\True/\True/\True/\True/\True/\True/\True/\True
def Ht(y t:iY)(b:Nat)(m:MS):Prop:=att/\(y 0).ms=(bif Nat.beq b 0 then m else(t 0).ms)/\(y 1).ms=(bif Nat.beq b 1 then m else(t 1).ms)/\(y 2).ms=(bif Nat.beq b 2 then m else(t 2).ms)/\(y 3).ms=(bif Nat.beq b 3 then m else(t 3).ms)/\(y 4).ms=(bif Nat.beq b 4 then m else(t 4).ms)/\(y 5).ms=(bif Nat.beq b 5 then m else(t 5).ms)/\(y 6).ms=(bif Nat.beq b 6 then m else(t 6).ms)/\(y 7).ms=(bif Nat.beq b 7 then m else(t 7).ms)/\True
def WU(y t:iY):Prop:=att/\(y 0).ms=(t 0).ms/\(y 1).ms=(t 1).ms/\(y 2).ms=(t 2).ms/\(y 3).ms=(t 3).ms/\(y 4).ms=(t 4).ms/\(y 5).ms=(t 5).ms/\(y 6).ms=(t 6).ms/\(y 7).ms=(t 7).ms/\True
def WV(a l:ZLnk):Prop:=a.key=l.key/\a.id=l.id/\a.ver=l.ver/\a.line=l.line/\a.cls=l.cls/\True
def apM(m:ZMs)(s:ByteArray)(q:Nat->Prop):Prop:= ∀j:Nat,j<m.n->(m.lk j).key=s->q j
def kNo(m:ZMs)(s:ByteArray)(q:Prop):Prop:=(∀j:Nat,j<m.n->(m.lk j).key=s->False)->q
def atu(x:ZTq×iY)(L':Lks)(l:ZLnk)(f:Bool)(q:iY->Prop):Prop:=(∃y:Unit×iY,(Hd (gY x.1.L x.1.s=none)/\Hd (lJ x.1.L y.2))/\(WV iQ l/\false=f/\True)/\q y.2)\/ ∃y:ZLnk×iY,(Hd (gY x.1.L x.1.s=some y.1)/\Hd (lJ L' y.2))/\(WV y.1 l/\true=f/\True)/\q y.2
noncomputable def au3(b:Nat)(x:ZTkB):Prop:= ∃s:ByteArray,Hd (s.size<1099511627776/\bkt s=b)/\(s=x.s/\True)/\True/\ ∀_:Unit,True->True/\((0:Int)<=b/\(0:Int)<=(7:Int)-b)/\ ∃_:Unit,True/\True/\WU x.t x.t
noncomputable def ofG(b:Nat)(s:ByteArray)(t:iY)(q:iY->Prop):Prop:= ∃y:ZTkB,Hd (y.s.size<1099511627776/\bkt y.s=b)/\(0=0/\y.s=s/\True)/\WU y.t t/\ ∀_:Unit,True->q y.t
noncomputable def au4(b:Nat)(x:ZTq×iY):Prop:=ofG b x.1.s x.2 λt=>apM (t b) x.1.s (λj=>atu x x.1.L ((t b).lk j) true λy=>WU y t)/\kNo (t b) x.1.s (atu x x.1.L iQ false λy=>WU y t)
noncomputable def apN(b:Nat)(x:ZTq×iY):Prop:=ofG b x.1.s x.2 λt=>
 apM (t b) x.1.s (λj=>apM (t b) x.1.s (λi=>atu x (fZ x.1.L x.1.s) ((t b).lk j) true λy=>Ht y t b ((t b).ms.del i))/\kNo (t b) x.1.s (atu x (fZ x.1.L x.1.s) ((t b).lk j) true λy=>WU y t))/\
 kNo (t b) x.1.s (apM (t b) x.1.s (λi=>atu x (fZ x.1.L x.1.s) iQ false λy=>Ht y t b ((t b).ms.del i))/\kNo (t b) x.1.s (atu x (fZ x.1.L x.1.s) iQ false λy=>WU y t))
def sEnd(x:Hr×iY)(f:Bool)(q:iY->Prop):Prop:= ∃y:Unit×iY,(True/\Hd (lJ (jv x.1.L x.1.l) y.2))/\(gY x.1.L x.1.l.key).isSome=f/\q y.2
noncomputable def au5(b:Nat)(x:Hr×iY):Prop:=ofG b x.1.l.key x.2 λt=>
 apM (t b) x.1.l.key (λ_=>apM (t b) x.1.l.key (λi=>sEnd x true λy=>Ht y t b ((t b).ms.put i x.1.l.key x.1.l.cs))/\kNo (t b) x.1.l.key (sEnd x true λy=>Ht y t b ((t b).ms.add x.1.l.key x.1.l.cs)))/\
 kNo (t b) x.1.l.key (apM (t b) x.1.l.key (λi=>sEnd x false λy=>Ht y t b ((t b).ms.put i x.1.l.key x.1.l.cs))/\kNo (t b) x.1.l.key (sEnd x false λy=>Ht y t b ((t b).ms.add x.1.l.key x.1.l.cs)))
theorem anA: ∀b,b<8-> ∀x,au3 b x=wpF Tryz.prog (au1 b) tt (noA x) 200 5 277 ((ofC b).args x) (hO 9 ((ofC b).os x)) (λv h'=>eX 9 x v h' (ofC b).outs)
 |0,_=>λx=>by kernel_rfl
 |1,_=>λx=>by kernel_rfl
 |2,_=>λx=>by kernel_rfl
 |3,_=>λx=>by kernel_rfl
 |4,_=>λx=>by kernel_rfl
 |5,_=>λx=>by kernel_rfl
 |6,_=>λx=>by kernel_rfl
 |7,_=>λx=>by kernel_rfl
 |b+8,h=>absurd h (by omega)
theorem anB: ∀b,b<8-> ∀x,au4 b x=wpF Tryz.prog (ai7 b) tt (noA x) 200 5 245 (atr.E.args x) (hO 9 (flatP 1 (atr.E.l x))) (λv h'=>endsPK 1 x v h' atr.E.outs)
 |0,_=>λx=>by kernel_rfl
 |1,_=>λx=>by kernel_rfl
 |2,_=>λx=>by kernel_rfl
 |3,_=>λx=>by kernel_rfl
 |4,_=>λx=>by kernel_rfl
 |5,_=>λx=>by kernel_rfl
 |6,_=>λx=>by kernel_rfl
 |7,_=>λx=>by kernel_rfl
 |b+8,h=>absurd h (by omega)
theorem ai8: ∀b,b<8-> ∀x,apN b x=wpF Tryz.prog (ai7 b) tt (noA x) 200 5 252 (anz.E.args x) (hO 9 (flatP 1 (anz.E.l x))) (λv h'=>endsPK 1 x v h' anz.E.outs)
 |0,_=>λx=>by kernel_rfl
 |1,_=>λx=>by kernel_rfl
 |2,_=>λx=>by kernel_rfl
 |3,_=>λx=>by kernel_rfl
 |4,_=>λx=>by kernel_rfl
 |5,_=>λx=>by kernel_rfl
 |6,_=>λx=>by kernel_rfl
 |7,_=>λx=>by kernel_rfl
 |b+8,h=>absurd h (by omega)
theorem anC: ∀b,b<8-> ∀x,au5 b x=wpF Tryz.prog (ai7 b) tt (noA x) 200 5 250 (au2.E.args x) (hO 9 (flatP 1 (au2.E.l x))) (λv h'=>endsPK 1 x v h' au2.E.outs)
 |0,_=>λx=>by kernel_rfl
 |1,_=>λx=>by kernel_rfl
 |2,_=>λx=>by kernel_rfl
 |3,_=>λx=>by kernel_rfl
 |4,_=>λx=>by kernel_rfl
 |5,_=>λx=>by kernel_rfl
 |6,_=>λx=>by kernel_rfl
 |7,_=>λx=>by kernel_rfl
 |b+8,h=>absurd h (by omega)
def wKo(k:Nat):Prop:=(0:Int)<=(k:Int)/\(0:Int)<=(3:Int)-(k:Int)
def anD(P:Nat->ZOd->Prop)(k:Nat)(p:ZOd->Prop):Nat->ZOd->Prop:=λj=>bif Nat.beq j k then p else P j
def lvP1(o:ZOd)(k:Nat)(y:ZOd):Prop:=y.z k=o.z k/\(y.V k).length=(o.V k).length
def lvP2(o:ZOd)(k:Nat)(y:ZOd):Prop:=y.z k=o.z k/\(y.V k).length=(o.V k).length/\ ∀q:Nat,q<(y.V k).length->(nthL (y.V k) q).cs=(nthL (o.V k) q).cs
def lvFd(o:ZOd)(l:ZLnk)(k p:Nat)(y:ZOd):Prop:=y.z k=false/\(y.V k).length=(o.V k).length/\ ∀q:Nat,q<(y.V k).length->(nthL (y.V k) q).cs=Cs.eff (λq=>(nthL (o.V k) q).cs) [(0+p,l.cs)] q
def lvI1(k n:Nat)(y:ZOd):Prop:=y.z k=false/\(y.V k).length=n
def lvI2(k n:Nat)(g:Nat->ZLnk)(y:ZOd):Prop:=y.z k=false/\(y.V k).length=n/\ ∀q:Nat,q<(y.V k).length->(nthL (y.V k) q).cs=(g q).cs
def au6(x:ZOs)(b:Nat)(had:Bool)(P1 P2:Nat->ZOd->Prop):Prop:= ∃y:ZOd,Hd (∀k,k<4->(y.V k=if k<b then jv (x.o.V k) x.l else x.o.V k)/\(y.z k=true->y.V k=[]))/\(gY (x.o.V (b-1)) x.l.key).isSome=had/\(P1 0 y/\P1 1 y/\P1 2 y/\P1 3 y/\True)/\(P2 0 y/\P2 1 y/\P2 2 y/\P2 3 y/\True)
noncomputable def anE(x:ZOs)(b:Nat):Nat->Nat->Bool->(Nat->ZOd->Prop)->(Nat->ZOd->Prop)->Prop
 |0,_,had,P1,P2=>au6 x b had P1 P2
 |r+1,k,_,P1,P2=>wKo k/\ ∃q:ZTq,Hd (srt q.L/\q.L.length<1099511627776)/\((0=0/\q.L.length=(x.o.V k).length)/\q.s=x.l.key/\True)/\((q.L.length=(x.o.V k).length/\ ∀j:Nat,j<q.L.length->(q.L.getD j iQ).cs=(nthL (x.o.V k) j).cs)/\True)/\ ∀_:Unit,True->True/\cP (gY q.L q.s).isSome
   (wKo k/\((0:Int)<=((uX q.L q.s:Nat):Int)/\((uX q.L q.s:Nat):Int)<(((x.o.V k).length:Nat):Int))/\0+uX q.L q.s<(x.o.V k).length/\0+uX q.L q.s<(x.o.V k).length/\True/\I64 ((k:Int)+1)/\anE x b r (k+1) (gY q.L q.s).isSome P1 (anD P2 k (lvFd x.o x.l k (uX q.L q.s))))
   (wKo k/\(AV.slV (x.o.z k) (k+1) 5 (x.o.V k).length=AV.slV (x.o.z k) (k+1) 5 (x.o.V k).length/\True)/\ ∃v:ZIz,Hd (v.i<=v.L.length/\v.L.length<=300)/\((v.z=x.o.z k/\v.L.length=(x.o.V k).length)/\(v.i:Int)=((uX q.L q.s:Nat):Int)/\(0=0/\1=1/\1=1)/\True)/\((v.z=x.o.z k/\v.L.length=(x.o.V k).length/\ ∀j:Nat,j<v.L.length->(nthL v.L j).cs=(nthL (x.o.V k) j).cs)/\WV v.l x.l/\True)/\ ∀_:Unit,True->True/\wKo k/\True/\I64 ((k:Int)+1)/\
    anE x b r (k+1) (gY q.L q.s).isSome (anD P1 k (lvI1 k (v.L.length+1))) (anD P2 k (lvI2 k (v.L.length+1) (insL (nthL v.L) v.i v.l))))
noncomputable def au7(b:Nat)(x:ZOs):Prop:= ∃s:ByteArray,Hd (s.size<1099511627776/\lvl s=b)/\(s=x.l.key/\True)/\True/\ ∀_:Unit,True->anE x b b 0 false (lvP1 x.o) (lvP2 x.o)
theorem anF: ∀b,1<=b->b<=4-> ∀x,au7 b x=wpF Tryz.prog (aso b) tt (noA x) 200 6 251 ((aa6 b).args x) (hO 5 (flatP 1 ((aa6 b).l x))) (λv h'=>endsPK 1 x v h' (aa6 b).outs)
 |1,_,_=>λx=>by kernel_rfl
 |2,_,_=>λx=>by kernel_rfl
 |3,_,_=>λx=>by kernel_rfl
 |4,_,_=>λx=>by kernel_rfl
 |0,h,_=>absurd h (by omega)
 |b+5,_,h=>absurd h (by omega)
theorem asq{k:Nat}(h:k<4):wKo k:=⟨by omega,by omega⟩
theorem FC{P:Nat->ZOd->Prop}{k:Nat}{p:ZOd->Prop}:anD P k p k=p:=by unfold anD;simp
theorem oO{P:Nat->ZOd->Prop}{k j:Nat}{p:ZOd->Prop}(h:j≠k):anD P k p j=P j:=by unfold anD;rw[fC h];rfl
def anG(x:ZOs)(b:Nat):ZOd:=⟨λk=>bif Nat.blt k b then false else x.o.z k,λk=>if k<b then jv (x.o.V k) x.l else x.o.V k⟩
theorem ai9{x:ZOs}{b k:Nat}(h:k<b):(anG x b).z k=false/\(anG x b).V k=jv (x.o.V k) x.l:=⟨by show(bif Nat.blt k b then false else x.o.z k)=false;rw[bg.2 h];rfl,if_pos h⟩
theorem aja{x:ZOs}{b k:Nat}(h: ¬k<b):(anG x b).z k=x.o.z k/\(anG x b).V k=x.o.V k:=⟨by show(bif Nat.blt k b then false else x.o.z k)=x.o.z k;rw[ji h];rfl,if_neg h⟩
theorem lev_z{o:ZOd}{k:Nat}{s:ByteArray}(hg:o.z k=true->o.V k=[])(h:(gY (o.V k) s).isSome=true):o.z k=false:=by
 cases hz:o.z k
 ·rfl
 ·rw[hg hz]at h;cases h
theorem zX{x:ZOs}{b:Nat}(h1:1<=b)(h4:b<=4)(hg:x.o.good): ∀(r k:Nat) (had:Bool) (P1 P2:Nat->ZOd->Prop),k+r=b->(1<=k->had=(gY (x.o.V (k-1)) x.l.key).isSome)->
  (∀j,j<k->P1 j (anG x b)/\P2 j (anG x b))->(∀j,k<=j->P1 j=lvP1 x.o j/\P2 j=lvP2 x.o j)->anE x b r k had P1 P2
 |0,k,had,P1,P2,e,hh,hP,hQ=>by
  obtain rfl:k=b:=by omega
  have all: ∀j,P1 j (anG x k)/\P2 j (anG x k):=λj=>by
   by_cases hj:j<k
   ·exact hP j hj
   ·obtain⟨q1,q2⟩:=hQ j (by omega)
    obtain⟨g1,g2⟩:=aja (x:=x) hj;rw[q1,q2];exact⟨⟨g1,by rw[g2]⟩,g1,by rw[g2],λq _=>by rw[g2]⟩
  refine⟨anG x k,aZ.2 λj hj=>⟨rfl,λhz=> ?_⟩,(hh h1).symm,⟨(all 0).1,(all 1).1,(all 2).1,(all 3).1,trivial⟩,(all 0).2,(all 1).2,(all 2).2,(all 3).2,trivial⟩;by_cases hjk:j<k
  ·rw[(ai9 (x:=x) hjk).1]at hz;cases hz
  ·obtain⟨g1,g2⟩:=aja (x:=x) hjk
   rw[g1]at hz;rw[g2];exact(hg j hj).2.2 hz
 |r+1,k,had,P1,P2,e,hh,hP,hQ=>by
  have hk:k<b:=by omega
  obtain⟨s1,s2,s3⟩:=hg k (by omega);obtain⟨y1,y2⟩:=ai9 (x:=x) hk;obtain⟨q1,q2⟩:=hQ k (aY _);refine⟨asq (by omega),⟨x.o.V k,x.l.key⟩,aZ.2 ⟨s1,by show(x.o.V k).length<1099511627776;omega⟩,⟨⟨rfl,rfl⟩,rfl,trivial⟩,⟨⟨rfl,λ_ _=>rfl⟩,trivial⟩,λ_ _=>⟨trivial,bf (λhf=> ?_) λhf=> ?_⟩⟩
  ·obtain⟨f1,f2,f3⟩:=Ji s1 hf
   refine⟨asq (by omega),⟨by omega,by show((uX (x.o.V k) x.l.key:Nat):Int)<_;omega⟩,by show 0+uX (x.o.V k) x.l.key<_;omega,by show 0+uX (x.o.V k) x.l.key<_;omega,trivial,by unfold I64;omega,zX h1 h4 hg r (k+1) _ _ _ (by omega) (λ_=>rfl) (λj hj=> ?_) λj hj=> ?_⟩
   ·by_cases hjk:j=k
    ·subst hjk
     rw[q1,FC];refine⟨⟨y1.trans (lev_z s3 hf).symm,by rw[y2];exact f2⟩,y1,by rw[y2];exact f2,λq _=> ?_⟩;rw[y2,f3 q];show _=Cs.eff _ [(0+uX (x.o.V j) x.l.key,x.l.cs)] q;simp only[Cs.eff,aA];by_cases hq:q=uX (x.o.V j) x.l.key
     ·rw[if_pos hq,hq];simp
     ·rw[if_neg hq,fC hq];rfl
    ·rw[oO hjk];exact hP j (by omega)
   ·rw[oO (by omega)];exact hQ j (by omega)
  ·obtain⟨f1,f2,f3⟩:=aa7 s1 hf
   refine⟨asq (by omega),⟨rfl,trivial⟩,⟨x.o.z k,x.o.V k,uX (x.o.V k) x.l.key,x.l⟩,aZ.2 ⟨f1,s2⟩,⟨⟨rfl,rfl⟩,rfl,⟨rfl,rfl,rfl⟩,trivial⟩,⟨⟨rfl,rfl,λ_ _=>rfl⟩,⟨rfl,rfl,rfl,rfl,rfl,trivial⟩,trivial⟩,λ_ _=>⟨trivial,asq (by omega),trivial,by unfold I64;omega,zX h1 h4 hg r (k+1) _ _ _ (by omega) (λ_=>rfl) (λj hj=> ?_) λj hj=> ?_⟩⟩
   ·by_cases hjk:j=k
    ·subst hjk
     rw[FC,FC];refine⟨⟨y1,by rw[y2];exact f2⟩,y1,by rw[y2];exact f2,λq hq=> ?_⟩;rw[y2]at hq ⊢;rw[f3 q (by omega)]
    ·rw[oO hjk,oO hjk];exact hP j (by omega)
   ·rw[oO (by omega),oO (by omega)];exact hQ j (by omega)
theorem adF{x:ZOs}{b:Nat}(h1:1<=b)(h4:b<=4)(hg:x.o.good)(hs:x.l.key.size<1099511627776)(hl:lvl x.l.key=b):au7 b x:=
 ⟨x.l.key,aZ.2 ⟨hs,hl⟩,⟨rfl,trivial⟩,trivial,λ_ _=>zX h1 h4 hg b 0 false _ _ (by omega) (λh=>absurd h (by decide)) (λj hj=>absurd hj (Nat.not_lt_zero j)) λj _=>⟨rfl,rfl⟩⟩
noncomputable def lvK(L:Lks)(k:Nat):Lks:=L.filter λl=>decide (k<lvl l.key)
theorem adG{M:Lks}{l:ZLnk}(h: ∀y∈M,kl l.key y.key=true):jv M l=l::M:=by
 cases M with
 |nil=>rfl
 |cons y M=>
  have hy:=h y (by simp);unfold jv;rw[if_neg (λe=>by rw[e,mX]at hy;cases hy),if_pos hy]
theorem qo{x:ZLnk}{L:Lks}{k:Nat}:lvK (x::L) k=if k<lvl x.key then x::lvK L k else lvK L k:=by
 unfold lvK;rw[List.filter_cons];by_cases h:k<lvl x.key
 ·rw[decide_eq_true h,if_pos h];rfl
 ·rw[decide_eq_false h,if_neg h];rfl
theorem ajb{L:Lks}{k:Nat}{x:ZLnk}:x∈lvK L k↔x∈L/\k<lvl x.key:=by unfold lvK;rw[List.mem_filter,decide_eq_true_iff]
theorem asr{L:Lks}{k:Nat}(h:srt L):srt (lvK L k):=List.Pairwise.filter _ h
theorem asu{L:Lks}{k:Nat}:(lvK L k).length<=L.length:=List.length_filter_le _ _
theorem ajc: ∀{L:Lks} {l:ZLnk} {k:Nat},srt L->lvK (jv L l) k=if k<lvl l.key then jv (lvK L k) l else lvK L k
 |[],l,k,_=>by
  show lvK [l] k=_;rw[qo];rfl
 |x::L,l,k,hs=>by
  obtain⟨hs1,hs2⟩:=List.pairwise_cons.1 hs;have ih:=ajc (L:=L) (l:=l) (k:=k) hs2;by_cases hx:x.key=l.key
  ·have e:jv (x::L) l=l::L:=by unfold jv;rw[if_pos hx]
   rw[e,qo,qo,hx];by_cases hk:k<lvl l.key
   ·rw[if_pos hk,if_pos hk,if_pos hk];unfold jv;rw[if_pos hx]
   ·rw[if_neg hk,if_neg hk,if_neg hk]
  ·cases hk2:kl l.key x.key with
   |true=>
    have e:jv (x::L) l=l::x::L:=by unfold jv;rw[if_neg hx,if_pos hk2]
    rw[e,qo];by_cases hk:k<lvl l.key
    ·rw[if_pos hk,if_pos hk,adG λy hy=> ?_]
     obtain⟨hy,_⟩:=ajb.1 hy;rcases List.mem_cons.1 hy with rfl|hy
     ·exact hk2
     ·exact jC hk2 (hs1 y hy)
    ·rw[if_neg hk,if_neg hk]
   |false=>
    have e: ∀M,jv (x::M) l=x::jv M l:=λM=>by rw[jv,if_neg hx,if_neg (by rw[hk2];decide)]
    rw[e,qo,ih,qo];by_cases hk:k<lvl l.key
    ·rw[if_pos hk,if_pos hk]
     by_cases hkx:k<lvl x.key
     ·rw[if_pos hkx,if_pos hkx,e]
     ·rw[if_neg hkx,if_neg hkx]
    ·rw[if_neg hk,if_neg hk]
theorem anH{L:Lks}{s:ByteArray}{k:Nat}:lvK (fZ L s) k=if k<lvl s then fZ (lvK L k) s else lvK L k:=by
 have e:lvK (fZ L s) k=fZ (lvK L k) s:=by
  unfold lvK fZ;rw[List.filter_filter,List.filter_filter];exact List.filter_congr λx _=>Bool.and_comm _ _
 rw[e];by_cases hk:k<lvl s
 ·rw[if_pos hk]
 ·rw[if_neg hk]
  refine List.filter_eq_self.2 λx hx=> ?_
  have hx:=(ajb.1 hx).2;have:x.key≠s:=λe=>by rw[e]at hx;exact hk hx
  rw[decide_eq_false this];rfl
theorem ajd: ∀{L:Lks} {s:ByteArray} {k:Nat},k<lvl s->gY (lvK L k) s=gY L s
 |[],_,_,_=>rfl
 |x::L,s,k,hk=>by
  rw[qo,jU];have ih:=ajd (L:=L) hk;by_cases hx:x.key=s
  ·rw[if_pos (by rw[hx];exact hk),if_pos hx,jU,if_pos hx]
  ·rw[if_neg hx]
   by_cases hkx:k<lvl x.key
   ·rw[if_pos hkx,jU,if_neg hx,ih]
   ·rw[if_neg hkx,ih]
structure Jj (L:Lks) (o:ZOd):Prop where
 srt:srt L
 size:L.length<=300
 lev: ∀k,k<4->o.V k=lvK L k/\(o.z k=true->o.V k=[])
theorem Jj.good{L:Lks}{o:ZOd}(h:Jj L o):o.good:=λk hk=>by
 obtain⟨h1,h2⟩:=h.lev k hk;have:=h.size;have:=asu (L:=L) (k:=k);exact⟨by rw[h1];exact asr h.srt,by rw[h1];omega,h2⟩
noncomputable def ordA(L:Lks):Own:=hide (O8 λh=> ∃t:ZOd,Jj L t/\h=hOf (LC t))
theorem aje(L:Lks):ordA L=O8 λh=> ∃t:ZOd,Jj L t/\h=hOf (LC t):=iK _
structure ajf (X:Type) where
 Y:Type
 post:X->Y->Prop
 ret:X->Y->AV
 L:X->Y->Lks
 m:Nat
 ex:X->Y->List dF
structure asv where
 X:Type
 args:X->List AV
 L:X->Lks
 pre:X->Prop
 outs:List (ajf X)
noncomputable def ajf.po{X:Type}(L0:X->Lks)(o:ajf X):acs (X×ZOd):={Y:=o.Y×ZOd,post:=λx y=>o.post x.1 y.1/\Hd (Jj (o.L x.1 y.1) y.2),ret:=λx y=>o.ret x.1 y.1,m:=o.m,l:=λx y=> .m (LC y.2)::(o.ex x.1 y.1).map PO.o}
noncomputable def ajf.out{X:Type}(o:ajf X):Out X:={Y:=o.Y,post:=o.post,ret:=o.ret,m:=o.m,os:=λx y=> .abs (ordA (o.L x y))::o.ex x y}
noncomputable def asv.E(C:asv):iW:={X:=C.X×ZOd,args:=λx=>C.args x.1,k:=1,l:=λx=>[.m (LC x.2)],pre:=λx=>C.pre x.1/\Hd (Jj (C.L x.1) x.2),outs:=C.outs.map (ajf.po C.L)}
noncomputable def asv.C(C:asv):Ctr:={X:=C.X,args:=C.args,k:=1,os:=λx=>[.abs (ordA (C.L x))],pre:=C.pre,outs:=C.outs.map ajf.out}
theorem aa8{L:Lks}{t:ZOd}(h:Jj L t){w:World}{a:SE.Loc}{S:Nat->Prop}(ho:(ownM (LC t)).holds w a S):(ordA L).holds w a S:=by
 rw[rC]at ho;rw[aje];obtain⟨h0,ρ,e,r⟩:=ho;exact⟨h0,ρ,⟨t,h,e⟩,r⟩
theorem anI{L:Lks}{w:World}{a:SE.Loc}{S:Nat->Prop}(ho:(ordA L).holds w a S): ∃t,Jj L t/\(ownM (LC t)).holds w a S:=by
 rw[aje]at ho;obtain⟨h0,ρ,⟨t,h,e⟩,r⟩:=ho;exact⟨t,h,by rw[rC];exact⟨h0,ρ,e,r⟩⟩
theorem RY{X:Type}{L0:X->Lks}{x:X}{t:ZOd}{v:AV}{h':Heap}: ∀{l:List (ajf X)},(∀o∈l,∀x y,(o.ex x y).length+1=o.m)->kP (x,t) v h' ((l.map (ajf.po L0)).map acs.out)-> ∃v0 h0,Leq 1 v h' v0 h0/\kP x v0 h0 (l.map ajf.out)
 |[],_,h=>by simp only[List.map_nil]at h;rw[yN]at h;exact h.elim
 |o::l,hl,h=>by
  simp only[List.map_cons]at h ⊢;rw[dV]at h;rcases h with ⟨y,h1,rfl,rfl⟩|h
  ·have hlen:=hl o (by simp) x y.1
   have hT:Jj (o.L x y.1) y.2:=aZ.1 h1.2;refine⟨_,hO o.m (.abs (ordA (o.L x y.1))::o.ex x y.1),⟨?_,λρ T w u hR hv=>⟨ρ,λ_ _=>rfl,?_,hv⟩⟩,by rw[dV];exact .inl ⟨y.1,h1.1,rfl,rfl⟩⟩
   ·show 1<=o.m;omega
   ·have hm:((o.ex x y.1).map PO.o).map PO.ab=o.ex x y.1:=by rw[List.map_map];exact(List.map_id _)
    have hR:Rel (hO o.m (.abs (ownM (LC y.2))::o.ex x y.1)) ρ T w:=by
     have e:(acs.out (ajf.po L0 o)).os (x,t) y= .abs (ownM (LC y.2))::o.ex x y.1:=by
      show PO.ab (.m (LC y.2))::((o.ex x y.1).map PO.o).map PO.ab=_;rw[hm];rfl
     rw[<-e];exact hR
    have h2:=hR.swap (i:=0) (o:= .abs (ownM (LC y.2))) (o':= .abs (ordA (o.L x y.1))) (by rw[jq (by simp only[List.length_cons];omega)];rfl) λa S ho=>aa8 hT ho
    exact h2.less (by simp;exact aY _) λj x hj=>by rw[zV (by omega)];exact hj
  ·obtain⟨v0,h0,g1,g2⟩:=RY (l:=l) (λp hp=>hl p (List.mem_cons_of_mem _ hp)) h
   exact⟨v0,h0,g1,by rw[dV];exact .inr g2⟩
theorem ajg{P:Program}{f:FuncId}{C:asv}(hc:lN P f)(hl: ∀o∈C.outs,∀x y,(o.ex x y).length+1=o.m)(hE:cO P f C.E.ctr):cO P f C.C:=λx hp=>by
 refine⟨rfl,hc,λρ T w vs hR hl2=> ?_⟩;obtain⟨t,hR2⟩:=Jg (i:=0) (o:= .abs (ordA (C.L x))) (o':=λt:{t:ZOd//Jj (C.L x) t}=> .abs (ownM (LC t.1))) rfl (λa S ho=>by obtain⟨t,h1,h2⟩:=anI ho;exact⟨⟨t,h1⟩,h2⟩) hR;obtain⟨t,ht⟩:=t;have hR3:Rel (hO 1 [.abs (ownM (LC t))]) ρ T w:=hR2.less (aY _) λj y hj=>by
  have:=zV (n:=1) (o:= .abs (ordA (C.L x))) (o':= .abs (ownM (LC t))) (os:=[]) rfl j;exact this.trans hj
 obtain⟨_,hs⟩:=hE (x,t) ⟨hp,aZ.2 ht⟩;refine(hs.2 ρ T w vs hR3 hl2).mono ?_
 rintro e w' ⟨ρ2,v,u,h',c1,c2,c3,c4,c5,c6,c7⟩
 obtain⟨v0,h0,g1,g2⟩:=RY hl c7;obtain⟨ρ3,q1,q2,q3⟩:=g1.2 ρ2 T w' u c3 c4;exact⟨ρ3,v0,u,h0,λi hi=>(q1 i hi).trans (c1 i hi),g1.1,q2,q3,c5,c6,g2⟩
theorem BK:att:=⟨trivial,trivial,trivial,trivial,trivial,trivial,trivial,trivial,trivial⟩
theorem kF{t:iY}:WU t t:=⟨BK,rfl,rfl,rfl,rfl,rfl,rfl,rfl,rfl,trivial⟩
theorem rQ(t:iY)(b k:Nat)(m:ZMs):(wW t b m k).ms=(bif Nat.beq b k then m.ms else(t k).ms):=by
 unfold wW;rw[dD];by_cases h:k=b
 ·subst h;simp
 ·rw[if_neg h,decide_eq_false (λe=>h e.symm)];rfl
theorem FD{t:iY}{b:Nat}{m:ZMs}{M:MS}(h:M=m.ms):Ht (wW t b m) t b M:=by
 subst h;exact⟨BK,rQ ..,rQ ..,rQ ..,rQ ..,rQ ..,rQ ..,rQ ..,rQ ..,trivial⟩
theorem kG{l:ZLnk}:WV l l:=⟨rfl,rfl,rfl,rfl,rfl,trivial⟩
theorem adH{b:Nat}(hb:b<8)(x:ZTkB)(hs:x.s.size<1099511627776)(e:bkt x.s=b):au3 b x:=
 ⟨x.s,aZ.2 ⟨hs,e⟩,⟨rfl,trivial⟩,trivial,λ_ _=>⟨trivial,⟨by omega,by omega⟩,(),trivial,trivial,kF⟩⟩
theorem adI{b:Nat}(x:ZTq×iY)(h:lJ x.1.L x.2)(hs:x.1.s.size<1099511627776)(e:bkt x.1.s=b):au4 b x:=
 ⟨⟨x.2,x.1.s⟩,aZ.2 ⟨hs,e⟩,⟨rfl,rfl,trivial⟩,kF,λ_ _=>⟨λj hj hk=> .inr ⟨((x.2 b).lk j,x.2),⟨aZ.2 (h.found e hj hk),aZ.2 h⟩,⟨kG,rfl,trivial⟩,kF⟩,λhn=> .inl ⟨((),x.2),⟨aZ.2 (h.none e λj hj hk=>hn j hj hk),aZ.2 h⟩,⟨kG,rfl,trivial⟩,kF⟩⟩⟩
theorem WW{b:Nat}(x:ZTq×iY)(h:lJ x.1.L x.2)(hs:x.1.s.size<1099511627776)(e:bkt x.1.s=b):apN b x:=
 ⟨⟨x.2,x.1.s⟩,aZ.2 ⟨hs,e⟩,⟨rfl,rfl,trivial⟩,kF,λ_ _=>⟨λj hj hk=>⟨λi hi hk'=> .inr ⟨((x.2 b).lk j,wW x.2 b ((x.2 b).del i)),⟨aZ.2 (h.found e hj hk),aZ.2 (h.del e hi hk')⟩,⟨kG,rfl,trivial⟩,FD (auR _ _)⟩,λhn=>(hn j hj hk).elim⟩,
  λhn=>⟨λi hi hk=>(hn i hi hk).elim,λ_=> .inl ⟨((),x.2),⟨aZ.2 (h.none e λj hj hk=>hn j hj hk),aZ.2 h⟩,⟨kG,rfl,trivial⟩,kF⟩⟩⟩⟩
theorem adJ{b:Nat}(x:Hr×iY)(h:lJ x.1.L x.2)(hs:x.1.l.key.size<1099511627776)(hl:(jv x.1.L x.1.l).length<=258)(e:bkt x.1.l.key=b):au5 b x:=
 ⟨⟨x.2,x.1.l.key⟩,aZ.2 ⟨hs,e⟩,⟨rfl,rfl,trivial⟩,kF,λ_ _=>⟨λj hj hk=>⟨λi hi hk'=>⟨((),wW x.2 b ((x.2 b).put i x.1.l)),⟨trivial,aZ.2 (h.put e hi hk' hl hs)⟩,by rw[h.found e hj hk];rfl,FD (auP _ _ _)⟩,λhn=>(hn j hj hk).elim⟩,
  λhn=>⟨λi hi hk=>(hn i hi hk).elim,λ_=>⟨((),wW x.2 b ((x.2 b).add x.1.l)),⟨trivial,aZ.2 (h.add e (λj hj hk=>hn j hj hk) hl hs)⟩,by rw[h.none e λj hj hk=>hn j hj hk];rfl,FD (auQ _ _)⟩⟩⟩⟩
theorem au8{b:Nat}(hb:b<8):cO Tryz.prog 277 (ofC b):=dM dG mixed (tbl:=au1 b) (.cons (bP (adE b)) .nil) noA 200 5 (λ_=>rfl) (λ_=>rfl) λx hx=>Eq.mp (anA b hb x) (adH hb x (aZ.1 hx).1 (aZ.1 hx).2)
def byB(f:FuncId):WTr:=λargs h K=> ∃b,b<8/\wpF Tryz.prog (ai7 b) tt (noA ()) 200 5 f args h K
theorem ajh{f:FuncId}(args:List AV)(h:Heap)(K:AV->Heap->Prop)(hq:byB f args h K):Sp Tryz.prog f args h K:=by
 obtain⟨b,hb,hq⟩:=hq;exact vC dG mixed (tbl:=ai7 b) (.cons (bP (au8 hb)) .nil) (noA ()) 200 5 f args h K hq
theorem WX:cO Tryz.prog 245 atr.C:=Fv ⟨Tryz.f245,by kernel_rfl,by kernel_rfl,by kernel_rfl⟩ (List.forall_mem_cons.2 ⟨λ_ _=>rfl,List.forall_mem_cons.2 ⟨λ_ _=>rfl,λ_ h=>(List.not_mem_nil h).elim⟩⟩) (iU (T:=byB 245) ajh 9 (λ_=>⟨rfl,rfl,rfl,rfl⟩) λx hx=>⟨bkt x.1.s,qJ _,Eq.mp (anB _ (qJ _) x) (adI x (aZ.1 hx.2) (aZ.1 hx.1) rfl)⟩)
theorem anJ:cO Tryz.prog 252 anz.C:=Fv ⟨Tryz.f252,by kernel_rfl,by kernel_rfl,by kernel_rfl⟩ (List.forall_mem_cons.2 ⟨λ_ _=>rfl,List.forall_mem_cons.2 ⟨λ_ _=>rfl,λ_ h=>(List.not_mem_nil h).elim⟩⟩) (iU (T:=byB 252) ajh 9 (λ_=>⟨rfl,rfl,rfl,rfl⟩) λx hx=>⟨bkt x.1.s,qJ _,Eq.mp (ai8 _ (qJ _) x) (WW x (aZ.1 hx.2) (aZ.1 hx.1) rfl)⟩)
theorem asw:cO Tryz.prog 250 au2.C:=Fv ⟨Tryz.f250,by kernel_rfl,by kernel_rfl,by kernel_rfl⟩ (List.forall_mem_cons.2 ⟨λ_ _=>rfl,λ_ h=>(List.not_mem_nil h).elim⟩) (iU (T:=byB 250) ajh 9 (λ_=>⟨rfl,rfl,rfl,rfl⟩) λx hx=>⟨bkt x.1.l.key,qJ _,Eq.mp (anC _ (qJ _) x) (adJ x (aZ.1 hx.2) (aZ.1 hx.1).1 (aZ.1 hx.1).2 rfl)⟩)
theorem aji(b:Nat):cO Tryz.prog 279 (apL b):=jg λs hs=>by
 obtain⟨h1,h2⟩:=aZ.1 hs;refine⟨_,anv,rfl,s,aZ.2 h1,rfl,rfl,λv h' hh=> ?_⟩;have key:v=i64 b/\h'=hO 0 []:=by
  have hh:(∃y:Unit,Hd (lvl s=1)/\v=i64 1/\h'=hO 0 [])\/(∃y:Unit,Hd (lvl s=2)/\v=i64 2/\h'=hO 0 [])\/(∃y:Unit,Hd (lvl s=3)/\v=i64 3/\h'=hO 0 [])\/(∃y:Unit,Hd (lvl s=4)/\v=i64 4/\h'=hO 0 [])\/False:=by
   with_unfolding_all exact hh
  rcases hh with ⟨_,e,e2,e3⟩|⟨_,e,e2,e3⟩|⟨_,e,e2,e3⟩|⟨_,e,e2,e3⟩|hh
  ·rw[<-h2,aZ.1 e];exact⟨e2,e3⟩
  ·rw[<-h2,aZ.1 e];exact⟨e2,e3⟩
  ·rw[<-h2,aZ.1 e];exact⟨e2,e3⟩
  ·rw[<-h2,aZ.1 e];exact⟨e2,e3⟩
  ·exact hh.elim
 exact Eq.mpr (dV (X:=ByteArray) s v h' _ _) (.inl ⟨(),trivial,key.1,key.2⟩)
theorem aa9(b:Nat):dZ Tryz.prog (aso b):= .cons (bP (aji b)) (.cons (bP auW) (.cons (bP asj) (.cons (bP asn) .nil)))
theorem ajj{b:Nat}(h1:1<=b)(h4:b<=4):cO Tryz.prog 251 (aa6 b).ctr:=dh dG mixed (aa9 b) 5 noA 200 6 (λ_=>⟨rfl,rfl,rfl,rfl⟩) λx hx=>Eq.mp (anF b h1 h4 x) (adF h1 h4 (aZ.1 hx).2.2 (aZ.1 hx).1 (aZ.1 hx).2.1)
noncomputable def setO:asv:={X:=Hr,args:=λx=>[.ptr 0 0,x.l.av],L:=λx=>x.L,pre:=λx=>Hd (x.l.key.size<1099511627776/\(jv x.L x.l).length<=300),outs:=[
 {Y:=Unit,post:=λ_ _=>True,ret:=λx _=>boo (gY x.L x.l.key).isSome,L:=λx _=>jv x.L x.l,m:=1,ex:=λ_ _=>[]}]}
theorem Jj.set{L:Lks}{o y:ZOd}(h:Jj L o){l:ZLnk}(hl:(jv L l).length<=300)(hy: ∀k,k<4->(y.V k=if k<lvl l.key then jv (o.V k) l else o.V k)/\(y.z k=true->y.V k=[])):Jj (jv L l) y:=
 ⟨uV h.srt,hl,λk hk=>⟨by rw[(hy k hk).1,ajc h.srt,(h.lev k hk).1],(hy k hk).2⟩⟩
theorem asx:cO Tryz.prog 251 setO.C:=ajg ⟨Tryz.f251,by kernel_rfl,by kernel_rfl,by kernel_rfl⟩ (List.forall_mem_cons.2 ⟨λ_ _=>rfl,λ_ h=>(List.not_mem_nil h).elim⟩) (jg λx hx=>by
 obtain⟨hp,hH⟩:=hx;obtain⟨p1,p2⟩:=aZ.1 hp;have hH:=aZ.1 hH;obtain⟨l1,l4⟩:=apJ x.1.l.key;refine⟨_,ajj l1 l4,rfl,⟨x.2,x.1.l⟩,aZ.2 ⟨p1,rfl,hH.good⟩,rfl,rfl,λv h' hh=> ?_⟩;obtain⟨y,h1,h2,h3⟩:=jh hh;have h1:=aZ.1 h1;refine Eq.mpr (dV (X:=Hr×ZOd) x v h' _ _) (.inl ⟨((),y),⟨trivial,aZ.2 (hH.set p2 h1)⟩,h2.trans ?_,h3⟩);show boo (gY (x.2.V (lvl x.1.l.key-1)) x.1.l.key).isSome=boo (gY x.1.L x.1.l.key).isSome;rw[(hH.lev _ (by omega)).1,ajd (by omega)]
 rfl)
end Go.Proofs.YtenfleoejgjklaaGreat
end
