import Derived.Test.YtenfleoejgjklaaGreatOa
import Derived.Test.YtenfleoejgjklaaGreatOb
import Derived.Test.YtenfleoejgjklaaGreatOc
import Derived.Test.YtenfleoejgjklaaGreatOd
import Derived.Test.YtenfleoejgjklaaGreatOe
import Derived.KernelRfl
import Derived.Tactics
import Derived.Tactics2
import Derived.Defers
import Derived.Laws.Pointers
import Derived.Laws.LoneSync
import Derived.RegionTactic
import Derived.RegionCalls
import Derived.ChangeAlike
import Derived.Laws.Strings
set_option linter.unusedVariables false
set_option linter.unusedSimpArgs false
set_option linter.unnecessarySimpa false
section
namespace Go.Proofs.YtenfleoejgjklaaGreat
open Go SE
def vH(a:Bys)(b:ahP):Prop:=(a.N=64*b.b.dK/\ ∀q:Nat,q<a.N->[Value.int .u8 (a.g q)]=[Value.int .u8 (b.g q)])/\True
def EY(a:ahP):Prop:= ∀k:Nat,k<64*a.b.dK->isByte [Value.int .u8 (a.g (0+k))]=true
def aaJ(a:ZBlk):Prop:=a.kind=0/\a.id=0/\a.ver=0/\a.epoch=0/\a.key=ByteArray.mk #[]/\a.value=ByteArray.mk #[]/\True
def Rj(a:ahP):Prop:=(64*a.b.dK=64*a.b.dK/\ ∀q:Nat,q<64*a.b.dK->[Value.int .u8 (a.g q)]=[Value.int .u8 (a.g q)])/\True
def zN(a:ahP):Prop:=True/\((a.b.cls=0/\aaJ a.b)/\true=false/\True)/\Rj a
def Rk(a:ZBlk)(b:Nat):Prop:=isByte [Value.int .u8 (a.enc (0+b))]=true
def aaK(a:ZBlk):Prop:= ∀k:Nat,k<64*a.dK->Rk a k
def nC(a:Int)(b:EW):Prop:=a=wU (λ(k:Nat)=>b.b.g (b.b.q+k)) b.at_ b.w
def EZ(a:ahP)(b:EW)(c:BL)(d:EW):Prop:=nC a.b.epoch b/\a.b.key=ByteArray.extract c.str 0 (Int.toNat (a.g 3))/\a.b.value=ByteArray.extract c.str (Int.toNat (a.g 3)) (Int.toNat (a.g 3+wU (λ(k:Nat)=>d.b.g (d.b.q+k)) d.at_ d.w))/\True
def yP(a:EW):Prop:=Hd (a.b.ok/\a.at_+a.w<=a.b.n/\1<=a.w/\a.w<=8)
def aaL(a:ZBlk):Prop:=Hd (a.may/\a.key.size<1099511627776/\a.value.size<1099511627776)
def vI(a:ZBlk):Prop:=0+64*a.dK<=64*a.dK
def Jg(a:Nat):Prop:=(a:Int)=8/\True
def aaM(a:ZBlk)(b:BL)(c:ahP)(d:EW):Prop:=a.key=ByteArray.extract b.str 0 (Int.toNat (c.g 3))/\a.value=ByteArray.extract b.str (Int.toNat (c.g 3)) (Int.toNat (c.g 3+wU (λ(k:Nat)=>d.b.g (d.b.q+k)) d.at_ d.w))/\True
def BM(a:Bys)(b:ZBlk):Prop:=a.q=0/\a.n=64*b.dK
def aaN(a:EW)(b:ZBlk):Prop:=BM a.b b/\(a.at_:Int)=24/\Jg a.w
def arq(a:ahP)(b:EW)(c:BL)(d:EW):Prop:=True/\ ∃x_6:EW,yP x_6/\(BM x_6.b a.b/\(x_6.at_:Int)=16/\Jg x_6.w)/\vH x_6.b a/\ ∀y_5:Unit,True->True/\ ∃x_7:EW,yP x_7/\aaN x_7 a.b/\vH x_7.b a/\ ∀y_6:Unit,True->True/\True/\ ∃x_8:ZBlk,aaL x_8/\((x_8.cls=a.g 1/\x_8.kind=a.g 2/\nC x_8.id b/\nC x_8.ver x_6/\nC x_8.epoch x_7/\aaM x_8 c a d)/\True)/\True/\(∀y_7:Unit,Hd (x_8.cls=0)->64<=64/\(∀k:Nat,k<64->Rk x_8 k)/\vI a.b/\EY a/\cP (Bool.not (BEq.beq (ByteArray.toList (@ByteArray.mk (@List.toArray UInt8 (List.map (λ(k:Nat)=>UInt8.ofBitVec (@BitVec.ofNat 8 (Int.toNat (x_8.enc (0+k))))) (@List.range 64))))) (ByteArray.toList (@ByteArray.mk (@List.toArray UInt8 (List.map (λ(k:Nat)=>UInt8.ofBitVec (@BitVec.ofNat 8 (Int.toNat (a.g (0+k))))) (@List.range (64*a.b.dK)))))))) (∃y_8:Unit,zN a) (∃y_8:Unit,True/\((a.b.cls=a.g 1/\a.b.kind=a.g 2/\nC a.b.id b/\nC a.b.ver x_6/\EZ a x_7 c d)/\true=true/\True)/\Rj a))/\ ∀y_7:Unit,Hd (x_8.cls≠(0:Int))->vI x_8/\aaK x_8/\vI a.b/\EY a/\cP (Bool.not (BEq.beq (ByteArray.toList (@ByteArray.mk (@List.toArray UInt8 (List.map (λ(k:Nat)=>UInt8.ofBitVec (@BitVec.ofNat 8 (Int.toNat (x_8.enc (0+k))))) (@List.range (64*x_8.dK)))))) (ByteArray.toList (@ByteArray.mk (@List.toArray UInt8 (List.map (λ(k:Nat)=>UInt8.ofBitVec (@BitVec.ofNat 8 (Int.toNat (a.g (0+k))))) (@List.range (64*a.b.dK)))))))) (∃y_8:Unit,zN a) (∃y_8:Unit,True/\((a.b.cls=a.g 1/\a.b.kind=a.g 2/\nC a.b.id b/\nC a.b.ver x_6/\EZ a x_7 c d)/\true=true/\True)/\Rj a)
def ahQ(a:zM):Prop:=64=64/\ ∀q:Nat,q<64->[Value.int .u8 (a.b.jS (λ(k:Nat)=>a.d.g (a.d.q+k)) a.d.n q)]=[Value.int .u8 (a.b.jS (λ(k:Nat)=>a.d.g (a.d.q+k)) a.d.n q)]
def ahR(a:ZBlk):Prop:=(a.cls=a.cls/\a.kind=a.kind/\a.id=a.id/\a.ver=a.ver/\a.epoch=a.epoch/\a.key=a.key/\a.value=a.value/\True)/\True
def ade(a:zM)(b:Int)(c:ZBlk):Prop:=ahQ a/\(Int.toNat (cpc b)=Int.toNat (cpc b)/\ ∀q:Nat,q<Int.toNat (cpc b)->Cs.eff (λ(p:Nat)=>cond (Nat.ble 0 p&&Nat.blt p (0+ByteArray.size (c.key++c.value))) [Value.int .u8 (dZ (c.key++c.value) (p-0))] [Value.int .u8 0]) [] q=Cs.eff (λ(p:Nat)=>cond (Nat.ble 0 p&&Nat.blt p (0+ByteArray.size (c.key++c.value))) [Value.int .u8 (dZ (c.key++c.value) (p-0))] [Value.int .u8 0]) [] q)/\ahR c
def adf(a:zM)(b:Int)(c:ZBlk):Prop:=ahQ a/\(Int.toNat (cpc b)=Int.toNat (cpc b)/\ ∀q:Nat,q<Int.toNat (cpc b)->Cs.eff (λ(p:Nat)=>cond (Nat.ble 0 p&&Nat.blt p (0+Int.toNat (cpc b))) [Value.int .u8 (dZ (c.key++c.value) (p-0))] [Value.int .u8 0]) [] q=Cs.eff (λ(p:Nat)=>cond (Nat.ble 0 p&&Nat.blt p (0+Int.toNat (cpc b))) [Value.int .u8 (dZ (c.key++c.value) (p-0))] [Value.int .u8 0]) [] q)/\ahR c
def ahS(a:ZBlk)(b:Nat)(c:Nat):Prop:=(Nat.beq (List.length (Cs.eff (λ(p:Nat)=>cond (Nat.ble 0 p&&Nat.blt p (0+ByteArray.size (a.key++a.value))) [Value.int .u8 (dZ (a.key++a.value) (p-0))] [Value.int .u8 0]) [] (28+63*b+c))) 1&&List.all (Cs.eff (λ(p:Nat)=>cond (Nat.ble 0 p&&Nat.blt p (0+ByteArray.size (a.key++a.value))) [Value.int .u8 (dZ (a.key++a.value) (p-0))] [Value.int .u8 0]) [] (28+63*b+c)) Value.oneCell')=true
def ahT(a:ZBlk)(b:Nat):Prop:=(Nat.beq (List.length (Cs.eff (λ(p:Nat)=>cond (Nat.ble 0 p&&Nat.blt p (0+ByteArray.size (a.key++a.value))) [Value.int .u8 (dZ (a.key++a.value) (p-0))] [Value.int .u8 0]) [] (28+b))) 1&&List.all (Cs.eff (λ(p:Nat)=>cond (Nat.ble 0 p&&Nat.blt p (0+ByteArray.size (a.key++a.value))) [Value.int .u8 (dZ (a.key++a.value) (p-0))] [Value.int .u8 0]) [] (28+b)) Value.oneCell')=true
def ahU(a:Int)(b:ZBlk)(c:Nat)(d:Nat):Prop:=(Nat.beq (List.length (Cs.eff (λ(p:Nat)=>cond (Nat.ble 0 p&&Nat.blt p (0+Int.toNat (cpc a))) [Value.int .u8 (dZ (b.key++b.value) (p-0))] [Value.int .u8 0]) [] (28+63*c+d))) 1&&List.all (Cs.eff (λ(p:Nat)=>cond (Nat.ble 0 p&&Nat.blt p (0+Int.toNat (cpc a))) [Value.int .u8 (dZ (b.key++b.value) (p-0))] [Value.int .u8 0]) [] (28+63*c+d)) Value.oneCell')=true
def ahV(a:Int)(b:ZBlk)(c:Nat):Prop:=(Nat.beq (List.length (Cs.eff (λ(p:Nat)=>cond (Nat.ble 0 p&&Nat.blt p (0+Int.toNat (cpc a))) [Value.int .u8 (dZ (b.key++b.value) (p-0))] [Value.int .u8 0]) [] (28+c))) 1&&List.all (Cs.eff (λ(p:Nat)=>cond (Nat.ble 0 p&&Nat.blt p (0+Int.toNat (cpc a))) [Value.int .u8 (dZ (b.key++b.value) (p-0))] [Value.int .u8 0]) [] (28+c)) Value.oneCell')=true
def ahW(a:ZBlk)(b:zM):Prop:=(∃y_4:Unit,Hd (a.cls=0)/\((0=0/\64=64/\64=64)/\(0:Int)=0/\True)/\(64=64/\ ∀q:Nat,q<64->[Value.int .u8 (a.enc q)]=[Value.int .u8 (b.b.jS (λ(k:Nat)=>b.d.g (b.d.q+k)) b.d.n q)])/\True)\/ ∃y_4:Unit,Hd (a.cls≠(0:Int))/\(False/\(0:Int)=0/\True)/\False/\True
def Rl:Prop:=(0:Int)<=64/\(0:Int)<=0/\(0:Int)<=281474976710592/\(0:Int)<=4611686018427387839
def ahX(a:ZBlk)(b:Nat):Prop:=(∃y_4:Unit,Hd (a.cls=0)/\(False/\(0:Int)=0/\True)/\False/\True)\/ ∃y_4:Unit,Hd (a.cls≠(0:Int))/\((0=0/\64*a.dK=64*(b+1))/\(0:Int)=0/\True)/\(64*a.dK=64*(b+1)/\ ∀q:Nat,q<64*a.dK->[Value.int .u8 (a.enc q)]=[Value.int .u8 (a.enc q)])/\True
def Rn(a:ZBlk)(b:Nat):Prop:=a.iH-28-63*b<=a.iH-28-63*b
def aaO(a:ZBlk)(b:ZBlk):Prop:=a.cls=b.cls/\a.kind=b.kind/\a.id=b.id/\a.ver=b.ver/\a.epoch=b.epoch/\a.key=b.key/\a.value=b.value/\True
def E5(a:Nat)(b:Nat):Prop:=64*(a+1)=64*(b+1)+64
def ahY(a:Nat)(b:Nat)(c:ZBlk):Prop:=(a:Int)=(b:Int)+1/\(28+63*a=28+63*b+(c.iH-28-63*b)/\c.iH-28-63*a=c.iH-28-63*b-(c.iH-28-63*b)/\c.iH-28-63*a=c.iH-28-63*b-(c.iH-28-63*b))/\(0=0/\E5 a b)/\True
def Ro(a:ZBlk)(b:Nat):Prop:=Rn a b/\Rn a b
def rP(a:Nat)(b:ZBlk):Prop:=Hd (1<=a/\a+1<=b.dK)
def Jh(a:Bys):Prop:=(rowB a.g a.N=rowB a.g a.N/\true=true)/\True
def ahZ(a:Nat)(b:Nat)(c:ZBlk):Prop:=(a:Int)=(b:Int)+1/\(28+63*a=28+63*b+63/\c.iH-28-63*a=c.iH-28-63*b-63/\c.iH-28-63*a=c.iH-28-63*b-63)/\(0=0/\E5 a b)/\True
def ah0(a:Nat)(b:ZBlk):Prop:=(a:Int)=1/\(28+63*a=28+(b.iH-28)/\b.iH-28-63*a=b.iH-28-(b.iH-28)/\b.iH-28-63*a=b.iH-28-(b.iH-28))/\(0=0/\64*(a+1)=128)/\True
def rQ(a:ZBlk):Prop:=a.iH-28<=a.iH-28
def ah1(a:Nat)(b:ZBlk):Prop:=(a:Int)=1/\(28+63*a=91/\b.iH-28-63*a=b.iH-28-63/\b.iH-28-63*a=b.iH-28-63)/\(0=0/\64*(a+1)=128)/\True
def Rq(a:Nat):Prop:=(2*(64*(a+1)+64)+1000)*1<=281474976710656
def E8:Prop:=(0:Int)<=0/\(0:Int)<=63
def Rt:Prop:=(2*(64+64)+1000)*1<=281474976710656
def ah2(a:ZBlk)(b:Int):Prop:=(0:Int)=0/\(28=28/\a.iH-28=Int.toNat (cpc b)-28/\a.iH-28=Int.toNat (cpc b)-28)/\(0=0/\64=64/\64=64)/\True
def ah3(a:ZBlk)(b:Nat):Prop:=(Nat.beq (List.length [Value.int .u8 (dZ (a.key++a.value) b)]) 1&&List.all [Value.int .u8 (dZ (a.key++a.value) b)] Value.oneCell')=true
def ah4(a:Int):Prop:=28<=Int.toNat (cpc a)/\Int.toNat (cpc a)<=Int.toNat (cpc a)/\Int.toNat (cpc a)<=Int.toNat (cpc a)
def Ru:Prop:=1<=64/\64<=64/\64<=64
def ah5(a:Nat)(b:Nat):Prop:=28+63*a=28+63*b+(Int.toNat (((64+64*b:Nat):Int)+64)-Int.toNat (((64+64*b:Nat):Int)+1))
def aaP(a:Int):Prop:=0<=cpc a/\cpc a<=cpc a/\1*cpc a<=281474976710656/\cpc a<4611686018427387904
def ars(x:ZBlk):Prop:=
 ∃x_1:ZBlk,Hd (x_1.key.size<1099511627776/\x_1.value.size<1099511627776)/\(aaO x_1 x/\True)/\True/\ ∀y:Unit,True->cP (Bool.not x_1.OY) ((∃y_1:Unit,Hd (x.cls=0)/\(False/\(0:Int)=3/\True)/\False/\True)\/ ∃y_1:Unit,Hd (x.cls≠(0:Int))/\(False/\(0:Int)=3/\True)/\False/\True) (∃x_2:Int,True/\(x_2=x.cls/\True)/\True/\ ∀y_1:Unit,True->aaP x_2/\((x.key.size+x.value.size:Nat):Int)<=9223372036854775807/\0+Int.toNat (cpc x_2)<=Int.toNat (cpc x_2)/\cP (Nat.ble (ByteArray.size (x.key++x.value)) (Int.toNat (cpc x_2))) ((∀k:Nat,k<ByteArray.size (x.key++x.value)->ah3 x k)/\ ∃x_3:zM,Hd x_3.ok/\(aaO x_3.b x/\(x_3.d.q=0/\x_3.d.n=Int.toNat (cpc x_2))/\True)/\((x_3.d.N=Int.toNat (cpc x_2)/\ ∀q:Nat,q<x_3.d.N->[Value.int .u8 (x_3.d.g q)]=Cs.eff (λ(p:Nat)=>cond (Nat.ble 0 p&&Nat.blt p (0+ByteArray.size (x.key++x.value))) [Value.int .u8 (dZ (x.key++x.value) (p-0))] [Value.int .u8 0]) [] q)/\True)/\ ∀y_2:Unit,True->(0:Int)<=28/\ah4 x_2/\ ∃x_4:Int,True/\(x_4=x.cls/\True)/\True/\ ∀y_3:Unit,True->I64 (spn x_4-1)/\(∃s:Unit,Hd True/\True/\ah2 x x_2/\ade x_3 x_2 x)/\(∀s:Unit,Hd True->cP (decide (0<spn x_4-1)) (Rl/\E8/\0<64/\(0:Int)<=1/\Ru/\64<=64/\cP (Nat.ble (x.iH-28) 63) (28+(x.iH-28)<=Int.toNat (cpc x_2)/\(∀k:Nat,k<x.iH-28->ahT x k)/\0<=((x.iH-28:Nat):Int)/\(rQ x/\rQ x/\rQ x)/\64<=64/\64<=64/\Rt/\I64 (1:Int)/\ ∃s_1:Nat,rP s_1 x/\x.dK-s_1<x.dK+1/\ah0 s_1 x/\(64*(s_1+1)=128/\
 ∀q:Nat,q<64*(s_1+1)->[Value.int .u8 (x.enc q)]=Cs.eff (λ(q_1:Nat)=>cond (Nat.blt q_1 64) [Value.int .u8 (x_3.b.jS (λ(k:Nat)=>x_3.d.g (x_3.d.q+k)) x_3.d.n (0+q_1))] (Cs.eff (λ(p:Nat)=>cond (Nat.ble 1 p&&Nat.blt p (1+(x.iH-28))) (Cs.eff (λ(p_1:Nat)=>cond (Nat.ble 0 p_1&&Nat.blt p_1 (0+ByteArray.size (x.key++x.value))) [Value.int .u8 (dZ (x.key++x.value) (p_1-0))] [Value.int .u8 0]) [] (28+(p-1))) (Cs.eff (λ(x_5:Nat)=>[Value.int .u8 0]) [(0,[Value.int .u8 2])] p)) [] (0+(q_1-64)))) [] q)/\ade x_3 x_2 x) (91<=Int.toNat (cpc x_2)/\(∀k:Nat,k<63->ahT x k)/\0<=((63:Nat):Int)/\(63<=x.iH-28/\rQ x/\rQ x)/\64<=64/\64<=64/\Rt/\I64 (1:Int)/\ ∃s_1:Nat,rP s_1 x/\x.dK-s_1<x.dK+1/\ah1 s_1 x/\(64*(s_1+1)=128/\ ∀q:Nat,q<64*(s_1+1)->[Value.int .u8 (x.enc q)]=Cs.eff (λ(q_1:Nat)=>cond (Nat.blt q_1 64) [Value.int .u8 (x_3.b.jS (λ(k:Nat)=>x_3.d.g (x_3.d.q+k)) x_3.d.n (0+q_1))] (Cs.eff (λ(p:Nat)=>cond (Nat.ble 1 p&&Nat.blt p 64) (Cs.eff (λ(p_1:Nat)=>cond (Nat.ble 0 p_1&&Nat.blt p_1 (0+ByteArray.size (x.key++x.value))) [Value.int .u8 (dZ (x.key++x.value) (p_1-0))] [Value.int .u8 0]) [] (28+(p-1))) (Cs.eff (λ(x_5:Nat)=>[Value.int .u8 0]) [(0,[Value.int .u8 2])] p)) [] (0+(q_1-64)))) [] q)/\ade x_3 x_2 x)) (ahW x x_3))/\(∀s:Nat,rP s x->cP (decide ((s:Int)<spn x_4-1)) (Rl/\E8/\0<64/\(0:Int)<=1/\Ru/\64<=64/\cP (Nat.ble (x.iH-28-63*s) 63) (28+63*s+(x.iH-28-63*s)<=Int.toNat (cpc x_2)/\(∀k:Nat,k<x.iH-28-63*s->ahS x s k)/\0<=((x.iH-28-63*s:Nat):Int)/\(Rn x s/\
 Ro x s)/\64*(s+1)=64*(s+1)/\64<=64/\(∀k:Nat,k<64->(Nat.beq (List.length (Cs.eff (λ(p:Nat)=>cond (Nat.ble 1 p&&Nat.blt p (1+(x.iH-28-63*s))) (Cs.eff (λ(p_1:Nat)=>cond (Nat.ble 0 p_1&&Nat.blt p_1 (0+ByteArray.size (x.key++x.value))) [Value.int .u8 (dZ (x.key++x.value) (p_1-0))] [Value.int .u8 0]) [] (28+63*s+(p-1))) (Cs.eff (λ(x_5:Nat)=>[Value.int .u8 0]) [(0,[Value.int .u8 2])] p)) [] (0+k))) 1&&List.all (Cs.eff (λ(p:Nat)=>cond (Nat.ble 1 p&&Nat.blt p (1+(x.iH-28-63*s))) (Cs.eff (λ(p_1:Nat)=>cond (Nat.ble 0 p_1&&Nat.blt p_1 (0+ByteArray.size (x.key++x.value))) [Value.int .u8 (dZ (x.key++x.value) (p_1-0))] [Value.int .u8 0]) [] (28+63*s+(p-1))) (Cs.eff (λ(x_5:Nat)=>[Value.int .u8 0]) [(0,[Value.int .u8 2])] p)) [] (0+k)) Value.oneCell')=true)/\Rq s/\I64 ((s:Int)+1)/\ ∃s_1:Nat,rP s_1 x/\x.dK-s_1<x.dK-s/\ahY s_1 s x/\(E5 s_1 s/\ ∀q:Nat,q<64*(s_1+1)->[Value.int .u8 (x.enc q)]=Cs.eff (λ(q_1:Nat)=>cond (Nat.blt q_1 (64*(s+1))) [Value.int .u8 (x.enc q_1)] (Cs.eff (λ(p:Nat)=>cond (Nat.ble 1 p&&Nat.blt p (1+(x.iH-28-63*s))) (Cs.eff (λ(p_1:Nat)=>cond (Nat.ble 0 p_1&&Nat.blt p_1 (0+ByteArray.size (x.key++x.value))) [Value.int .u8 (dZ (x.key++x.value) (p_1-0))] [Value.int .u8 0]) [] (28+63*s+(p-1))) (Cs.eff (λ(x_5:Nat)=>[Value.int .u8 0]) [(0,[Value.int .u8 2])] p)) [] (0+(q_1-64*(s+1))))) [] q)/\ade x_3 x_2 x) (28+63*s+63<=Int.toNat (cpc x_2)/\(∀k:Nat,k<63->ahS x s k)/\0<=((63:Nat):Int)/\(63<=x.iH-28-63*s/\Ro x s)/\64*(s+1)=64*(s+1)/\64<=64/\
 (∀k:Nat,k<64->(Nat.beq (List.length (Cs.eff (λ(p:Nat)=>cond (Nat.ble 1 p&&Nat.blt p 64) (Cs.eff (λ(p_1:Nat)=>cond (Nat.ble 0 p_1&&Nat.blt p_1 (0+ByteArray.size (x.key++x.value))) [Value.int .u8 (dZ (x.key++x.value) (p_1-0))] [Value.int .u8 0]) [] (28+63*s+(p-1))) (Cs.eff (λ(x_5:Nat)=>[Value.int .u8 0]) [(0,[Value.int .u8 2])] p)) [] (0+k))) 1&&List.all (Cs.eff (λ(p:Nat)=>cond (Nat.ble 1 p&&Nat.blt p 64) (Cs.eff (λ(p_1:Nat)=>cond (Nat.ble 0 p_1&&Nat.blt p_1 (0+ByteArray.size (x.key++x.value))) [Value.int .u8 (dZ (x.key++x.value) (p_1-0))] [Value.int .u8 0]) [] (28+63*s+(p-1))) (Cs.eff (λ(x_5:Nat)=>[Value.int .u8 0]) [(0,[Value.int .u8 2])] p)) [] (0+k)) Value.oneCell')=true)/\Rq s/\I64 ((s:Int)+1)/\ ∃s_1:Nat,rP s_1 x/\x.dK-s_1<x.dK-s/\ahZ s_1 s x/\(E5 s_1 s/\ ∀q:Nat,q<64*(s_1+1)->[Value.int .u8 (x.enc q)]=Cs.eff (λ(q_1:Nat)=>cond (Nat.blt q_1 (64*(s+1))) [Value.int .u8 (x.enc q_1)] (Cs.eff (λ(p:Nat)=>cond (Nat.ble 1 p&&Nat.blt p 64) (Cs.eff (λ(p_1:Nat)=>cond (Nat.ble 0 p_1&&Nat.blt p_1 (0+ByteArray.size (x.key++x.value))) [Value.int .u8 (dZ (x.key++x.value) (p_1-0))] [Value.int .u8 0]) [] (28+63*s+(p-1))) (Cs.eff (λ(x_5:Nat)=>[Value.int .u8 0]) [(0,[Value.int .u8 2])] p)) [] (0+(q_1-64*(s+1))))) [] q)/\ade x_3 x_2 x)) (ahX x s))/\True) ((∀k:Nat,k<Int.toNat (cpc x_2)->ah3 x k)/\ ∃x_3:zM,Hd x_3.ok/\(aaO x_3.b x/\(x_3.d.q=0/\x_3.d.n=Int.toNat (cpc x_2))/\True)/\((x_3.d.N=Int.toNat (cpc x_2)/\
 ∀q:Nat,q<x_3.d.N->[Value.int .u8 (x_3.d.g q)]=Cs.eff (λ(p:Nat)=>cond (Nat.ble 0 p&&Nat.blt p (0+Int.toNat (cpc x_2))) [Value.int .u8 (dZ (x.key++x.value) (p-0))] [Value.int .u8 0]) [] q)/\True)/\ ∀y_2:Unit,True->(0:Int)<=28/\ah4 x_2/\ ∃x_4:Int,True/\(x_4=x.cls/\True)/\True/\ ∀y_3:Unit,True->I64 (spn x_4-1)/\(∃s:Unit,Hd True/\True/\ah2 x x_2/\adf x_3 x_2 x)/\(∀s:Unit,Hd True->cP (decide (0<spn x_4-1)) (Rl/\E8/\0<64/\(0:Int)<=1/\Ru/\64<=64/\cP (Nat.ble (x.iH-28) 63) (28+(x.iH-28)<=Int.toNat (cpc x_2)/\(∀k:Nat,k<x.iH-28->ahV x_2 x k)/\0<=((x.iH-28:Nat):Int)/\(rQ x/\rQ x/\rQ x)/\64<=64/\64<=64/\Rt/\I64 (1:Int)/\ ∃s_1:Nat,rP s_1 x/\x.dK-s_1<x.dK+1/\ah0 s_1 x/\(64*(s_1+1)=128/\ ∀q:Nat,q<64*(s_1+1)->[Value.int .u8 (x.enc q)]=Cs.eff (λ(q_1:Nat)=>cond (Nat.blt q_1 64) [Value.int .u8 (x_3.b.jS (λ(k:Nat)=>x_3.d.g (x_3.d.q+k)) x_3.d.n (0+q_1))] (Cs.eff (λ(p:Nat)=>cond (Nat.ble 1 p&&Nat.blt p (1+(x.iH-28))) (Cs.eff (λ(p_1:Nat)=>cond (Nat.ble 0 p_1&&Nat.blt p_1 (0+Int.toNat (cpc x_2))) [Value.int .u8 (dZ (x.key++x.value) (p_1-0))] [Value.int .u8 0]) [] (28+(p-1))) (Cs.eff (λ(x_5:Nat)=>[Value.int .u8 0]) [(0,[Value.int .u8 2])] p)) [] (0+(q_1-64)))) [] q)/\adf x_3 x_2 x) (91<=Int.toNat (cpc x_2)/\(∀k:Nat,k<63->ahV x_2 x k)/\0<=((63:Nat):Int)/\(63<=x.iH-28/\rQ x/\rQ x)/\64<=64/\64<=64/\Rt/\I64 (1:Int)/\ ∃s_1:Nat,rP s_1 x/\x.dK-s_1<x.dK+1/\ah1 s_1 x/\(64*(s_1+1)=128/\
 ∀q:Nat,q<64*(s_1+1)->[Value.int .u8 (x.enc q)]=Cs.eff (λ(q_1:Nat)=>cond (Nat.blt q_1 64) [Value.int .u8 (x_3.b.jS (λ(k:Nat)=>x_3.d.g (x_3.d.q+k)) x_3.d.n (0+q_1))] (Cs.eff (λ(p:Nat)=>cond (Nat.ble 1 p&&Nat.blt p 64) (Cs.eff (λ(p_1:Nat)=>cond (Nat.ble 0 p_1&&Nat.blt p_1 (0+Int.toNat (cpc x_2))) [Value.int .u8 (dZ (x.key++x.value) (p_1-0))] [Value.int .u8 0]) [] (28+(p-1))) (Cs.eff (λ(x_5:Nat)=>[Value.int .u8 0]) [(0,[Value.int .u8 2])] p)) [] (0+(q_1-64)))) [] q)/\adf x_3 x_2 x)) (ahW x x_3))/\(∀s:Nat,rP s x->cP (decide ((s:Int)<spn x_4-1)) (Rl/\E8/\0<64/\(0:Int)<=1/\Ru/\64<=64/\cP (Nat.ble (x.iH-28-63*s) 63) (28+63*s+(x.iH-28-63*s)<=Int.toNat (cpc x_2)/\(∀k:Nat,k<x.iH-28-63*s->ahU x_2 x s k)/\0<=((x.iH-28-63*s:Nat):Int)/\(Rn x s/\Ro x s)/\64*(s+1)=64*(s+1)/\64<=64/\(∀k:Nat,k<64->(Nat.beq (List.length (Cs.eff (λ(p:Nat)=>cond (Nat.ble 1 p&&Nat.blt p (1+(x.iH-28-63*s))) (Cs.eff (λ(p_1:Nat)=>cond (Nat.ble 0 p_1&&Nat.blt p_1 (0+Int.toNat (cpc x_2))) [Value.int .u8 (dZ (x.key++x.value) (p_1-0))] [Value.int .u8 0]) [] (28+63*s+(p-1))) (Cs.eff (λ(x_5:Nat)=>[Value.int .u8 0]) [(0,[Value.int .u8 2])] p)) [] (0+k))) 1&&List.all (Cs.eff (λ(p:Nat)=>cond (Nat.ble 1 p&&Nat.blt p (1+(x.iH-28-63*s))) (Cs.eff (λ(p_1:Nat)=>cond (Nat.ble 0 p_1&&Nat.blt p_1 (0+Int.toNat (cpc x_2))) [Value.int .u8 (dZ (x.key++x.value) (p_1-0))] [Value.int .u8 0]) [] (28+63*s+(p-1))) (Cs.eff (λ(x_5:Nat)=>[Value.int .u8 0]) [(0,[Value.int .u8 2])] p)) [] (0+k)) Value.oneCell')=true)/\
 Rq s/\I64 ((s:Int)+1)/\ ∃s_1:Nat,rP s_1 x/\x.dK-s_1<x.dK-s/\ahY s_1 s x/\(E5 s_1 s/\ ∀q:Nat,q<64*(s_1+1)->[Value.int .u8 (x.enc q)]=Cs.eff (λ(q_1:Nat)=>cond (Nat.blt q_1 (64*(s+1))) [Value.int .u8 (x.enc q_1)] (Cs.eff (λ(p:Nat)=>cond (Nat.ble 1 p&&Nat.blt p (1+(x.iH-28-63*s))) (Cs.eff (λ(p_1:Nat)=>cond (Nat.ble 0 p_1&&Nat.blt p_1 (0+Int.toNat (cpc x_2))) [Value.int .u8 (dZ (x.key++x.value) (p_1-0))] [Value.int .u8 0]) [] (28+63*s+(p-1))) (Cs.eff (λ(x_5:Nat)=>[Value.int .u8 0]) [(0,[Value.int .u8 2])] p)) [] (0+(q_1-64*(s+1))))) [] q)/\adf x_3 x_2 x) (28+63*s+63<=Int.toNat (cpc x_2)/\(∀k:Nat,k<63->ahU x_2 x s k)/\0<=((63:Nat):Int)/\(63<=x.iH-28-63*s/\Ro x s)/\64*(s+1)=64*(s+1)/\64<=64/\(∀k:Nat,k<64->(Nat.beq (List.length (Cs.eff (λ(p:Nat)=>cond (Nat.ble 1 p&&Nat.blt p 64) (Cs.eff (λ(p_1:Nat)=>cond (Nat.ble 0 p_1&&Nat.blt p_1 (0+Int.toNat (cpc x_2))) [Value.int .u8 (dZ (x.key++x.value) (p_1-0))] [Value.int .u8 0]) [] (28+63*s+(p-1))) (Cs.eff (λ(x_5:Nat)=>[Value.int .u8 0]) [(0,[Value.int .u8 2])] p)) [] (0+k))) 1&&List.all (Cs.eff (λ(p:Nat)=>cond (Nat.ble 1 p&&Nat.blt p 64) (Cs.eff (λ(p_1:Nat)=>cond (Nat.ble 0 p_1&&Nat.blt p_1 (0+Int.toNat (cpc x_2))) [Value.int .u8 (dZ (x.key++x.value) (p_1-0))] [Value.int .u8 0]) [] (28+63*s+(p-1))) (Cs.eff (λ(x_5:Nat)=>[Value.int .u8 0]) [(0,[Value.int .u8 2])] p)) [] (0+k)) Value.oneCell')=true)/\Rq s/\I64 ((s:Int)+1)/\ ∃s_1:Nat,rP s_1 x/\x.dK-s_1<x.dK-s/\ahZ s_1 s x/\(E5 s_1 s/\
 ∀q:Nat,q<64*(s_1+1)->[Value.int .u8 (x.enc q)]=Cs.eff (λ(q_1:Nat)=>cond (Nat.blt q_1 (64*(s+1))) [Value.int .u8 (x.enc q_1)] (Cs.eff (λ(p:Nat)=>cond (Nat.ble 1 p&&Nat.blt p 64) (Cs.eff (λ(p_1:Nat)=>cond (Nat.ble 0 p_1&&Nat.blt p_1 (0+Int.toNat (cpc x_2))) [Value.int .u8 (dZ (x.key++x.value) (p_1-0))] [Value.int .u8 0]) [] (28+63*s+(p-1))) (Cs.eff (λ(x_5:Nat)=>[Value.int .u8 0]) [(0,[Value.int .u8 2])] p)) [] (0+(q_1-64*(s+1))))) [] q)/\adf x_3 x_2 x)) (ahX x s))/\True))
theorem amI(x:ZBlk):ars x=wpF Tryz.prog arp tt (aud x) 200 5 180 (apg.args x) (hO apg.k (apg.os x)) (λv h'=>eG apg.k x v h' apg.outs):=by kernel_rfl
def Wu(x:Int):Prop:=
 ∃x_1:Int,True/\(x_1=x/\True)/\True/\ ∀y:Unit,True->cP (BEq.beq (spn x_1) (0:Int)) (∃y_1:Unit,True/\False/\False/\True) (∃x_2:Int,True/\(x_2=x/\True)/\True/\ ∀y_1:Unit,True->aaP x_2/\ ∃x_3:zM,Hd x_3.ok/\((x_3.b.cls=x/\aaJ x_3.b)/\(x_3.d.q=0/\x_3.d.n=Int.toNat (cpc x_2))/\True)/\((x_3.d.N=Int.toNat (cpc x_2)/\ ∀q:Nat,q<x_3.d.N->[Value.int .u8 (x_3.d.g q)]=[Value.int .u8 0])/\True)/\ ∀y_2:Unit,True-> ∃y_3:Unit,True/\(0=0/\64=64/\64=64)/\(64=64/\ ∀q:Nat,q<64->[Value.int .u8 (ZBlk.jS (ZBlk.mk x (0:Int) (0:Int) (0:Int) (0:Int) (ByteArray.mk #[]) (ByteArray.mk #[])) (λ(x_4:Nat)=>(0:Int)) (Int.toNat (cpc x)) q)]=[Value.int .u8 (x_3.b.jS (λ(k:Nat)=>x_3.d.g (x_3.d.q+k)) x_3.d.n q)])/\True)
theorem adg(x:Int):Wu x=wpF Tryz.prog arp tt (noA x) 200 5 63 (EX.args x) (hO EX.k (EX.os x)) (λv h'=>eG EX.k x v h' EX.outs):=by kernel_rfl
def ah6(x:BL):Prop:=
 (0:Int)<=64/\(0:Int)<=36/\(36<=64/\64<=x.b.n/\x.b.n<=x.b.n)/\x.b.q+36+28<=x.b.N/\(2*(0+28)+1000)*1<=281474976710656/\(∃s:Unit,Hd True/\True/\((64:Int)=64/\(0=0/\28=0+28)/\True)/\(28=28/\ ∀q:Nat,q<28->[Value.int .u8 (x.at_ q)]=[Value.int .u8 (x.b.g (x.b.q+36+(q-0)))])/\True/\Jh x.b)/\(∀s:Unit,Hd True->cP (decide (64<(x.b.n:Int))) (I64 (65:Int)/\I64 (128:Int)/\(0:Int)<=128/\(0:Int)<=65/\(65<=128/\128<=x.b.n/\x.b.n<=x.b.n)/\28=28/\x.b.q+65+63<=x.b.N/\(∀k:Nat,k<63->(Nat.beq (List.length [Value.int .u8 (x.b.g (x.b.q+65+k))]) 1&&List.all [Value.int .u8 (x.b.g (x.b.q+65+k))] Value.oneCell')=true)/\(2*(28+63)+1000)*1<=281474976710656/\I64 (128:Int)/\ ∃s_1:Nat,Hd (1<=s_1/\s_1+1<=x.s)/\x.s-s_1<x.s+1/\(((64+64*s_1:Nat):Int)=128/\(0=0/\28+63*s_1=91)/\True)/\(28+63*s_1=91/\ ∀q:Nat,q<28+63*s_1->[Value.int .u8 (x.at_ q)]=Cs.eff (λ(q_1:Nat)=>cond (Nat.blt q_1 28) [Value.int .u8 (x.at_ q_1)] [Value.int .u8 (x.b.g (x.b.q+65+(q_1-28)))]) [] q)/\True/\Jh x.b) (28<=28/\(∀k:Nat,k<28->isByte [Value.int .u8 (x.at_ (0+k))]=true)/\ ∃y:Unit,True/\x.str= @ByteArray.mk (@List.toArray UInt8 (List.map (λ(k:Nat)=>UInt8.ofBitVec (@BitVec.ofNat 8 (Int.toNat (x.at_ (0+k))))) (@List.range 28)))/\Jh x.b))/\(∀s:Nat,Hd (1<=s/\s+1<=x.s)->cP (decide (((64+64*s:Nat):Int)<(x.b.n:Int))) (I64 (((64+64*s:Nat):Int)+1)/\I64 (((64+64*s:Nat):Int)+64)/\0<=((64+64*s:Nat):Int)+64/\0<=((64+64*s:Nat):Int)+1/\(Int.toNat (((64+64*s:Nat):Int)+1)<=Int.toNat (((64+64*s:Nat):Int)+64)/\
 Int.toNat (((64+64*s:Nat):Int)+64)<=x.b.n/\x.b.n<=x.b.n)/\28+63*s=28+63*s/\x.b.q+Int.toNat (((64+64*s:Nat):Int)+1)+(Int.toNat (((64+64*s:Nat):Int)+64)-Int.toNat (((64+64*s:Nat):Int)+1))<=x.b.N/\(∀k:Nat,k<Int.toNat (((64+64*s:Nat):Int)+64)-Int.toNat (((64+64*s:Nat):Int)+1)->(Nat.beq (List.length [Value.int .u8 (x.b.g (x.b.q+Int.toNat (((64+64*s:Nat):Int)+1)+k))]) 1&&List.all [Value.int .u8 (x.b.g (x.b.q+Int.toNat (((64+64*s:Nat):Int)+1)+k))] Value.oneCell')=true)/\(2*(28+63*s+(Int.toNat (((64+64*s:Nat):Int)+64)-Int.toNat (((64+64*s:Nat):Int)+1)))+1000)*1<=281474976710656/\I64 (((64+64*s:Nat):Int)+64)/\ ∃s_1:Nat,Hd (1<=s_1/\s_1+1<=x.s)/\x.s-s_1<x.s-s/\(((64+64*s_1:Nat):Int)=((64+64*s:Nat):Int)+64/\(0=0/\ah5 s_1 s)/\True)/\(ah5 s_1 s/\ ∀q:Nat,q<28+63*s_1->[Value.int .u8 (x.at_ q)]=Cs.eff (λ(q_1:Nat)=>cond (Nat.blt q_1 (28+63*s)) [Value.int .u8 (x.at_ q_1)] [Value.int .u8 (x.b.g (x.b.q+Int.toNat (((64+64*s:Nat):Int)+1)+(q_1-(28+63*s))))]) [] q)/\True/\Jh x.b) (0+(28+63*s)<=28+63*s/\(∀k:Nat,k<28+63*s->isByte [Value.int .u8 (x.at_ (0+k))]=true)/\ ∃y:Unit,True/\x.str= @ByteArray.mk (@List.toArray UInt8 (List.map (λ(k:Nat)=>UInt8.ofBitVec (@BitVec.ofNat 8 (Int.toNat (x.at_ (0+k))))) (@List.range (28+63*s))))/\Jh x.b))/\True
theorem ah7(x:BL):ah6 x=wpF Tryz.prog [] tt (aph x) 200 5 179 (Ws.args x) (hO Ws.k (Ws.os x)) (λv h'=>eG Ws.k x v h' Ws.outs):=by kernel_rfl
def aru(x:ahP):Prop:=
 cP (decide (((64*x.b.dK:Nat):Int)<64)) (∃y:Unit,zN x) ((0:Int)<=64/\(0<=64/\64<=64*x.b.dK/\64*x.b.dK<=64*x.b.dK)/\E8/\0<64*x.b.dK/\cP (bne (x.g 0) (1:Int)) (∃y:Unit,zN x) (((0:Int)<=1/\(0:Int)<=62)/\1<64*x.b.dK/\I64 (x.g 1)/\ ∃x_1:Int,True/\(x_1=x.g 1/\True)/\True/\ ∀y:Unit,True->cP (BEq.beq (spn x_1) (0:Int)) (∃y_1:Unit,zN x) (((0:Int)<=2/\(0:Int)<=61)/\2<64*x.b.dK/\cP (decide (x.g 2>(3:Int))) (∃y_1:Unit,zN x) (((0:Int)<=1/\(0:Int)<=62)/\1<64*x.b.dK/\I64 (x.g 1)/\((0:Int)<=2/\(0:Int)<=61)/\2<64*x.b.dK/\I64 (x.g 2)/\ ∃x_2:Int,True/\(x_2=x.g 1/\True)/\True/\ ∀y_1:Unit,True->I64 (spn x_2*64)/\cP (bne ((64*x.b.dK:Nat):Int) (spn x_2*64)) (∃y_2:Unit,zN x) (((0:Int)<=3/\4<=((64*x.b.dK:Nat):Int))/\3<64*x.b.dK/\I64 (x.g 3)/\ ∃x_3:EW,yP x_3/\(BM x_3.b x.b/\(x_3.at_:Int)=4/\(x_3.w:Int)=2/\True)/\vH x_3.b x/\ ∀y_2:Unit,True->((3<64*x.b.dK/\AV.lit (Value.int .u8 (x.g 3))=AV.lit (Value.int .u8 (x.g 3)))/\True)/\I64 (wU (λ(k:Nat)=>x_3.b.g (x_3.b.q+k)) x_3.at_ x_3.w)/\ ∃x_4:BL,Hd (x_4.b.ok/\x_4.b.n=64*x_4.s/\1<=x_4.s/\x_4.s<=8)/\(BM x_4.b x.b/\True)/\vH x_4.b x/\ ∀y_3:Unit,True->I64 (x.g 3+wU (λ(k:Nat)=>x_3.b.g (x_3.b.q+k)) x_3.at_ x_3.w)/\cP (decide (x.g 3+wU (λ(k:Nat)=>x_3.b.g (x_3.b.q+k)) x_3.at_ x_3.w>(x_4.str.size:Int))) (∃y_4:Unit,zN x) (0<=x.g 3/\(0<=Int.toNat (x.g 3)/\Int.toNat (x.g 3)<=x_4.str.size/\x_4.str.size<=x_4.str.size)/\I64 (x.g 3+wU (λ(k:Nat)=>x_3.b.g (x_3.b.q+k)) x_3.at_ x_3.w)/\
 0<=x.g 3+wU (λ(k:Nat)=>x_3.b.g (x_3.b.q+k)) x_3.at_ x_3.w/\0<=x.g 3/\(Int.toNat (x.g 3)<=Int.toNat (x.g 3+wU (λ(k:Nat)=>x_3.b.g (x_3.b.q+k)) x_3.at_ x_3.w)/\Int.toNat (x.g 3+wU (λ(k:Nat)=>x_3.b.g (x_3.b.q+k)) x_3.at_ x_3.w)<=x_4.str.size/\x_4.str.size<=x_4.str.size)/\(∃x_5:EW,yP x_5/\(BM x_5.b x.b/\(x_5.at_:Int)=8/\Jg x_5.w)/\vH x_5.b x/\ ∀y_4:Unit,True->True/\(∃x_6:EW,yP x_6/\(BM x_6.b x.b/\(x_6.at_:Int)=16/\Jg x_6.w)/\vH x_6.b x/\ ∀y_5:Unit,True->True/\(∃x_7:EW,yP x_7/\aaN x_7 x.b/\vH x_7.b x/\ ∀y_6:Unit,True->True/\True/\True/\ ∃x_8:ZBlk,aaL x_8/\((x_8.cls=x.g 1/\x_8.kind=x.g 2/\nC x_8.id x_5/\nC x_8.ver x_6/\nC x_8.epoch x_7/\aaM x_8 x_4 x x_3)/\True)/\True/\(∀y_7:Unit,Hd (x_8.cls=0)->64<=64/\(∀k:Nat,k<64->Rk x_8 k)/\vI x.b/\EY x/\cP (Bool.not (BEq.beq (ByteArray.toList (@ByteArray.mk (@List.toArray UInt8 (List.map (λ(k:Nat)=>UInt8.ofBitVec (@BitVec.ofNat 8 (Int.toNat (x_8.enc (0+k))))) (@List.range 64))))) (ByteArray.toList (@ByteArray.mk (@List.toArray UInt8 (List.map (λ(k:Nat)=>UInt8.ofBitVec (@BitVec.ofNat 8 (Int.toNat (x.g (0+k))))) (@List.range (64*x.b.dK)))))))) (∃y_8:Unit,zN x) (∃y_8:Unit,True/\((x.b.cls=x.g 1/\x.b.kind=x.g 2/\nC x.b.id x_5/\nC x.b.ver x_6/\EZ x x_7 x_4 x_3)/\true=true/\True)/\Rj x))/\ ∀y_7:Unit,Hd (x_8.cls≠(0:Int))->vI x_8/\aaK x_8/\vI x.b/\EY x/\
 cP (Bool.not (BEq.beq (ByteArray.toList (@ByteArray.mk (@List.toArray UInt8 (List.map (λ(k:Nat)=>UInt8.ofBitVec (@BitVec.ofNat 8 (Int.toNat (x_8.enc (0+k))))) (@List.range (64*x_8.dK)))))) (ByteArray.toList (@ByteArray.mk (@List.toArray UInt8 (List.map (λ(k:Nat)=>UInt8.ofBitVec (@BitVec.ofNat 8 (Int.toNat (x.g (0+k))))) (@List.range (64*x.b.dK)))))))) (∃y_8:Unit,zN x) (∃y_8:Unit,True/\((x.b.cls=x.g 1/\x.b.kind=x.g 2/\nC x.b.id x_5/\nC x.b.ver x_6/\EZ x x_7 x_4 x_3)/\true=true/\True)/\Rj x))/\True/\ ∃x_7:EW,yP x_7/\aaN x_7 x.b/\vH x_7.b x/\ ∀y_6:Unit,True->True/\True/\ ∃x_8:ZBlk,aaL x_8/\((x_8.cls=x.g 1/\x_8.kind=x.g 2/\nC x_8.id x_5/\nC x_8.ver x_6/\nC x_8.epoch x_7/\aaM x_8 x_4 x x_3)/\True)/\True/\(∀y_7:Unit,Hd (x_8.cls=0)->64<=64/\(∀k:Nat,k<64->Rk x_8 k)/\vI x.b/\EY x/\cP (Bool.not (BEq.beq (ByteArray.toList (@ByteArray.mk (@List.toArray UInt8 (List.map (λ(k:Nat)=>UInt8.ofBitVec (@BitVec.ofNat 8 (Int.toNat (x_8.enc (0+k))))) (@List.range 64))))) (ByteArray.toList (@ByteArray.mk (@List.toArray UInt8 (List.map (λ(k:Nat)=>UInt8.ofBitVec (@BitVec.ofNat 8 (Int.toNat (x.g (0+k))))) (@List.range (64*x.b.dK)))))))) (∃y_8:Unit,zN x) (∃y_8:Unit,True/\((x.b.cls=x.g 1/\x.b.kind=x.g 2/\nC x.b.id x_5/\nC x.b.ver x_6/\EZ x x_7 x_4 x_3)/\true=true/\True)/\Rj x))/\ ∀y_7:Unit,Hd (x_8.cls≠(0:Int))->vI x_8/\aaK x_8/\vI x.b/\EY x/\
 cP (Bool.not (BEq.beq (ByteArray.toList (@ByteArray.mk (@List.toArray UInt8 (List.map (λ(k:Nat)=>UInt8.ofBitVec (@BitVec.ofNat 8 (Int.toNat (x_8.enc (0+k))))) (@List.range (64*x_8.dK)))))) (ByteArray.toList (@ByteArray.mk (@List.toArray UInt8 (List.map (λ(k:Nat)=>UInt8.ofBitVec (@BitVec.ofNat 8 (Int.toNat (x.g (0+k))))) (@List.range (64*x.b.dK)))))))) (∃y_8:Unit,zN x) (∃y_8:Unit,True/\((x.b.cls=x.g 1/\x.b.kind=x.g 2/\nC x.b.id x_5/\nC x.b.ver x_6/\EZ x x_7 x_4 x_3)/\true=true/\True)/\Rj x))/\arq x x_5 x_4 x_3)/\True/\ ∃x_5:EW,yP x_5/\(BM x_5.b x.b/\(x_5.at_:Int)=8/\Jg x_5.w)/\vH x_5.b x/\ ∀y_4:Unit,True->arq x x_5 x_4 x_3))))))
theorem amJ(x:ahP):aru x=wpF Tryz.prog aue tt (noA x) 200 5 121 (aro.args x) (hO aro.k (aro.os x)) (λv h'=>eG aro.k x v h' aro.outs):=by kernel_rfl
theorem uU{c:Int}(h:spn c≠0):0<=c/\c<=3/\1<=spn c/\spn c<=8/\cpc c=28+63*(spn c-1):=by
 unfold spn at*
 unfold cpc;grind
theorem ah8{n:Int}(h:spn (ned n)≠0):n<=cpc (ned n):=by
 unfold ned spn at*
 unfold cpc;grind
theorem Wv{b:ZBlk}(h:b.may):((b.key.size+b.value.size:Nat):Int)<=cpc b.cls:=by
 obtain⟨hs,h⟩:=h;have hc:=uU hs;rcases h with ⟨_,_,_,_,h1,h2⟩|⟨_,_,_,_,h,_⟩|⟨_,_,_,h,_⟩|⟨_,h,_⟩
 ·rw[h1,h2];show((0:Nat):Int)<=_;omega
 ·rw[<-h];exact ah8 (by rw[h];exact hs)
 ·rw[<-h];exact ah8 (by rw[h];exact hs)
 ·rw[h];omega
theorem Rw(x:Int)(hx:0<=x/\x<=3):Wu x:=by
 have hs:spn x≠0:=by have:=V5 hx;omega
 have hc:=uU hs;unfold Wu;simp only[aaP,aaJ];simp only[aZ,aV,aU,aA,aI,bQ,bF,aO,aK,ay,aX,aW,bT,bG,bH,bI,bU,bC,bJ,bn,eH,aH,aN,ah,ak,aB,aF,aC,aG];rw[show(spn x==0)=false from beq_eq_false_iff_ne.2 hs,iy];refine⟨by omega,⟨⟨x,0,0,0,0,⟨#[]⟩,⟨#[]⟩⟩,⟨λ_=>0,0,(cpc x).toNat,(cpc x).toNat⟩⟩,?_,⟨⟨rfl,rfl,rfl,rfl,rfl,rfl,rfl⟩,rfl,rfl⟩,⟨rfl,λq _=>rfl⟩,λq _=>rfl⟩;exact⟨⟨show 0+(cpc x).toNat<=(cpc x).toNat by omega,show(cpc x).toNat<1099511627776 by omega,λ_=>⟨show(0:Int)<=0 by decide,show(0:Int)<256 by decide⟩⟩,show 28<=(cpc x).toNat by omega,show(0:Nat)<256 by decide,show(0:Nat)<65536 by decide,hx.1,show x<256 by omega,show(0:Int)<=0 by decide,show(0:Int)<256 by decide,show(0:Int)<=0 by decide,show(0:Int)<18446744073709551616 by decide,show(0:Int)<=0 by decide,show(0:Int)<18446744073709551616 by decide,show(0:Int)<=0 by decide,show(0:Int)<18446744073709551616 by decide⟩
theorem yQ{z:Int}(h:0<=z/\z<256):isByte [Value.int .u8 z]=true:=by
 unfold isByte;simp only[decide_eq_true h.1,decide_eq_true h.2,Bool.and_self]
theorem aaQ{x:BL}(h:x.b.ok)(i:Nat):0<=x.at_ i/\x.at_ i<256:=by
 unfold BL.at_;split<;>exact h.2.2 _
theorem aaR{x:BL}{s q:Nat}(h1: ¬q<28+63*s)(h2:q<28+63*(s+1)):x.at_ q=x.b.g (x.b.q+(64*(s+1)+1)+(q-(28+63*s))):=by
 unfold BL.at_;have e1:(q-28)/63=s:=by omega
 rw[if_neg (by omega),e1];congr 1;omega
theorem Wx(x:BL)(hx:x.b.ok/\x.b.n=64*x.s/\1<=x.s/\x.s<=8):ah6 x:=by
 obtain⟨ho,hn,h1,h2⟩:=hx;obtain⟨o1,o2,o3⟩:=id ho;have t1: ∀s:Nat,(((64+64*s:Nat):Int)+1).toNat=64*(s+1)+1:=λs=>by omega
 have t2: ∀s:Nat,(((64+64*s:Nat):Int)+64).toNat=64*(s+1)+64:=λs=>by omega
 unfold ah6;simp only[Jh,ah5];simp only[aZ,aV,aU,aA,aI,bQ,bF,aO,aK,ay,aX,aW,bT,bG,bH,bI,bU,bC,bJ,bn,eH,aH,aN,ah,ak,aB,aF,aC,aG,t1,t2];refine⟨by decide,by decide,⟨by decide,by omega,by omega⟩,by omega,by decide,λq hq=> ?_,bf (λh=> ?_) λh=> ?_,λs hs=>bf (λh=> ?_) λh=> ?_⟩
 ·unfold BL.at_
  rw[if_pos hq];congr 1;omega
 ·have h:=aS h
  refine⟨by unfold I64;omega,by unfold I64;omega,by decide,by decide,⟨by decide,by omega,by omega⟩,by omega,by decide,by unfold I64;omega,1,by omega,by omega,by omega,by omega,λq hq=> ?_⟩;by_cases hq1:q<28
  ·rw[bg.2 hq1];rfl
  ·rw[bV,decide_eq_false hq1,aQ]
   exact aaR (s:=0) (by omega) (by omega)
 ·have h:=aT h
  have:x.s=1:=by omega
  refine⟨by decide,λk _=>yQ (aaQ ho k),?_⟩;unfold BL.str;rw[this];rfl
 ·have h:=aS h
  refine⟨by unfold I64;omega,by unfold I64;omega,by omega,by omega,⟨by omega,by omega,by omega⟩,by omega,by omega,by unfold I64;omega,s+1,by omega,by omega,by omega,by omega,λq hq=> ?_⟩;by_cases hq1:q<28+63*s
  ·rw[bg.2 hq1];rfl
  ·rw[bV,decide_eq_false hq1,aQ]
   exact aaR hq1 (by omega)
 ·have h:=aT h
  have:x.s=s+1:=by omega
  refine⟨by omega,λk _=>yQ (aaQ ho k),?_⟩;unfold BL.str;rw[this];rfl
theorem apj{s:ByteArray}{o k n B:Nat}(hk:k<64)(hB:64<=B):(bif Nat.ble 1 k&&Nat.blt k B then [Value.int .u8 (bif Nat.blt (o+(k-1)) n then(dZ s (o+(k-1)):Int)else 0)]else Cs.eff (λ_=>[Value.int .u8 0]) [(0,[Value.int .u8 2])] k)=
  [Value.int .u8 (if k=0 then 2 else if o+(k-1)<n then(dZ s (o+(k-1)):Int)else 0)]:=by
 rw[EO];simp only[dh,bV,dI,<-Bool.decide_and];by_cases h:k=0
 ·subst h;simp
 ·rw[if_pos ⟨by omega,by omega⟩,if_neg h]
theorem KT(x:ZBlk)(t r:Nat)(hr:r<64):x.enc (64*(t+1)+r)=if r=0 then 2 else x.dat (28+63*t+(r-1)):=by
 unfold ZBlk.enc;rw[if_neg (by omega),show(64*(t+1)+r)%64=r by omega,show(64*(t+1)+r)/64=t+1 by omega,Nat.add_sub_cancel,Nat.mul_comm t 63]
theorem KU(x:ZBlk){t q B o n:Nat}(h1: ¬q<64*(t+1))(h2:q<64*(t+1+1))(hB:64<=B)(ho:o=28+63*t)(hn:n=(x.key++x.value).size):[Value.int .u8 (x.enc q)]=(bif Nat.ble 1 (q-64*(t+1))&&Nat.blt (q-64*(t+1)) B then [Value.int .u8 (bif Nat.blt (o+(q-64*(t+1)-1)) n then(dZ (x.key++x.value) (o+(q-64*(t+1)-1)):Int)else 0)]else Cs.eff (λ_=>[Value.int .u8 0]) [(0,[Value.int .u8 2])] (q-64*(t+1))):=by
 rw[apj (by omega) hB,show q=64*(t+1)+(q-64*(t+1)) by omega,KT x t _ (by omega),Nat.add_sub_cancel_left,ho,hn];rfl
theorem ah9{s:ByteArray}{o k n B:Nat}(hk:k<64)(hB:64<=B):((bif Nat.ble 1 k&&Nat.blt k B then [Value.int .u8 (bif Nat.blt (o+(k-1)) n then(dZ s (o+(k-1)):Int)else 0)]else Cs.eff (λ_=>[Value.int .u8 0]) [(0,[Value.int .u8 2])] k).length.beq 1&&(bif Nat.ble 1 k&&Nat.blt k B then [Value.int .u8 (bif Nat.blt (o+(k-1)) n then(dZ s (o+(k-1)):Int)else 0)]else Cs.eff (λ_=>[Value.int .u8 0]) [(0,[Value.int .u8 2])] k).all Value.oneCell')=true:=by
 rw[apj hk hB];rfl
theorem KW(x:ZBlk)(k:Nat):0<=x.dat k/\x.dat k<256:=by
 unfold ZBlk.dat
 split
 ·unfold dZ
  have:=(((x.key++x.value).data.toList.getD k 0)).toNat_lt;exact⟨by omega,by omega⟩
 ·exact⟨by decide,by decide⟩
theorem Dv{x:ZBlk}(h:x.may):x.key.size<256/\x.value.size<65536/\0<=x.kind/\x.kind<256/\0<=x.id/\x.id<18446744073709551616/\0<=x.ver/\x.ver<18446744073709551616/\0<=x.epoch/\x.epoch<18446744073709551616:=by
 have hC:=Wv h;have hc:=uU h.1;obtain⟨hs,h⟩:=h;unfold ZBlk.nums ZBlk.num at h;have e0:ByteArray.size ⟨#[]⟩=0:=rfl;rcases h with ⟨h0,h1,h2,h3,h4,h5⟩|⟨h0,h1,h2,h3,h4,h5,h6,h7⟩|⟨h0,h1,h2,h3,h5,h6,h7⟩|⟨h0,h1,h2,h5,h6,h7⟩
 ·rw[h4,h5];omega
 ·omega
 ·rw[h1];omega
 ·omega
theorem adh(x:ZBlk)(hx:x.may/\x.key.size<1099511627776/\x.value.size<1099511627776):ars x:=by
 obtain⟨hm,hk,hv⟩:=hx;have hM:x.OY=true:=yN.2 hm;have hc:=uU hm.1;have hC:=Wv hm;have hD:=Dv hm;have hsz:(x.key++x.value).size=x.key.size+x.value.size:=ByteArray.size_append;have hcap:(cpc x.cls).toNat=x.iH:=rfl;have hb:Nat.ble (x.key++x.value).size x.iH=true:=by rw[Nat.ble_eq,hsz,<-hcap];omega
 have hN:x.iH=28+63*(x.dK-1):=by unfold ZBlk.iH ZBlk.dK;omega
 have hS:(x.dK:Int)=spn x.cls:=by unfold ZBlk.dK;omega
 have h0:x.cls=0↔x.dK=1:=by
  have:x.cls=0↔spn x.cls=1:=by unfold spn;grind
  rw[this];omega
 have e1: ∀q,q<64->x.enc q=x.jS x.dat x.iH q:=λq hq=>if_pos hq
 have hN8:x.dK<=8/\1<=x.dK:=by omega
 unfold ars;simp only[aaO,aaP,ah3,ah4,ah2,ade,Rl,E8,Ru,ahT,rQ,Rt,rP,ah0,ah1,ahW,ahS,Rn,Ro,Rq,ahY,E5,ahZ,ahX,adf,ahV,ahU,ahQ,ahR];simp only[aZ,aV,aU,aA,aI,bQ,bF,aO,aK,ay,aX,aW,bT,bG,bH,bI,bU,bC,bJ,bn,eH,aH,aN,ah,ak,aB,aF,aC,aG,hcap];refine⟨x,⟨hk,hv⟩,⟨rfl,rfl,rfl,rfl,rfl,rfl,rfl⟩,?_⟩;rw[hM,Bool.not_true,iy];refine⟨by omega,by omega,by omega,?_⟩;rw[hb,kX];refine⟨⟨x,⟨x.dat,0,x.iH,x.iH⟩⟩,⟨⟨by show 0+x.iH<=x.iH;omega,by show x.iH<1099511627776;omega,KW x⟩,by show 28<=x.iH;omega,hD.1,hD.2.1,hc.1,by show x.cls<256;omega,hD.2.2⟩,⟨⟨rfl,rfl,rfl,rfl,rfl,rfl,rfl⟩,rfl,rfl⟩,⟨rfl,λq _=> ?_⟩,?_⟩
 ·simp only[bV,dI];rfl
 ·simp only[aA]
  refine⟨by decide,by omega,by unfold I64;omega,bf (λh=> ?_) λh=> ?_,λs hs=>bf (λh=> ?_) λh=> ?_⟩
  ·have h:=aS h
   refine⟨by decide,by decide,by decide,by decide,by decide,by decide,bf (λhb=> ?_) λhb=> ?_⟩
   ·have hb:=Nat.le_of_ble_eq_true hb
    refine⟨by omega,by omega,by omega,by decide,by decide,by decide,by unfold I64;omega,1,by omega,by omega,by omega,by omega,λq hq=> ?_⟩;by_cases hq1:q<64
    ·rw[bg.2 hq1,aP,e1 q hq1]
    ·rw[bV,decide_eq_false hq1,aQ]
     exact KU x (t:=0) (by omega) (by omega) (by omega) rfl rfl
   ·refine⟨by omega,by omega,⟨by omega,by omega⟩,by decide,by decide,by decide,by unfold I64;omega,1,by omega,by omega,by omega,by omega,λq hq=> ?_⟩
    by_cases hq1:q<64
    ·rw[bg.2 hq1,aP,e1 q hq1]
    ·rw[bV,decide_eq_false hq1,aQ]
     exact KU x (t:=0) (by omega) (by omega) (by omega) rfl rfl
  ·have h:=aT h
   exact .inl ⟨h0.2 (by omega),λq hq=>e1 q hq⟩
  ·have h:=aS h
   refine⟨by decide,by decide,by decide,by decide,by decide,by decide,bf (λhb=> ?_) λhb=> ?_⟩
   ·have hb:=Nat.le_of_ble_eq_true hb
    refine⟨by omega,by omega,by omega,by decide,λk hk=>ah9 hk (by omega),by omega,by unfold I64;omega,s+1,by omega,by omega,by omega,by omega,λq hq=> ?_⟩;by_cases hq1:q<64*(s+1)
    ·rw[bg.2 hq1,aP]
    ·rw[bV,decide_eq_false hq1,aQ]
     exact KU x hq1 (by omega) (by omega) rfl rfl
   ·refine⟨by omega,by omega,⟨by omega,by omega⟩,by decide,λk hk=>ah9 hk (by omega),by omega,by unfold I64;omega,s+1,by omega,by omega,by omega,by omega,λq hq=> ?_⟩
    by_cases hq1:q<64*(s+1)
    ·rw[bg.2 hq1,aP]
    ·rw[bV,decide_eq_false hq1,aQ]
     exact KU x hq1 (by omega) (by omega) rfl rfl
  ·have h:=aT h
   exact .inr ⟨λe=>by have:=h0.1 e;omega,by omega⟩
theorem aaS{g:Nat->Int}{a:Nat}{v:Int}(h0:0<=v): ∀w,(∀i,i<w->g (a+i)=v/256^i%256)->wU g a w=v%256^w
 |0,_=>by show(0:Int)=v%256^0;rw[Int.pow_zero,Int.emod_one]
 |w+1,h=>by
  simp only[wU];rw[aaS h0 w λi hi=>h i (by omega),h w (by omega),Int.pow_succ];have hp:(0:Int)<256^w:=Int.pow_pos (by omega);have h1:=Int.emod_add_mul_ediv v (256^w);have h2:=Int.emod_add_mul_ediv (v/256^w) 256;have h3:=Int.emod_add_mul_ediv v (256^w*256);have h4:v/(256^w*256)=v/256^w/256:=(Int.ediv_ediv_of_nonneg (Int.le_of_lt hp)).symm;rw[h4]at h3;generalize (256:Int)^w=p at*
  have h5:p*(v/p)=p*((v/p)%256)+p*(256*(v/p/256)):=by rw[<-Int.mul_add,h2]
  have h6:p*256*(v/p/256)=p*(256*(v/p/256)):=Int.mul_assoc _ _ _;have h7:(v/p)%256*p=p*((v/p)%256):=Int.mul_comm _ _;omega
theorem KX{g:Nat->Int}{a w:Nat}{v:Int}(h0:0<=v)(h1:v<256^w)(h: ∀i,i<w->g (a+i)=v/256^i%256):wU g a w=v:=by
 rw[aaS h0 w h];exact Int.emod_eq_of_lt h0 h1
theorem auf{x:ZBlk}(h:x.may)(k:Nat):0<=x.h32 k/\x.h32 k<256:=by
 have hD:=Dv h;have hc:=uU h.1;unfold ZBlk.h32
 repeat' split
 all_goals first|exact mG _ _|omega
theorem yR{x:ZBlk}(h:x.may)(k:Nat):0<=x.enc k/\x.enc k<256:=by
 unfold ZBlk.enc;split
 ·unfold ZBlk.jS
  split
  ·exact auf h k
  ·split
   ·exact mG _ _
   ·exact KW x _
 ·split
  ·exact⟨by decide,by decide⟩
  ·exact KW x _
theorem Fa{x:ZBlk}{k:Nat}(h:k<32):x.enc k=x.h32 k:=by
 unfold ZBlk.enc;rw[if_pos (by omega)];unfold ZBlk.jS;rw[if_pos h]
theorem arv{x:ZBlk}(h:x.may):wU x.enc 4 2=x.value.size/\wU x.enc 8 8=x.id/\wU x.enc 16 8=x.ver/\wU x.enc 24 8=x.epoch:=by
 have hD:=Dv h;refine⟨KX (by omega) (by omega) λi hi=> ?_,KX (by omega) (by omega) λi hi=> ?_,KX (by omega) (by omega) λi hi=> ?_,KX (by omega) (by omega) λi hi=> ?_⟩
 all_goals
  rw[Fa (by omega)];unfold ZBlk.h32
  repeat rw[if_neg (by omega)]
  rw[if_pos (by omega)];congr 2;congr 1;omega
theorem adi(n:Nat)(f:Nat->UInt8):(mkStr n f).size=n:=by
 show(((List.range n).map f).toArray).size=n;simp
theorem Rx{n a b:Nat}{f:Nat->UInt8}{s:ByteArray}(h1:b=a+s.size)(h2:b<=n)(h: ∀i (hi:i<s.size),f (a+i)=s.data[i]):(mkStr n f).extract a b=s:=by
 have e:((mkStr n f).extract a b).data=s.data:=by
  rw[ByteArray.data_extract];refine Array.ext ?_ λi h3 h4=> ?_
  ·show((List.map f (List.range n)).toArray.extract a b).size=s.size
   simp;omega
  ·show((List.map f (List.range n)).toArray.extract a b)[i]=_
   rw[<-h i h4];simp
 cases s;cases h':(mkStr n f).extract a b;rw[h']at e;cases e;rfl
theorem adk(x:ZBlk)(i:Nat)(hi:i<(x.key++x.value).size):UInt8.ofNat (x.dat i).toNat=(x.key++x.value).data[i]:=by
 unfold ZBlk.dat
 rw[if_pos hi];unfold dZ;rw[ay,List.getD_eq_getElem?_getD,Array.getElem?_toList];have e:(x.key++x.value).data[i]? =some (x.key++x.value).data[i]:=Array.getElem?_eq_getElem hi;rw[e,Option.getD_some];exact UInt8.ofNat_toNat
theorem aug{x:ZBlk}{s:Nat}(i:Nat):(BL.mk ⟨x.enc,0,64*s,64*s⟩ s).at_ i=x.dat i:=by
 unfold BL.at_;simp only[aA];split
 ·rename_i h
  unfold ZBlk.enc;rw[if_pos (by omega)];unfold ZBlk.jS;rw[if_neg (by omega),if_neg (by omega)];congr 1;omega
 ·rename_i h
  rw[show 64*((i-28)/63+1)+1+(i-28)%63=64*((i-28)/63+1)+(1+(i-28)%63) by omega,KT x _ _ (by omega),if_neg (by omega)];congr 1;omega
theorem adl(x:ahP)(hx:x.b.may/\x.b.key.size<1099511627776/\x.b.value.size<1099511627776/\ ∀k,k<64*x.b.dK->x.g k=x.b.enc k):aru x:=by
 obtain⟨hm,hk,hv,hg⟩:=hx;have hc:=uU hm.1;have hC:=Wv hm;have hD:=Dv hm;have hE:=arv hm;have hS:(x.b.dK:Int)=spn x.b.cls:=by unfold ZBlk.dK;omega
 have g0:x.g 0=1:=by rw[hg 0 (by omega),Fa (by omega)];rfl
 have g1:x.g 1=x.b.cls:=by rw[hg 1 (by omega),Fa (by omega)];rfl
 have g2:x.g 2=x.b.kind:=by rw[hg 2 (by omega),Fa (by omega)];rfl
 have g3:x.g 3=x.b.key.size:=by rw[hg 3 (by omega),Fa (by omega)];rfl
 have hB:Bys.ok ⟨x.b.enc,0,64*x.b.dK,64*x.b.dK⟩:=⟨by simp,by show 64*x.b.dK<_;omega,yR hm⟩;have hkd:x.b.kind<=3:=by
  have:=hm.2;omega
 unfold aru;simp only[zN,E8,yP,BM,vH,Jg,aaN,aaL,nC,aaM,Rk,vI,EY,EZ,Rj,aaK,arq,aaJ];simp only[aZ,aV,aU,aA,aI,bQ,bF,aO,aK,ay,aX,aW,bT,bG,bH,bI,bU,bC,bJ,bn,eH,aH,aN,ah,ak,aB,aF,aC,aG,g0,g1,g2,g3]
 refine bf (λh=>absurd (aS h) (by omega)) λ_=>⟨by decide,⟨by decide,by omega,by omega⟩,by decide,by omega,bf (λh=>absurd h (by decide)) λ_=>⟨by decide,by omega,by unfold I64;omega,bf (λh=>absurd (beq_iff_eq.1 h) hm.1) λ_=>⟨by decide,by omega,bf (λh=>absurd (aS h) (by omega)) λ_=>⟨by decide,by omega,by unfold I64;omega,by decide,by omega,by unfold I64;omega,by unfold I64;omega,bf (λh=>absurd (bne_iff_ne.1 h) (by omega)) λ_=>⟨⟨by decide,by omega⟩,by omega,by unfold I64;omega,
  ⟨⟨x.b.enc,0,64*x.b.dK,64*x.b.dK⟩,4,2⟩,⟨hB,by show 4+2<=64*x.b.dK;omega,by show 1<=2;decide,by show 2<=8;decide⟩,⟨⟨rfl,rfl⟩,rfl,rfl⟩,⟨rfl,λq hq=>(hg q hq).symm⟩,by omega,?_⟩⟩⟩⟩⟩
 simp only[aA,hE];refine⟨by unfold I64;omega,⟨⟨x.b.enc,0,64*x.b.dK,64*x.b.dK⟩,x.b.dK⟩,⟨hB,rfl,by show 1<=x.b.dK;omega,by show x.b.dK<=8;omega⟩,⟨rfl,rfl⟩,⟨rfl,λq hq=>(hg q hq).symm⟩,?_⟩;have hsz:(x.b.key++x.b.value).size=x.b.key.size+x.b.value.size:=ByteArray.size_append;have hstr: ∀i (hi:i<(x.b.key++x.b.value).size),UInt8.ofNat ((BL.mk ⟨x.b.enc,0,64*x.b.dK,64*x.b.dK⟩ x.b.dK).at_ i).toNat=(x.b.key++x.b.value).data[i]:=λi hi=>by rw[aug];exact adk x.b i hi
 have s1:(BL.mk ⟨x.b.enc,0,64*x.b.dK,64*x.b.dK⟩ x.b.dK).str.size=28+63*(x.b.dK-1):=adi _ _;have s2:(BL.mk ⟨x.b.enc,0,64*x.b.dK,64*x.b.dK⟩ x.b.dK).str.extract 0 x.b.key.size=x.b.key:=Rx (by omega) (by show x.b.key.size<=28+63*(x.b.dK-1);omega) λi hi=>by
  rw[hstr (0+i) (by omega)];simp only[aA,ByteArray.data_append];exact Array.getElem_append_left hi
 have s3:(BL.mk ⟨x.b.enc,0,64*x.b.dK,64*x.b.dK⟩ x.b.dK).str.extract x.b.key.size ((x.b.key.size:Int)+(x.b.value.size:Int)).toNat=x.b.value:=Rx (by omega) (by show((x.b.key.size:Int)+(x.b.value.size:Int)).toNat<=28+63*(x.b.dK-1);omega) λi hi=>by
  rw[hstr (x.b.key.size+i) (by omega)];simp only[ByteArray.data_append];have:x.b.key.data.size=x.b.key.size:=rfl;rw[Array.getElem_append_right (by omega)];congr 1;omega
 rw[s2,s3,s1];have hget: ∀a,a+8<=64->(EW.mk ⟨x.b.enc,0,64*x.b.dK,64*x.b.dK⟩ a 8).b.ok/\a+8<=64*x.b.dK/\1<=8/\8<=8:=λa ha=>⟨hB,by omega,by decide,by decide⟩
 refine⟨by unfold I64;omega,bf (λh=>absurd (aS h) (by omega)) λ_=>⟨by omega,by omega,by unfold I64;omega,by omega,by omega,by omega,
  ⟨⟨x.b.enc,0,64*x.b.dK,64*x.b.dK⟩,8,8⟩,hget 8 (by decide),⟨⟨rfl,rfl⟩,rfl,rfl⟩,⟨rfl,λq hq=>(hg q hq).symm⟩,
  ⟨⟨x.b.enc,0,64*x.b.dK,64*x.b.dK⟩,16,8⟩,hget 16 (by decide),⟨⟨rfl,rfl⟩,rfl,rfl⟩,⟨rfl,λq hq=>(hg q hq).symm⟩,
  ⟨⟨x.b.enc,0,64*x.b.dK,64*x.b.dK⟩,24,8⟩,hget 24 (by decide),⟨⟨rfl,rfl⟩,rfl,rfl⟩,⟨rfl,λq hq=>(hg q hq).symm⟩,?_⟩⟩
 simp only[aA,hE];refine⟨x.b,⟨hm,hk,hv⟩,⟨rfl,rfl,rfl,rfl,rfl,rfl,rfl⟩,?_⟩;have hb: ∀k,k<64*x.b.dK->isByte [Value.int .u8 (x.g k)]=true:=λk hk=>by rw[hg k hk];exact yQ (yR hm k)
 have he: ∀k,isByte [Value.int .u8 (x.b.enc k)]=true:=λk=>yQ (yR hm k)
 have hq: ∀n,n=64*x.b.dK->(!(ByteArray.toList ⟨(List.map (λk=>(⟨BitVec.ofNat 8 (x.b.enc k).toNat⟩:UInt8)) (List.range n)).toArray⟩==ByteArray.toList ⟨(List.map (λk=>(⟨BitVec.ofNat 8 (x.g k).toNat⟩:UInt8)) (List.range (64*x.b.dK))).toArray⟩))=false:=λn hn=>by
  subst hn;rw[Bool.not_eq_false',ahN];congr 2;exact List.map_congr_left λk hk=>by rw[hg k (List.mem_range.1 hk)]
 have h1:x.b.cls=0->64=64*x.b.dK:=λh=>by
  have:spn x.b.cls=1:=by rw[h];rfl
  omega
 refine⟨λh=>⟨aY _,λk _=>he k,aY _,hb,?_⟩,λh=>⟨aY _,λk _=>he k,aY _,hb,?_⟩⟩
 ·rw[hq 64 (h1 h),iy]
  exact⟨trivial,trivial,trivial,trivial,trivial⟩
 ·rw[hq _ rfl,iy]
  exact⟨trivial,trivial,trivial,trivial,trivial⟩
theorem aaT:dY Tryz.prog arp:= .cons (bM ny) (.cons (bM ao8) (.cons (bM ahO) (.cons (bM arn) .nil)))
theorem apk:bY Tryz.prog 180 apg:=jf dD mixed aaT aud 200 5 (λ_=>rfl) (λ_=>⟨λ_=>rfl,λ_=>rfl,trivial⟩) λx hx=>Eq.mp (amI x) (adh x (aZ.1 hx))
theorem amK:bY Tryz.prog 63 EX:=dL dD mixed aaT noA 200 5 (λ_=>rfl) (λ_=>rfl) λx hx=>Eq.mp (adg x) (Rw x (aZ.1 hx))
theorem arw:bY Tryz.prog 179 Ws:=dL dD mixed .nil aph 200 5 (λ_=>rfl) (λ_=>rfl) λx hx=>Eq.mp (ah7 x) (Wx x (aZ.1 hx))
theorem amL:dY Tryz.prog aue:= .cons (bM ny) (.cons (bM auc) (.cons (bM arw) (.cons (bM apk) .nil)))
theorem auh:bY Tryz.prog 121 aro:=dL dD mixed amL noA 200 5 (λ_=>rfl) (λ_=>rfl) λx hx=>Eq.mp (amJ x) (adl x (aZ.1 hx))



end Go.Proofs.YtenfleoejgjklaaGreat
end
section
namespace Go.Proofs.YtenfleoejgjklaaGreat
open Go
theorem disable(w:World):(callFunc 268 #[]).run Tryz.prog w= .ok (.value (.tuple #[])) w:=run_call_mark0 Tryz.func268 (by kernel_rfl) (by kernel_rfl) (by kernel_rfl) .disable (by kernel_rfl) w
theorem enable(w:World):(callFunc 270 #[]).run Tryz.prog w= .ok (.value (.tuple #[])) w:=run_call_mark0 Tryz.func270 (by kernel_rfl) (by kernel_rfl) (by kernel_rfl) .enable (by kernel_rfl) w
theorem acquire(a:Addr)(w:World):(callFunc 271 #[.pointer (some a)]).run Tryz.prog w= .ok (.value (.tuple #[])) w:=run_call_marked Tryz.func271 (by kernel_rfl) (by kernel_rfl) (by kernel_rfl) .acquire (by kernel_rfl) a w
theorem releaseMerge(a:Addr)(w:World):(callFunc 273 #[.pointer (some a)]).run Tryz.prog w= .ok (.value (.tuple #[])) w:=run_call_marked Tryz.func273 (by kernel_rfl) (by kernel_rfl) (by kernel_rfl) .releaseMerge (by kernel_rfl) a w
set_option maxRecDepth 100000 in
set_option maxHeartbeats 1600000 in
theorem ilock_free(a:Addr)(w:World)(hc:w.cell? a=some (.int .i32 0))(hz:w.frozen? a=false):
  Calls Tryz.prog 237 #[.pointer (some a)] w λe w'=>e= .returned (.tuple #[])/\w'=w.setCell a (.int .i32 1):=by
 have hd:=disable;have he:=enable;have ha:=acquire;have hcas:=run_call_cas_hit (P:=Tryz.prog) Tryz.func269 (by kernel_rfl) (by kernel_rfl) (by kernel_rfl) .i32 (by kernel_rfl) (y:=1) hc hz;have hc':(w.setCell a (.int .i32 1)).cell? a=some (.int .i32 1):=World.cell?_setCell_same w a _ hc;have hcv:=run_convert_to_unsafe (P:=Tryz.prog) (src:=368) (dst:=372) Tryz.underlying368 Tryz.underlying372 (by kernel_rfl) hc'
 go_enter Tryz.func237,Tryz.ntmps237
 go_wp2
 all_goals first|exact⟨rfl,rfl⟩|(first|go_end0|(simp only[Exit.inBlock,Exit.then];refine bodyPost_ret (results_none rfl _ _ _) rfl ?_)|refine bodyPost_ret (results_none rfl _ _ _) rfl ?_)
 all_goals exact⟨rfl,rfl⟩
set_option maxRecDepth 100000 in
set_option maxHeartbeats 1600000 in
theorem lock_free(a:Addr)(w:World)(hc:w.cell? a=some (.int .i32 0))(hz:w.frozen? a=false):
  Calls Tryz.prog 194 #[.pointer (some a)] w λe w'=>e= .returned (.tuple #[])/\w'=w.setCell a (.int .i32 1):=by
 go_enter Tryz.func194,Tryz.ntmps194
 go_wp2_with (go_at_call 237;refine(ilock_free a w hc hz).mono ?_;rintro e w' ⟨rfl,rfl⟩)
 all_goals first|exact⟨rfl,rfl⟩|(go_wp2;go_end0;exact⟨rfl,rfl⟩)|(go_end0;exact⟨rfl,rfl⟩)
set_option maxRecDepth 100000 in
set_option maxHeartbeats 1600000 in
theorem store_deferred(a:Addr)(x:Value)(u:FrameMode)(w:World)(hc:w.cell? a=some x)(hz:w.frozen? a=false):
  CallsD Tryz.prog 196 #[.pointer (some a),.bool true] u w λe u' w'=>u'=u/\(e= .returned (.tuple #[])/\w'=w.drew.setCell a (.int .u32 1)):=by
 have hc':w.drew.cell? a=some x:=by go_simp
 have hz':w.drew.frozen? a=false:=by go_simp
 have hst:=run_call_store (P:=Tryz.prog) Tryz.func239 (by kernel_rfl) (by kernel_rfl) (by kernel_rfl) (by kernel_rfl) (k:= .u32) (y:=1) hc' hz'
 go_enter_d Tryz.func196,Tryz.ntmps196
 go_wp2
 go_region_calls
 all_goals (go_end0;exact⟨rfl,rfl⟩)
set_option maxRecDepth 100000 in
set_option maxHeartbeats 1600000 in
theorem iunlock(a:Addr)(w:World)(hc:w.cell? a=some (.int .i32 1))(hz:w.frozen? a=false):
  Calls Tryz.prog 238 #[.pointer (some a)] w λe w'=>e= .returned (.tuple #[])/\w'=w.setCell a (.int .i32 0):=by
 have hd:=disable;have he:=enable;have hr:=releaseMerge;have hadd:=run_call_add (P:=Tryz.prog) Tryz.func274 (by kernel_rfl) (by kernel_rfl) (by kernel_rfl) .i32 (by kernel_rfl) (y:= -1) (s:=0) hc hz (by simp[go_sem];rfl);have hcv:=run_convert_to_unsafe (P:=Tryz.prog) (src:=368) (dst:=372) Tryz.underlying368 Tryz.underlying372 (by kernel_rfl) hc
 go_enter Tryz.func238,Tryz.ntmps238
 go_wp2
 all_goals first|exact⟨rfl,rfl⟩|go_end0
 all_goals first|exact⟨rfl,rfl⟩|go_wp2
 all_goals first|exact⟨rfl,rfl⟩|go_end0
 all_goals first|exact⟨rfl,rfl⟩
set_option maxRecDepth 100000 in
set_option maxHeartbeats 1600000 in
theorem unlock_deferred(a:Addr)(u:FrameMode)(w:World)(hc:w.cell? a=some (.int .i32 1))(hz:w.frozen? a=false):
  CallsD Tryz.prog 195 #[.pointer (some a)] u w λe u' w'=>u'=u/\(e= .returned (.tuple #[])/\w'=w.setCell a (.int .i32 0)):=by
 go_enter_d Tryz.func195,Tryz.ntmps195
 go_wp2_with (go_at_call 238;refine(iunlock a w hc hz).mono ?_;rintro e w' ⟨rfl,rfl⟩)
 all_goals first|exact⟨rfl,rfl⟩|(go_wp2;go_end0;exact⟨rfl,rfl⟩)|(go_end0;exact⟨rfl,rfl⟩)
set_option maxRecDepth 100000 in
set_option maxHeartbeats 1600000 in
theorem slow_any(b off:Nat)(g:FuncId)(fa ca:Array Value)(w:World)(R:World->Prop)(hc:SE.nZ Tryz.prog g)
  (h0:w.cell? ⟨b,off,none⟩=some (.int .u32 0)) (h1:w.cell? ⟨b,off+1,none⟩=some (.int .i32 0)) (f0:w.frozen? ⟨b,off,none⟩=false) (f1:w.frozen? ⟨b,off+1,none⟩=false)
  (hf:Calls Tryz.prog g (fa++ca) (w.setCell ⟨b,off+1,none⟩ (.int .i32 1)) λe w'=>(∃u,e= .returned u)/\w'.cell? ⟨b,off,none⟩=some (.int .u32 0)/\w'.frozen? ⟨b,off,none⟩=false/\
   w'.cell? ⟨b,off+1,none⟩=some (.int .i32 1)/\w'.frozen? ⟨b,off+1,none⟩=false/\R w'):
  Calls Tryz.prog 148 #[.pointer (some ⟨b,off,none⟩),.func (.func g) fa ca] w λe w'=>e= .returned (.tuple #[])/\ ∃w2,R w2/\
   w'=(w2.drew.setCell ⟨b,off,none⟩ (.int .u32 1)).setCell ⟨b,off+1,none⟩ (.int .i32 0):=by
 have hl:=run_call_load (P:=Tryz.prog) Tryz.func193 (by kernel_rfl) (by kernel_rfl) (by kernel_rfl) .u32 (by kernel_rfl) (w:=w.setCell ⟨b,off+1,none⟩ (.int .i32 1)) (a:=⟨b,off,none⟩) (x:=0) ((World.cell?_setCell_other _ ⟨b,off+1,none⟩ ⟨b,off,none⟩ _ (by simp)).trans h0);have hnot: ∀(x:Bool) (w:World),(Op.unary .not (.bool x)).run Tryz.prog w= .ok (.bool (!x)) w:=λ_ _=>rfl
 have hrun:=SE.Bj hc
 go_enter_defers Tryz.func148,Tryz.ntmps148
 go_wp2_with (go_at_call 194;refine(lock_free ⟨b,off+1,none⟩ _ (by go_simp) (by go_simp)).mono ?_;rintro e w' ⟨rfl,rfl⟩)
 go_wp2
 refine hf.mono ?_
 rintro e w' ⟨⟨u,rfl⟩,c0,z0,c1,z1,hR⟩
 go_wp2
 refine leaves_cons (f:=196) (args:= #[.pointer (some ⟨b,off,none⟩),.bool true]) (by simp) (by simp[go_sem]) ?_;refine(store_deferred ⟨b,off,none⟩ (.int .u32 0) .returning _ c0 z0).mono ?_
 rintro e u' w'' ⟨rfl,rfl,rfl⟩
 refine leaves_cons (f:=195) (args:= #[.pointer (some ⟨b,off+1,none⟩)]) (by simp[settle]) (by simp[go_sem]) ?_;refine(unlock_deferred ⟨b,off+1,none⟩ _ _ ?_ ?_).mono ?_
 ·refine(World.cell?_setCell_other _ ⟨b,off,none⟩ ⟨b,off+1,none⟩ _ (by simp)).trans ?_
  rw[World.cell?_drew];exact c1
 ·simp[z1]
 rintro e u' w'' ⟨rfl,rfl,rfl⟩
 simp[Leaves,settle,results,Tryz.results148];exact⟨w',hR,rfl⟩
end Go.Proofs.YtenfleoejgjklaaGreat
end
section
namespace Go.Proofs.YtenfleoejgjklaaGreat
open Go SE
def adn(k:IntKind)(z:Int)(x:Option AV):Bool:=match x with
 |some (.lit (.int k' z'))=>decide (k'=k)&&decide (z'=z)
 |_=>false
theorem amM{k:IntKind}{z:Int}{x:Option AV}(h:adn k z x=true):x=some (.lit (.int k z)):=by
 unfold adn at h;split at h
 ·simp only[aJ,decide_eq_true_eq]at h
  obtain⟨rfl,rfl⟩:=h;rfl
 ·cases h
def KY(i o:Nat)(K:AV->Heap->Prop)(h2:Heap):Prop:=
 bif adn .u32 0 (cellAt h2 i o)&&adn .i32 1 (cellAt h2 i (o+1))&&(setCell h2 i (o+1) (.lit (.int .i32 0))).isSome then(match setCell h2 i o (.lit (.int .u32 1))with
  |some h3=>match setCell h3 i (o+1) (.lit (.int .i32 0))with
   |some h4=>K (.tup []) h4
   |none=>False
  |none=>False)else False
def arx(tbl:jv):WTr:=λargs h K=>match args with
 |[.ptr i o,.fn (.func g) first cap]=>bif adn .u32 0 (cellAt h i o)&&adn .i32 0 (cellAt h i (o+1))&&(setCell h i o (.lit (.int .u32 1))).isSome then(match setCell h i (o+1) (.lit (.int .i32 1))with
  |some h1=>wpF Tryz.prog tbl tt (λ_ _ _ _=>[]) 200 5 g (first++cap) h1 (λ_ h2=>KY i o K h2)
  |none=>False)else False
 |_=>False
theorem KZ{h:Heap}{ρ:Ren}{T:Nat->Prop}{w:World}(hR:Rel h ρ T w){i o:Nat}{b:SE.Loc}{k:IntKind}{z:Int}(hb:ρ i=some b)(hc:adn k z (cellAt h i o)=true):w.cell? ⟨b.blk,b.base+o,none⟩=some (.int k z):=by
 obtain⟨b',hb',y,hy,hr⟩:=hR.cell (amM hc);obtain rfl:b'=b:=Option.some.inj (hb'.symm.trans hb);simp only[bD]at hr;subst hr;exact hy
theorem Ry{h h':Heap}{i o:Nat}{k:IntKind}{z:Int}(hs:setCell h i o (.lit (.int k z))=some h'):alX h i o k z (λx=>x=h'):=by unfold alX;rw[hs]
theorem amN{tbl:jv}(ht:dY Tryz.prog tbl)(args:List AV)(h:Heap)(K:AV->Heap->Prop)(hq:arx tbl args h K):Sp Tryz.prog 148 args h K:=by
 unfold arx at hq;split at hq
 ·rename_i i o g first cap
  cases hc:(adn .u32 0 (cellAt h i o)&&adn .i32 0 (cellAt h i (o+1))&&(setCell h i o (.lit (.int .u32 1))).isSome)<;>rw[hc]at hq
  ·exact hq.elim
  ·simp only[aP]at hq
   simp only[aJ]at hc;obtain⟨⟨c0,c1⟩,c2⟩:=hc;split at hq
   ·rename_i h1 hs1
    have hsp:=vF dD mixed ht _ _ _ _ _ _ _ hq;refine⟨⟨_,Tryz.func148,by kernel_rfl,by kernel_rfl⟩,λρ T w vs hR hl=> ?_⟩;simp only[dR]at hl;obtain⟨u0,_,hvs,hu0,u1,_,rfl,hu1,rfl⟩:=hl;simp only[bD]at hu0 hu1;obtain⟨b,hb,rfl⟩:=hu0;obtain⟨fa,ca,rfl,hfa,hca⟩:=hu1;have hvs':=vs2 hvs;rw[hvs'];have e1:b.base+(o+1)=b.base+o+1:=by omega
    obtain⟨h1',f1,R1,n1,K1,rfl⟩:=oL (P:=Tryz.prog) hR (Ry hs1) hb;have f0:w.frozen? ⟨b.blk,b.base+o,none⟩=false:=by
     obtain⟨h5,hs5⟩:=Option.isSome_iff_exists.1 c2;exact hR.agl hs5 hb
    have g0:=KZ hR hb c0;have g1:=KZ hR hb c1;rw[e1]at g1 f1;refine(slow_any b.blk (b.base+o) g fa ca w (λw2=> ∃ρ2 h2,(∀j,j<h.next->ρ2 j=ρ j)/\h.next<=h2.next/\Rel h2 ρ2 T w2/\Keeps T w w2/\KY i o K h2) hsp.1 g0 g1 f0 f1 ?_).mono ?_
    ·refine(hsp.2 ρ T _ (fa++ca) (by rw[<-e1];exact R1) (by rw[Array.toList_append];exact hfa.append hca)).mono ?_
     rintro e w2 ⟨ρ2,v3,u,h2,q1,q2,q3,q4,rfl,q5,hq⟩
     have hi:i<h1'.next:=by
      rcases Nat.lt_or_ge i h1'.next with hlt|hge
      ·exact hlt
      ·obtain⟨_,_,_,_,r4,_⟩:=R1
       rw[r4 i hge]at hb;cases hb
     have hb2:ρ2 i=some b:=(q1 i hi).trans hb;have hq0:=hq;unfold KY at hq;cases hc2:(adn .u32 0 (cellAt h2 i o)&&adn .i32 1 (cellAt h2 i (o+1))&&(setCell h2 i (o+1) (.lit (.int .i32 0))).isSome)<;>rw[hc2]at hq
     ·exact hq.elim
     ·simp only[aP]at hq
      simp only[aJ]at hc2;obtain⟨⟨d0,d1⟩,d2⟩:=hc2;split at hq
      ·rename_i h3 hs3
       obtain⟨h5,hs5⟩:=Option.isSome_iff_exists.1 d2;obtain⟨_,z1,_⟩:=oL (P:=Tryz.prog) q3 (Ry hs5) hb2;obtain⟨_,z0,_⟩:=oL (P:=Tryz.prog) q3 (Ry hs3) hb2;have m0:=KZ q3 hb2 d0;have m1:=KZ q3 hb2 d1;rw[e1]at m1 z1;exact⟨⟨u,rfl⟩,m0,z0,m1,z1,ρ2,h2,λj hj=>q1 j (by rw[n1];exact hj),by rw[<-n1];exact q2,q3,(by rw[e1]at K1;exact K1.trans q5),hq0⟩
      ·exact hq.elim
    ·rintro e w' ⟨rfl,w2,⟨ρ2,h2,q1,q2,q3,q5,hq⟩,rfl⟩
     have hi:i<h.next:=by
      rcases Nat.lt_or_ge i h.next with hlt|hge
      ·exact hlt
      ·obtain⟨_,_,_,_,r4,_⟩:=hR
       rw[r4 i hge]at hb;cases hb
     have hb2:ρ2 i=some b:=(q1 i hi).trans hb;unfold KY at hq;cases hc2:(adn .u32 0 (cellAt h2 i o)&&adn .i32 1 (cellAt h2 i (o+1))&&(setCell h2 i (o+1) (.lit (.int .i32 0))).isSome)<;>rw[hc2]at hq
     ·exact hq.elim
     ·simp only[aP]at hq
      split at hq
      ·rename_i h3 hs3
       split at hq
       ·rename_i h4 hs4
        obtain⟨h3',_,R3,n3,K3,rfl⟩:=oL (P:=Tryz.prog) q3.drew (Ry hs3) hb2;obtain⟨h4',_,R4,n4,K4,rfl⟩:=oL (P:=Tryz.prog) R3 (Ry hs4) hb2;rw[e1]at R4 K4;exact⟨ρ2,_,_,_,q1,by omega,R4,by simp only[bD];exact⟨_,rfl,.nil⟩,rfl,((q5.trans (Keeps.drew T w2)).trans K3).trans K4,hq⟩
       ·exact hq.elim
      ·exact hq.elim
   ·exact hq.elim
 ·exact hq.elim
def ado(n:Nat)(k:Nat):Int:=if k=0 then 4 else if k=1 then 70 else if k=2 then 85 else if k=3 then 83 else if k=4 then 69 else(n:Int)/256^(k-5)%256
noncomputable def nD(n:Nat)(k:Nat):Int:=if k<9 then ado n k else if k<13 then nR 0 (ado n) 9/256^(k-9)%256 else 0
noncomputable def Fb:Ctr:=det Nat (λn=>[i64 n]) 0 (λ_=>[]) (λn=>Hd (10<=n/\n<=258)) (λ_=> .tup [.slE 0 0 1 64 64,i64 0]) 1 (λn=>[.cells 312 (rowB (nD n) 64)])
def DevM.wide(d:DevM)(k:Int):Prop:=d.st+k<1099511627776/\d.fl+k<1099511627776/\d.fe+k<1099511627776
noncomputable def Fe:jg:={X:=DevM,args:=λ_=>[.ptr 0 0],k:=1,l:=λd=>[.m d.os],pre:=λd=>Hd (d.ok/\10<=d.n/\d.wide 10),outs:=[
 {Y:=DevM,post:=λd d'=>Hd (d'.ok/\d'.n=d.n/\d'.st=d.st+2/\d'.fl=d.fl+2/\d'.fe=d.fe+1),ret:=λ_ _=>i64 0,m:=1,l:=λ_ d'=>[.m d'.os]}]}
noncomputable def aui:jv:=[(149,ctrT Fb),(150,ctrT Bz),(62,ctrT BF),(105,ctrT BA),(106,ctrT BD)]
def arz(a:uT)(b:Nat):Prop:=(Nat.beq (List.length [Value.int .u8 (a.res (0+b))]) 1&&List.all [Value.int .u8 (a.res (0+b))] Value.oneCell')=true
def amO(a:DevM)(b:DevM):Prop:=a.fe=b.fe/\a.ba=b.ba/\a.cu=b.cu/\True
def arA(a:DevM)(b:Qq):Prop:=((0=0/\a.n=b.d.n/\a.n=b.d.n)/\a.st=b.d.st/\a.fl=ite (b.k<b.d.n) (b.d.fl+1) b.d.fl/\amO a b.d)/\(a.n*193=b.d.n*193/\ ∀q:Nat,q<a.n*193->Cs.eff (gu a) [] q=Cs.eff (gu (b.d.flush b.k)) [] q)/\True
def amP(a:uT):Prop:= ∀k:Nat,k<a.b.n->arz a k
def amQ(a:uT):Prop:= ∀k:Nat,k<64->arz a k
def Hz:Prop:=0<=64/\64<=64/\64<=64
def aia:Prop:=(0=0/\64=64/\64=64)/\(0:Int)=0/\True
def aib(a:DevM)(b:lN):Prop:=a.n*193=b.d.n*193/\ ∀q:Nat,q<a.n*193->Cs.eff (gu a) [] q=Cs.eff (gu (b.d.store b.k b.a b.b.n (λ(q_1:Nat)=>b.b.g (b.b.q+q_1)))) [] q
def aic(a:uT)(b: ∀a:Nat,Int)(c:Nat):Prop:=(a.b.q=0/\a.b.n=64/\a.c=64)/\(a.at_:Int)=9/\(a.w:Int)=4/\a.v=IntKind.wrap .u64 (nR (0:Int) b c)/\True
def aie(a:DevM)(b:DevM):Prop:=(0=0/\a.n=b.n/\a.n=b.n)/\a.st=b.st+1/\a.fl=b.fl/\amO a b
def aif:Prop:= ∃y:Unit,True/\(False/\(0:Int)=2/\True)/\False/\True
def Wy(x:Nat):Prop:=
 cP (decide ((x:Int)<10)) aif (cP (decide ((x:Int)>(258:Int))) aif (∃x_1:uT,Hd x_1.ok/\((x_1.b.q=0/\x_1.b.n=9/\x_1.c=9)/\(x_1.at_:Int)=5/\(x_1.w:Int)=4/\x_1.v=IntKind.wrap .u64 (x:Int)/\True)/\((x_1.b.N=9/\ ∀q:Nat,q<x_1.b.N->[Value.int .u8 (x_1.b.g q)]=[List.getD [Value.int .u8 4,Value.int .u8 70,Value.int .u8 85,Value.int .u8 83,Value.int .u8 69,Value.int .u8 0,Value.int .u8 0,Value.int .u8 0,Value.int .u8 0] q (@Inhabited.default Value @instInhabitedValue)])/\True)/\ ∀y:Unit,True->Hz/\64<=64/\cP (Nat.ble x_1.b.n 64) (0+x_1.b.n<=x_1.b.n/\amP x_1/\Hz/\0+x_1.b.n<=x_1.b.n/\ ∃n:Nat,∃g: ∀a:Nat,Int,x_1.b.n=n/\n<1099511627776/\(∀k:Nat,k<n->[Value.int .u8 (x_1.res (0+k))]=[Value.int .u8 (g k)])/\(∀k:Nat,0<=g k/\g k<256)/\True/\ ∃x_2:uT,Hd x_2.ok/\aic x_2 g n/\((x_2.b.N=64/\ ∀q:Nat,q<x_2.b.N->[Value.int .u8 (x_2.b.g q)]=Cs.eff (λ(p:Nat)=>cond (Nat.ble 0 p&&Nat.blt p (0+x_1.b.n)) [Value.int .u8 (x_1.res (0+(p-0)))] [Value.int .u8 0]) [] q)/\True)/\ ∀y_1:Unit,True->True/\Hz/\64<=64/\cP (Nat.ble x_2.b.n 64) (0+x_2.b.n<=x_2.b.n/\amP x_2/\
 (∀k:Nat,k<64->(Nat.beq (List.length (Cs.eff (λ(p:Nat)=>cond (Nat.ble 0 p&&Nat.blt p (0+x_2.b.n)) [Value.int .u8 (x_2.res (0+(p-0)))] (Cs.eff (λ(p_1:Nat)=>cond (Nat.ble 0 p_1&&Nat.blt p_1 (0+x_1.b.n)) [Value.int .u8 (x_1.res (0+(p_1-0)))] [Value.int .u8 0]) [] p)) [] k)) 1&&List.all (Cs.eff (λ(p:Nat)=>cond (Nat.ble 0 p&&Nat.blt p (0+x_2.b.n)) [Value.int .u8 (x_2.res (0+(p-0)))] (Cs.eff (λ(p_1:Nat)=>cond (Nat.ble 0 p_1&&Nat.blt p_1 (0+x_1.b.n)) [Value.int .u8 (x_1.res (0+(p_1-0)))] [Value.int .u8 0]) [] p)) [] k) Value.oneCell')=true)/\(∀k:Nat,k<64->(Nat.beq (List.length (Cs.eff (Cs.eff (λ(p:Nat)=>cond (Nat.ble 0 p&&Nat.blt p (0+x_2.b.n)) [Value.int .u8 (x_2.res (0+(p-0)))] (Cs.eff (λ(p_1:Nat)=>cond (Nat.ble 0 p_1&&Nat.blt p_1 (0+x_1.b.n)) [Value.int .u8 (x_1.res (0+(p_1-0)))] [Value.int .u8 0]) [] p)) []) [] k)) 1&&List.all (Cs.eff (Cs.eff (λ(p:Nat)=>cond (Nat.ble 0 p&&Nat.blt p (0+x_2.b.n)) [Value.int .u8 (x_2.res (0+(p-0)))] (Cs.eff (λ(p_1:Nat)=>cond (Nat.ble 0 p_1&&Nat.blt p_1 (0+x_1.b.n)) [Value.int .u8 (x_1.res (0+(p_1-0)))] [Value.int .u8 0]) [] p)) []) [] k) Value.oneCell')=true)/\
 (∀k:Nat,k<64->(Nat.beq (List.length (Cs.eff (Cs.eff (Cs.eff (λ(p:Nat)=>cond (Nat.ble 0 p&&Nat.blt p (0+x_2.b.n)) [Value.int .u8 (x_2.res (0+(p-0)))] (Cs.eff (λ(p_1:Nat)=>cond (Nat.ble 0 p_1&&Nat.blt p_1 (0+x_1.b.n)) [Value.int .u8 (x_1.res (0+(p_1-0)))] [Value.int .u8 0]) [] p)) []) []) [] k)) 1&&List.all (Cs.eff (Cs.eff (Cs.eff (λ(p:Nat)=>cond (Nat.ble 0 p&&Nat.blt p (0+x_2.b.n)) [Value.int .u8 (x_2.res (0+(p-0)))] (Cs.eff (λ(p_1:Nat)=>cond (Nat.ble 0 p_1&&Nat.blt p_1 (0+x_1.b.n)) [Value.int .u8 (x_1.res (0+(p_1-0)))] [Value.int .u8 0]) [] p)) []) []) [] k) Value.oneCell')=true)/\Hz/\ ∃y_2:Unit,True/\aia/\(64=64/\ ∀q:Nat,q<64->[Value.int .u8 (nD x q)]=Cs.eff (Cs.eff (Cs.eff (Cs.eff (λ(p:Nat)=>cond (Nat.ble 0 p&&Nat.blt p (0+x_2.b.n)) [Value.int .u8 (x_2.res (0+(p-0)))] (Cs.eff (λ(p_1:Nat)=>cond (Nat.ble 0 p_1&&Nat.blt p_1 (0+x_1.b.n)) [Value.int .u8 (x_1.res (0+(p_1-0)))] [Value.int .u8 0]) [] p)) []) []) []) [] q)/\True) (64<=x_2.b.n/\amQ x_2/\(∀k:Nat,k<64->(Nat.beq (List.length (Cs.eff (λ(p:Nat)=>cond (Nat.ble 0 p&&Nat.blt p 64) [Value.int .u8 (x_2.res (0+(p-0)))] (Cs.eff (λ(p_1:Nat)=>cond (Nat.ble 0 p_1&&Nat.blt p_1 (0+x_1.b.n)) [Value.int .u8 (x_1.res (0+(p_1-0)))] [Value.int .u8 0]) [] p)) [] k)) 1&&List.all (Cs.eff (λ(p:Nat)=>cond (Nat.ble 0 p&&Nat.blt p 64) [Value.int .u8 (x_2.res (0+(p-0)))] (Cs.eff (λ(p_1:Nat)=>cond (Nat.ble 0 p_1&&Nat.blt p_1 (0+x_1.b.n)) [Value.int .u8 (x_1.res (0+(p_1-0)))] [Value.int .u8 0]) [] p)) [] k) Value.oneCell')=true)/\
 (∀k:Nat,k<64->(Nat.beq (List.length (Cs.eff (Cs.eff (λ(p:Nat)=>cond (Nat.ble 0 p&&Nat.blt p 64) [Value.int .u8 (x_2.res (0+(p-0)))] (Cs.eff (λ(p_1:Nat)=>cond (Nat.ble 0 p_1&&Nat.blt p_1 (0+x_1.b.n)) [Value.int .u8 (x_1.res (0+(p_1-0)))] [Value.int .u8 0]) [] p)) []) [] k)) 1&&List.all (Cs.eff (Cs.eff (λ(p:Nat)=>cond (Nat.ble 0 p&&Nat.blt p 64) [Value.int .u8 (x_2.res (0+(p-0)))] (Cs.eff (λ(p_1:Nat)=>cond (Nat.ble 0 p_1&&Nat.blt p_1 (0+x_1.b.n)) [Value.int .u8 (x_1.res (0+(p_1-0)))] [Value.int .u8 0]) [] p)) []) [] k) Value.oneCell')=true)/\(∀k:Nat,k<64->(Nat.beq (List.length (Cs.eff (Cs.eff (Cs.eff (λ(p:Nat)=>cond (Nat.ble 0 p&&Nat.blt p 64) [Value.int .u8 (x_2.res (0+(p-0)))] (Cs.eff (λ(p_1:Nat)=>cond (Nat.ble 0 p_1&&Nat.blt p_1 (0+x_1.b.n)) [Value.int .u8 (x_1.res (0+(p_1-0)))] [Value.int .u8 0]) [] p)) []) []) [] k)) 1&&List.all (Cs.eff (Cs.eff (Cs.eff (λ(p:Nat)=>cond (Nat.ble 0 p&&Nat.blt p 64) [Value.int .u8 (x_2.res (0+(p-0)))] (Cs.eff (λ(p_1:Nat)=>cond (Nat.ble 0 p_1&&Nat.blt p_1 (0+x_1.b.n)) [Value.int .u8 (x_1.res (0+(p_1-0)))] [Value.int .u8 0]) [] p)) []) []) [] k) Value.oneCell')=true)/\Hz/\ ∃y_2:Unit,True/\aia/\(64=64/\ ∀q:Nat,q<64->[Value.int .u8 (nD x q)]=Cs.eff (Cs.eff (Cs.eff (Cs.eff (λ(p:Nat)=>cond (Nat.ble 0 p&&Nat.blt p 64) [Value.int .u8 (x_2.res (0+(p-0)))] (Cs.eff (λ(p_1:Nat)=>cond (Nat.ble 0 p_1&&Nat.blt p_1 (0+x_1.b.n)) [Value.int .u8 (x_1.res (0+(p_1-0)))] [Value.int .u8 0]) [] p)) []) []) []) [] q)/\True)) (64<=x_1.b.n/\amQ x_1/\Hz/\0+x_1.b.n<=x_1.b.n/\ ∃n:Nat,∃g: ∀a:Nat,Int,x_1.b.n=n/\n<1099511627776/\
 (∀k:Nat,k<n->[Value.int .u8 (x_1.res (0+k))]=[Value.int .u8 (g k)])/\(∀k:Nat,0<=g k/\g k<256)/\True/\ ∃x_2:uT,Hd x_2.ok/\aic x_2 g n/\((x_2.b.N=64/\ ∀q:Nat,q<x_2.b.N->[Value.int .u8 (x_2.b.g q)]=Cs.eff (λ(p:Nat)=>cond (Nat.ble 0 p&&Nat.blt p 64) [Value.int .u8 (x_1.res (0+(p-0)))] [Value.int .u8 0]) [] q)/\True)/\ ∀y_1:Unit,True->True/\Hz/\64<=64/\cP (Nat.ble x_2.b.n 64) (0+x_2.b.n<=x_2.b.n/\amP x_2/\(∀k:Nat,k<64->(Nat.beq (List.length (Cs.eff (λ(p:Nat)=>cond (Nat.ble 0 p&&Nat.blt p (0+x_2.b.n)) [Value.int .u8 (x_2.res (0+(p-0)))] (Cs.eff (λ(p_1:Nat)=>cond (Nat.ble 0 p_1&&Nat.blt p_1 64) [Value.int .u8 (x_1.res (0+(p_1-0)))] [Value.int .u8 0]) [] p)) [] k)) 1&&List.all (Cs.eff (λ(p:Nat)=>cond (Nat.ble 0 p&&Nat.blt p (0+x_2.b.n)) [Value.int .u8 (x_2.res (0+(p-0)))] (Cs.eff (λ(p_1:Nat)=>cond (Nat.ble 0 p_1&&Nat.blt p_1 64) [Value.int .u8 (x_1.res (0+(p_1-0)))] [Value.int .u8 0]) [] p)) [] k) Value.oneCell')=true)/\(∀k:Nat,k<64->(Nat.beq (List.length (Cs.eff (Cs.eff (λ(p:Nat)=>cond (Nat.ble 0 p&&Nat.blt p (0+x_2.b.n)) [Value.int .u8 (x_2.res (0+(p-0)))] (Cs.eff (λ(p_1:Nat)=>cond (Nat.ble 0 p_1&&Nat.blt p_1 64) [Value.int .u8 (x_1.res (0+(p_1-0)))] [Value.int .u8 0]) [] p)) []) [] k)) 1&&List.all (Cs.eff (Cs.eff (λ(p:Nat)=>cond (Nat.ble 0 p&&Nat.blt p (0+x_2.b.n)) [Value.int .u8 (x_2.res (0+(p-0)))] (Cs.eff (λ(p_1:Nat)=>cond (Nat.ble 0 p_1&&Nat.blt p_1 64) [Value.int .u8 (x_1.res (0+(p_1-0)))] [Value.int .u8 0]) [] p)) []) [] k) Value.oneCell')=true)/\
 (∀k:Nat,k<64->(Nat.beq (List.length (Cs.eff (Cs.eff (Cs.eff (λ(p:Nat)=>cond (Nat.ble 0 p&&Nat.blt p (0+x_2.b.n)) [Value.int .u8 (x_2.res (0+(p-0)))] (Cs.eff (λ(p_1:Nat)=>cond (Nat.ble 0 p_1&&Nat.blt p_1 64) [Value.int .u8 (x_1.res (0+(p_1-0)))] [Value.int .u8 0]) [] p)) []) []) [] k)) 1&&List.all (Cs.eff (Cs.eff (Cs.eff (λ(p:Nat)=>cond (Nat.ble 0 p&&Nat.blt p (0+x_2.b.n)) [Value.int .u8 (x_2.res (0+(p-0)))] (Cs.eff (λ(p_1:Nat)=>cond (Nat.ble 0 p_1&&Nat.blt p_1 64) [Value.int .u8 (x_1.res (0+(p_1-0)))] [Value.int .u8 0]) [] p)) []) []) [] k) Value.oneCell')=true)/\Hz/\ ∃y_2:Unit,True/\aia/\(64=64/\ ∀q:Nat,q<64->[Value.int .u8 (nD x q)]=Cs.eff (Cs.eff (Cs.eff (Cs.eff (λ(p:Nat)=>cond (Nat.ble 0 p&&Nat.blt p (0+x_2.b.n)) [Value.int .u8 (x_2.res (0+(p-0)))] (Cs.eff (λ(p_1:Nat)=>cond (Nat.ble 0 p_1&&Nat.blt p_1 64) [Value.int .u8 (x_1.res (0+(p_1-0)))] [Value.int .u8 0]) [] p)) []) []) []) [] q)/\True) (64<=x_2.b.n/\amQ x_2/\(∀k:Nat,k<64->(Nat.beq (List.length (Cs.eff (λ(p:Nat)=>cond (Nat.ble 0 p&&Nat.blt p 64) [Value.int .u8 (x_2.res (0+(p-0)))] (Cs.eff (λ(p_1:Nat)=>cond (Nat.ble 0 p_1&&Nat.blt p_1 64) [Value.int .u8 (x_1.res (0+(p_1-0)))] [Value.int .u8 0]) [] p)) [] k)) 1&&List.all (Cs.eff (λ(p:Nat)=>cond (Nat.ble 0 p&&Nat.blt p 64) [Value.int .u8 (x_2.res (0+(p-0)))] (Cs.eff (λ(p_1:Nat)=>cond (Nat.ble 0 p_1&&Nat.blt p_1 64) [Value.int .u8 (x_1.res (0+(p_1-0)))] [Value.int .u8 0]) [] p)) [] k) Value.oneCell')=true)/\
 (∀k:Nat,k<64->(Nat.beq (List.length (Cs.eff (Cs.eff (λ(p:Nat)=>cond (Nat.ble 0 p&&Nat.blt p 64) [Value.int .u8 (x_2.res (0+(p-0)))] (Cs.eff (λ(p_1:Nat)=>cond (Nat.ble 0 p_1&&Nat.blt p_1 64) [Value.int .u8 (x_1.res (0+(p_1-0)))] [Value.int .u8 0]) [] p)) []) [] k)) 1&&List.all (Cs.eff (Cs.eff (λ(p:Nat)=>cond (Nat.ble 0 p&&Nat.blt p 64) [Value.int .u8 (x_2.res (0+(p-0)))] (Cs.eff (λ(p_1:Nat)=>cond (Nat.ble 0 p_1&&Nat.blt p_1 64) [Value.int .u8 (x_1.res (0+(p_1-0)))] [Value.int .u8 0]) [] p)) []) [] k) Value.oneCell')=true)/\(∀k:Nat,k<64->(Nat.beq (List.length (Cs.eff (Cs.eff (Cs.eff (λ(p:Nat)=>cond (Nat.ble 0 p&&Nat.blt p 64) [Value.int .u8 (x_2.res (0+(p-0)))] (Cs.eff (λ(p_1:Nat)=>cond (Nat.ble 0 p_1&&Nat.blt p_1 64) [Value.int .u8 (x_1.res (0+(p_1-0)))] [Value.int .u8 0]) [] p)) []) []) [] k)) 1&&List.all (Cs.eff (Cs.eff (Cs.eff (λ(p:Nat)=>cond (Nat.ble 0 p&&Nat.blt p 64) [Value.int .u8 (x_2.res (0+(p-0)))] (Cs.eff (λ(p_1:Nat)=>cond (Nat.ble 0 p_1&&Nat.blt p_1 64) [Value.int .u8 (x_1.res (0+(p_1-0)))] [Value.int .u8 0]) [] p)) []) []) [] k) Value.oneCell')=true)/\Hz/\ ∃y_2:Unit,True/\aia/\(64=64/\ ∀q:Nat,q<64->[Value.int .u8 (nD x q)]=Cs.eff (Cs.eff (Cs.eff (Cs.eff (λ(p:Nat)=>cond (Nat.ble 0 p&&Nat.blt p 64) [Value.int .u8 (x_2.res (0+(p-0)))] (Cs.eff (λ(p_1:Nat)=>cond (Nat.ble 0 p_1&&Nat.blt p_1 64) [Value.int .u8 (x_1.res (0+(p_1-0)))] [Value.int .u8 0]) [] p)) []) []) []) [] q)/\True))))
theorem adp(x:Nat):Wy x=wpF Tryz.prog tblK tt (noA x) 200 5 149 (Fb.args x) (hO Fb.k (Fb.os x)) (λv h'=>eG Fb.k x v h' Fb.outs):=by kernel_rfl
def La(x:DevM):Prop:=
 ∃x_1:Nat,Hd (10<=x_1/\x_1<=258)/\((x_1:Int)=(x.n:Int)/\True)/\True/\ ∀y:Unit,True-> ∃x_2:lN,Hd (x_2.d.ok/\x_2.k<x_2.d.n/\x_2.b.ok/\x_2.a+x_2.b.n<=64)/\(0=0/\(x_2.k:Int)=0/\(x_2.a:Int)=0/\(x_2.b.q=0/\x_2.b.n=64)/\True)/\(((0=0/\x_2.d.n=x.n/\x_2.d.n=x.n)/\x_2.d.st=x.st/\x_2.d.fl=x.fl/\amO x_2.d x)/\(x_2.d.n*193=x.n*193/\ ∀q:Nat,q<x_2.d.n*193->Cs.eff (gu x_2.d) [] q=Cs.eff (gu x) [] q)/\(x_2.b.N=64/\ ∀q:Nat,q<x_2.b.N->[Value.int .u8 (x_2.b.g q)]=[Value.int .u8 (nD x_1 q)])/\True)/\ ∀y_1:Unit,True-> ∃x_3:Int,Hd (0<=x_3/\x_3<18446744073709551616)/\(x_3=0/\True)/\True/\ ∀y_2:Unit,True-> ∃x_4:lN,Hd (x_4.d.ok/\x_4.k<x_4.d.n/\x_4.b.ok/\x_4.a+x_4.b.n<=64)/\(0=0/\(x_4.k:Int)=1/\(x_4.a:Int)=0/\(x_4.b.q=0/\x_4.b.n=64)/\True)/\(aie x_4.d x_2.d/\aib x_4.d x_2/\(x_4.b.N=64/\ ∀q:Nat,q<x_4.b.N->[Value.int .u8 (x_4.b.g q)]=[Value.int .u8 (iE x_3 q)])/\True)/\ ∀y_3:Unit,True-> ∃x_5:Qq,Hd (x_5.d.ok/\x_5.k<258)/\(0=0/\(x_5.k:Int)=0/\True)/\(aie x_5.d x_4.d/\aib x_5.d x_4/\True)/\ ∀y_4:Unit,True-> ∃x_6:Qq,Hd (x_6.d.ok/\x_6.k<258)/\(0=0/\(x_6.k:Int)=1/\True)/\arA x_6.d x_5/\ ∀y_5:Unit,True-> ∃x_7:DevM,Hd x_7.ok/\(0=0/\True)/\arA x_7 x_6/\ ∀y_6:Unit,True-> ∃y_7:DevM,Hd (y_7.ok/\y_7.n=x.n/\y_7.st=x.st+2/\y_7.fl=x.fl+2/\y_7.fe=x.fe+1)/\(0:Int)=0/\((0=0/\y_7.n=x_7.n/\y_7.n=x_7.n)/\y_7.st=x_7.st/\y_7.fl=x_7.fl/\y_7.fe=x_7.fe+1/\y_7.ba=x_7.ba/\y_7.cu=x_7.cu/\True)/\(y_7.n*193=x_7.n*193/\ ∀q:Nat,q<y_7.n*193->Cs.eff (gu y_7) [] q=Cs.eff (gu x_7.fence) [] q)/\True
theorem WA(x:DevM):La x=wpF Tryz.prog aui tt (noA x) 200 5 90 (Fe.args x) (hO 2 (flatP 1 (Fe.l x))) (λv h'=>endsPK 1 x v h' Fe.outs):=by kernel_rfl
theorem Rz(v:Nat)(hv:10<=v/\v<=258):Wy v:=by
 have hw:IntKind.u64.wrap (v:Int)=v:=iC (by omega) (by omega);let b0:Bys:=⟨λk=>if k=0 then 4 else if k=1 then 70 else if k=2 then 85 else if k=3 then 83 else if k=4 then 69 else 0,0,9,9⟩
 let x1:uT:=⟨b0,5,4,v,9⟩
 have ok1:x1.ok:=⟨⟨by simp[x1,b0],by simp[x1,b0],λk=>by simp only[x1,b0];grind⟩,by simp[x1,b0],by simp[x1],by simp[x1],by show(0:Int)<=v;omega,by show(v:Int)<256^4;omega⟩;have r1: ∀k,k<9->x1.res k=ado v k:=λk hk=>by
  simp only[uT.res,pO,ado,x1,b0];by_cases h:k<5
  ·rw[if_neg (by omega),aA];grind
  ·rw[if_pos (by omega)];grind
 have u1: ∀k,0<=x1.res k/\x1.res k<256:=zF (λk=>ok1.1.2.2 _) _ _ _;let b1:Bys:=⟨λk=>if k<9 then x1.res k else 0,0,64,64⟩
 let x2:uT:=⟨b1,9,4,nR 0 x1.res 9,64⟩
 have c1:nR 0 x1.res 9=nR 0 (ado v) 9:=zD r1;have hU:=Z5 0 x1.res 9
 have ok2:x2.ok:=⟨⟨by simp[x2,b1],by simp[x2,b1],λk=>by
  show 0<=(if k<9 then x1.res k else 0)/\(if k<9 then x1.res k else 0)<256;split
  ·exact u1 k
  ·exact⟨by omega,by omega⟩⟩,by simp[x2,b1],by simp[x2],by simp[x2],hU.1,hU.2⟩
 have w64:IntKind.u64.wrap (nR 0 x1.res 9)=nR 0 x1.res 9:=iC hU.1 (by have:=hU.2;omega);have nb:x1.b.n=9:=rfl;have nb2:x2.b.n=64:=rfl;have ble9:Nat.ble 9 64=true:=rfl;have aqT:Nat.ble 64 64=true:=rfl;unfold Wy;simp only[aif,Hz,amP,aic,aia,amQ,arz];simp only[aZ,aV,aU,aA,aI,bQ,bF,aO,aK,ay,aX,aW,bT,bG,bH,bI,bU,bC,bJ,bn,eH,aH,aN,ah,ak,aB,aF,aC,aG,hw];refine bf (λh=>absurd (aS h) (by omega)) λ_=>bf (λh=>absurd (aS h) (by omega)) λ_=> ?_
 refine⟨x1,ok1,⟨⟨rfl,rfl,rfl⟩,rfl,rfl,rfl⟩,⟨rfl,λq hq=> ?_⟩,by omega,by omega,?_⟩
 ·have hq:q<9:=hq
  match q,hq with
  |0,_|1,_|2,_|3,_|4,_|5,_|6,_|7,_|8,_=>rfl
 simp only[nb,ble9,cP,bT,bG,bH,bI,bU,bC,bJ,bn,eH,aH,aN,ah,ak,aB,aF,aC,aG,aK,aU];refine⟨by omega,by omega,by omega,9,x1.res,rfl,by omega,λ_ _=>rfl,u1,x2,ok2,⟨⟨rfl,rfl,rfl⟩,rfl,rfl,w64.symm⟩,⟨rfl,λq hq=> ?_⟩,by omega,by omega,?_⟩
 ·show(if q<9 then x1.res q else 0)=_
  rw[bV,dI]
 simp only[nb2,aqT,cP,bT,bG,bH,bI,bU,bC,bJ,bn,eH,aH,aN,ah,ak,aB,aF,aC,aG,aK,aU];refine⟨by omega,by omega,λq hq=> ?_⟩;simp[bg.2 hq];show nD v q=pO (λk=>if 0+k<9 then x1.res (0+k)else 0) 9 4 (nR 0 x1.res 9) q;simp only[nD,pO,c1,aA];by_cases h:q<9
 ·rw[if_pos h,if_neg (by omega),if_pos h,r1 q h]
 ·by_cases h2:q<13
  ·rw[if_neg h,if_pos h2,if_pos (by omega)]
  ·rw[if_neg h,if_neg h2,if_neg (by omega),if_neg h]
theorem RD{v:Nat}(hv:v<=258)(k:Nat):0<=nD v k/\nD v k<256:=by
 unfold nD ado
 repeat' split
 all_goals first|exact mG _ _|omega
theorem DevM.zO{d:DevM}(h:d.ok)(k:Nat)(hf:d.fl+1<1099511627776):(d.flush k).ok:=by
 obtain⟨h1,h2,h3,h4,h5,h6⟩:=h;refine⟨h1,λp=> ?_,h3,?_,h5,h6⟩
 ·simp only[DevM.flush];split<;>exact h2 _
 ·unfold small at*;simp only[DevM.flush];split<;>omega
theorem DevM.Ji{d:DevM}(h:d.ok)(hf:d.fe+1<1099511627776):d.fence.ok:=by
 obtain⟨h1,h2,h3,h4,h5,h6⟩:=h;refine⟨h1,λp=> ?_,h3,h4,?_,h6⟩
 ·simp only[DevM.fence,DevM.iK];split<;>exact h2 _
 ·unfold small at*;simp only[DevM.fence,DevM.iK];omega
theorem DevM.pV{d:DevM}(h:d.ok)(k a n:Nat){g:Nat->Int}(hg: ∀q,0<=g q/\g q<256)(hf:d.st+1<1099511627776):(d.store k a n g).ok:=by
 obtain⟨h1,h2,h3,h4,h5,h6⟩:=h;refine⟨h1,λp=> ?_,?_,h4,h5,h6⟩
 ·simp only[DevM.store]
  split
  ·exact hg _
  ·exact h2 _
 ·unfold small at*;simp only[DevM.store];omega
theorem Lc(x:DevM)(hx:x.ok/\10<=x.n/\x.wide 10):La x:=by
 obtain⟨ho,hn,w1,w2,w3⟩:=hx;have hn2:=ho.1;let s1:=x.store 0 0 64 (nD x.n)
 let s2:=s1.store 1 0 64 (iE 0)
 let f1:=s2.flush 0
 let f2:=f1.flush 1
 have o1:s1.ok:=DevM.pV ho _ _ _ (RD (by omega)) (by omega);have o2:s2.ok:=DevM.pV o1 _ _ _ (yA 0) (by show x.st+1+1<_;omega);have o3:f1.ok:=DevM.zO o2 0 (by show x.fl+1<_;omega);have e3:f1.fl=x.fl+1:=if_pos (by show 0<x.n;omega);have o4:f2.ok:=DevM.zO o3 1 (by rw[e3];omega);have e4:f2.fl=x.fl+2:=(if_pos (show 1<x.n by omega)).trans (by rw[e3];omega);have o5:f2.fence.ok:=DevM.Ji o4 (by show x.fe+1<_;omega);have z1:(x.store 0 0 64 λq=>nD x.n (0+q))=s1:=by simp only[aA];rfl
 have z2:(s1.store 1 0 64 λq=>iE 0 (0+q))=s2:=by simp only[aA];rfl
 unfold La;simp only[amO,aie,aib,arA];simp only[aZ,aV,aU,aA,aI,bQ,bF,aO,aK,ay,aX,aW,bT,bG,bH,bI,bU,bC,bJ,bn,eH,aH,aN,ah,ak,aB,aF,aC,aG]
 refine⟨x.n,⟨hn,hn2⟩,rfl,⟨x,0,0,⟨nD x.n,0,64,64⟩⟩,⟨ho,by show 0<x.n;omega,⟨by simp,by simp,RD hn2⟩,by simp⟩,⟨rfl,rfl,rfl,rfl⟩,⟨⟨rfl,rfl,rfl,rfl,rfl,rfl⟩,⟨rfl,λq _=>rfl⟩,rfl,λq _=>rfl⟩,
  0,⟨by decide,by decide⟩,rfl,⟨s1,1,0,⟨iE 0,0,64,64⟩⟩,⟨o1,by show 1<x.n;omega,⟨by simp,by simp,yA 0⟩,by simp⟩,⟨rfl,rfl,rfl,rfl⟩,⟨⟨rfl,rfl,rfl,rfl,rfl,rfl⟩,⟨rfl,λq _=> ?_⟩,rfl,λq _=>rfl⟩,
  ⟨s2,0⟩,⟨o2,show 0<258 by decide⟩,rfl,⟨⟨rfl,rfl,rfl,rfl,rfl,rfl⟩,rfl,λq _=> ?_⟩,⟨f1,1⟩,⟨o3,show 1<258 by decide⟩,rfl,⟨⟨rfl,rfl,rfl,rfl,rfl,rfl⟩,rfl,λq _=>rfl⟩,f2,o4,⟨⟨rfl,rfl,rfl,rfl,rfl,rfl⟩,rfl,λq _=>rfl⟩,f2.fence,⟨o5,rfl,by show x.st+1+1=x.st+2;omega,e4,rfl⟩,⟨rfl,rfl,rfl,rfl,rfl,rfl⟩,rfl,λq _=>rfl⟩
 ·show gu s1 q=gu (x.store 0 0 64 λq=>nD x.n (0+q)) q
  rw[z1]
 ·show gu s2 q=gu (s1.store 1 0 64 λq=>iE 0 (0+q)) q
  rw[z2]
theorem amR:bY Tryz.prog 149 Fb:=dL dD mixed agG noA 200 5 (λ_=>rfl) (λ_=>rfl) λx hx=>Eq.mp (adp x) (Rz x (aZ.1 hx))
theorem amS:dY Tryz.prog aui:= .cons (bM amR) (.cons (bM Z8) (.cons (bM aaj) (.cons (bM aah) (.cons (bM aai) .nil))))
theorem aii:bY Tryz.prog 90 Fe.ctr:=cO dD mixed amS 2 noA 200 5 (λ_=>⟨rfl,rfl,rfl,rfl⟩) λx hx=>Eq.mp (WA x) (Lc x (aZ.1 hx))
noncomputable def aij:jg:=ql Nat (λn=>[i64 n]) 0 (λ_=>[]) (λn=>Hd (1<=n/\n<=258)) (λ_=> .tup [.ptr 0 0,i64 0]) 1 (λn=>[.m (yw n).os])
def aik:jg:=ql Nat (λt=>[i64 t]) 0 (λ_=>[]) (λt=>Hd (1<=t/\t<=4)) (λ_=> .tup [.ptr 0 0,i64 0]) 1 (λt=>[.m (amv t).os])
def ail:jg:=ql (Nat×Int) (λp=>[i64 p.1,u64 p.2]) 0 (λ_=>[]) (λp=>Hd (1<=p.1/\p.1<=4/\0<=p.2/\p.2<=1152921504606846976)) (λ_=> .tup [.ptr 0 0,i64 0]) 1 (λp=>[.m ((agP p.1 p.2).os 0)])
noncomputable def ain:jg:=ql Nat (λn=>[i64 n]) 0 (λ_=>[]) (λn=>Hd (1<=n/\n<=32)) (λ_=> .tup [.ptr 0 0,i64 0]) 1 (λn=>[.m (dV n n).os])
noncomputable def RF:jg:=ql DevM (λ_=>[.ptr 0 0]) 1 (λd=>[.m d.os]) (λd=>Hd d.ok) (λd=>i64 d.n) 1 (λd=>[.m d.os])
def aaU:iF:=⟨true,0,λ_=>⟨0,0,0,0,0⟩⟩
def amT:ZLn:=⟨0,0,0,0,λ_=>iT⟩
def aio:jg:=ql Unit (λ_=>[]) 0 (λ_=>[]) (λ_=>Hd True) (λ_=> .ptr 0 0) 1 (λ_=>[.m aaU.os])
def aip:jg:=ql Unit (λ_=>[]) 0 (λ_=>[]) (λ_=>Hd True) (λ_=> .ptr 0 0) 1 (λ_=>[.m amT.os])
def CS:Prop:= ∃y:Unit,True/\(False/\(0:Int)=2/\True)/\False/\False/\True
def RG:Prop:=0=0/\(0:Int)=0/\True
def HY(a:Nat):Prop:=0=0/\a=a/\a=a
def arB:Prop:=258=258/\ ∀q:Nat,q<258->[Value.bool false]=[Value.bool false]
def WB(x:Nat):Prop:=
 cP (decide ((x:Int)<1)) CS (cP (decide ((x:Int)>(258:Int))) CS ((0<=(x:Int)/\(x:Int)<=(x:Int)/\193*(x:Int)<=281474976710656/\(x:Int)<4611686018427387904)/\ ∃y:Unit,True/\RG/\(HY x/\(0:Int)=0/\(0:Int)=0/\(0:Int)=0/\(0:Int)=0/\(0:Int)=0/\True)/\(x*193=x*193/\ ∀q:Nat,∀j:Nat,q<x->j<193-> ∃v:Value,getElem? (List.replicate 192 (Value.int .u8 0)++[Value.bool false]) j=some v/\Cs.eff (gu (yw x)) [] (q*193+j)=[v])/\True))
theorem adq(x:Nat):WB x=wpF Tryz.prog [] tt (noA x) 200 5 48 (aij.args x) (hO 0 (flatP 0 (aij.l x))) (λv h'=>endsPK 0 x v h' aij.outs):=by kernel_rfl
def WC(x:Nat):Prop:=
 cP (decide ((x:Int)<1)) CS (cP (decide ((x:Int)>(4:Int))) CS ((0<=(x:Int)/\(x:Int)<=(x:Int)/\8*(x:Int)<=281474976710656/\(x:Int)<4611686018427387904)/\ ∃y:Unit,True/\RG/\((1:Int)=1/\HY x/\True)/\(x=x/\ ∀q:Nat,q<x->[Value.int .u64 0]=[Value.int .u64 0])/\True))
theorem adr(x:Nat):WC x=wpF Tryz.prog oZ tt (noA x) 200 5 79 (aik.args x) (hO 0 (flatP 0 (aik.l x))) (λv h'=>endsPK 0 x v h' aik.outs):=by kernel_rfl
def WE(x:Nat×Int):Prop:=
 cP (decide ((x.1:Int)<1)) CS (cP (decide ((x.1:Int)>(4:Int))) CS (cP (decide (x.2>(1152921504606846976:Int))) (∃y:Unit,True/\(False/\(0:Int)=10/\True)/\False/\False/\True) ((0<=(x.1:Int)/\(x.1:Int)<=(x.1:Int)/\8*(x.1:Int)<=281474976710656/\(x.1:Int)<4611686018427387904)/\ ∃y:Unit,True/\RG/\((x.2+1=IntKind.wrap .u64 (x.2+1)/\x.2=x.2/\(0:Int)=0/\(0=0/\x.1=x.1/\x.1=x.1)/\True)/\arB/\arB/\Value.nilFunc=Value.nilFunc/\True)/\(x.1=x.1/\ ∀q:Nat,q<x.1->[Value.int .i64 0]=[Value.int .i64 0])/\True)))
theorem ads(x:Nat×Int):WE x=wpF Tryz.prog oZ tt (noA x) 200 5 81 (ail.args x) (hO 0 (flatP 0 (ail.l x))) (λv h'=>endsPK 0 x v h' ail.outs):=by kernel_rfl
def WG(x:Nat):Prop:=
 cP (decide ((x:Int)<1)) CS (I64 (256:Int)/\((8:Int)=0->False)/\I64 (32:Int)/\cP (decide ((x:Int)>(32:Int))) CS ((0<=(x:Int)/\(x:Int)<=(x:Int)/\24*(x:Int)<=281474976710656/\(x:Int)<4611686018427387904)/\(∃s:Nat,s<=x/\True/\((s:Int)=0/\True)/\(HY x/\True)/\(x*10=x*10/\ ∀q:Nat,∀j:Nat,q<x->j<10-> ∃v:Value,getElem? [Value.int .i64 0,Value.bool false,Value.bool false,Value.bool false,Value.bool false,Value.bool false,Value.bool false,Value.bool false,Value.bool false,Value.int .i64 0] j=some v/\Cs.eff (gy (dV x s)) [] (q*10+j)=[v])/\True)/\(∀s:Nat,s<=x->cP (decide ((s:Int)<(x:Int))) ((0<=(s:Int)/\(s:Int)<(x:Int))/\(0+s)*10+0<x*10/\I64 ((s:Int)+1)/\ ∃s_1:Nat,s_1<=x/\x-s_1<x-s/\((s_1:Int)=(s:Int)+1/\True)/\(HY x/\True)/\(x*10=x*10/\ ∀q:Nat,q<x*10->Cs.eff (gy (dV x s_1)) [] q=Cs.eff (gy (dV x s)) [((0+s)*10+0,[Value.int .i64 (-(1:Int))])] q)/\True) (∃y:Unit,True/\RG/\(HY x/\True)/\(x*10=x*10/\ ∀q:Nat,q<x*10->Cs.eff (gy (dV x x)) [] q=Cs.eff (gy (dV x s)) [] q)/\True))/\True))
theorem adt(x:Nat):WG x=wpF Tryz.prog [] tt (ao9 x) 200 5 82 (ain.args x) (hO 0 (flatP 0 (ain.l x))) (λv h'=>endsPK 0 x v h' ain.outs):=by kernel_rfl
def WH(x:DevM):Prop:=
 ∃y:Unit,True/\(x.n:Int)=(x.n:Int)/\(HY x.n/\x.st=x.st/\x.fl=x.fl/\x.fe=x.fe/\x.ba=x.ba/\x.cu=x.cu/\True)/\(x.n*193=x.n*193/\ ∀q:Nat,q<x.n*193->Cs.eff (gu x) [] q=Cs.eff (gu x) [] q)/\True
theorem adu(x:DevM):WH x=wpF Tryz.prog oZ tt (noA x) 200 5 80 (RF.args x) (hO 2 (flatP 1 (RF.l x))) (λv h'=>endsPK 1 x v h' RF.outs):=by kernel_rfl
def aiq(x:Unit):Prop:=
 ∃y:Unit,True/\0=0/\(Value.slice none 0 0=Value.slice none 0 0/\True)/\True
theorem air(x:Unit):aiq x=wpF Tryz.prog [] tt (noA x) 200 5 84 (aio.args x) (hO 0 (flatP 0 (aio.l x))) (λv h'=>endsPK 0 x v h' aio.outs):=by kernel_rfl
def ais(x:Unit):Prop:=
 ∃y:Unit,True/\0=0/\(Value.slice none 0 0=Value.slice none 0 0/\(0:Int)=0/\(0:Int)=0/\True)/\True
theorem ait(x:Unit):ais x=wpF Tryz.prog [] tt (noA x) 200 5 87 (aip.args x) (hO 0 (flatP 0 (aip.l x))) (λv h'=>endsPK 0 x v h' aip.outs):=by kernel_rfl
theorem RH(x:Nat)(hx:1<=x/\x<=258):WB x:=by
 have h:=Vr x hx;unfold agN at h;simp only[aag,ou,lQ]at h;unfold WB;simp only[CS,RG,HY];simp only[aZ,aV,aU,aA,aI,bQ,bF,aO,aK,ay,aX,aW,bT,bG,bH,bI,bU,bC,bJ,bn,eH,aH,aN,ah,ak,aB,aF,aC,aG]at h ⊢;exact h
theorem RI(x:Nat)(hx:1<=x/\x<=4):WC x:=by
 have h:=V3 x hx;unfold ahq at h;simp only[aay,lU]at h;unfold WC;simp only[CS,RG,HY];simp only[aZ,aV,aU,aA,aI,bQ,bF,aO,aK,ay,aX,aW,bT,bG,bH,bI,bU,bC,bJ,bn,eH,aH,aN,ah,ak,aB,aF,aC,aG]at h ⊢;exact h
theorem RJ(x:Nat×Int)(hx:1<=x.1/\x.1<=4/\0<=x.2/\x.2<=1152921504606846976):WE x:=by
 have h:=Vz x hx;unfold agS at h;simp only[aap,I7,BH]at h;unfold WE;simp only[CS,RG,arB];simp only[aZ,aV,aU,aA,aI,bQ,bF,aO,aK,ay,aX,aW,bT,bG,bH,bI,bU,bC,bJ,bn,eH,aH,aN,ah,ak,aB,aF,aC,aG]at h ⊢;exact h
theorem RN(x:Nat)(hx:1<=x/\x<=32):WG x:=by
 have h:=VO x hx;unfold ag7 at h;simp only[aav,oC,yG]at h;unfold WG;simp only[CS,HY,RG];simp only[aZ,aV,aU,aA,aI,bQ,bF,aO,aK,ay,aX,aW,bT,bG,bH,bI,bU,bC,bJ,bn,eH,aH,aN,ah,ak,aB,aF,aC,aG]at h ⊢;exact h
theorem RP(x:DevM)(_:x.ok):WH x:=by
 unfold WH;simp only[HY];simp only[aZ,aV,aU,aA,aI,bQ,bF,aO,aK,ay,aX,aW,bT,bG,bH,bI,bU,bC,bJ,bn,eH,aH,aN,ah,ak,aB,aF,aC,aG]
theorem amU:bY Tryz.prog 48 aij.ctr:=cO dD mixed .nil 0 noA 200 5 (λ_=>⟨rfl,rfl,rfl,rfl⟩) λx hx=>Eq.mp (adq x) (RH x (aZ.1 hx))
theorem amV:bY Tryz.prog 79 aik.ctr:=cO dD mixed dP 0 noA 200 5 (λ_=>⟨rfl,rfl,rfl,rfl⟩) λx hx=>Eq.mp (adr x) (RI x (aZ.1 hx))
theorem amW:bY Tryz.prog 81 ail.ctr:=cO dD mixed dP 0 noA 200 5 (λ_=>⟨rfl,rfl,rfl,rfl⟩) λx hx=>Eq.mp (ads x) (RJ x (aZ.1 hx))
theorem amX:bY Tryz.prog 82 ain.ctr:=cO dD mixed .nil 0 ao9 200 5 (λ_=>⟨rfl,rfl,rfl,rfl⟩) λx hx=>Eq.mp (adt x) (RN x (aZ.1 hx))
theorem amY:bY Tryz.prog 80 RF.ctr:=cO dD mixed dP 2 noA 200 5 (λ_=>⟨rfl,rfl,rfl,rfl⟩) λx hx=>Eq.mp (adu x) (RP x (aZ.1 hx))
theorem WI(x:Unit):aiq x:=by
 unfold aiq;simp only[aZ,aV,aU,aA,aI,bQ,bF,aO,aK,ay,aX,aW,bT,bG,bH,bI,bU,bC,bJ,bn,eH,aH,aN,ah,ak,aB,aF,aC,aG]
theorem amZ:bY Tryz.prog 84 aio.ctr:=cO dD mixed .nil 0 noA 200 5 (λ_=>⟨rfl,rfl,rfl,rfl⟩) λx _=>Eq.mp (air x) (WI x)
theorem WJ(x:Unit):ais x:=by
 unfold ais;simp only[aZ,aV,aU,aA,aI,bQ,bF,aO,aK,ay,aX,aW,bT,bG,bH,bI,bU,bC,bJ,bn,eH,aH,aN,ah,ak,aB,aF,aC,aG]
theorem am0:bY Tryz.prog 87 aip.ctr:=cO dD mixed .nil 0 noA 200 5 (λ_=>⟨rfl,rfl,rfl,rfl⟩) λx _=>Eq.mp (ait x) (WJ x)
structure ZEff where
 kind:Int
 key:ByteArray
 value:ByteArray
 id:Int
 ver:Int
 epoch:Int
 group:Int
def ZEff.cs(e:ZEff):List Value:=[.int .i64 e.kind,.string e.key,.string e.value,.int .u64 e.id,.int .u64 e.ver,.int .u64 e.epoch,.int .i64 e.group]
structure aiu where
 d:DevM
 p:ZPool
 r:ZRd
 c:eX
 b:iF
 l:ZLn
 id:Int
 ver:Int
 n:Nat
 e:Nat->ZEff
namespace aiu
end aiu
structure ZNew where
 n:Nat
 t:Nat
noncomputable def auj:jv:=[(90,ctrT Fe.ctr)]

theorem WL(n:Nat)(h:n<=258):(yw n).ok:=⟨h,λ_=>⟨Int.le_refl 0,(by decide:(0:Int)<256)⟩,⟨Int.le_refl 0,(by decide:(0:Int)<1099511627776)⟩,⟨Int.le_refl 0,(by decide:(0:Int)<1099511627776)⟩,⟨Int.le_refl 0,(by decide:(0:Int)<1099511627776)⟩,
 ⟨Int.le_refl 0,(by decide:(0:Int)<1099511627776)⟩,⟨Int.le_refl 0,(by decide:(0:Int)<1099511627776)⟩⟩
theorem am1:dY Tryz.prog auj:= .cons (bM aii) .nil
structure arC where
 b:iF
 l:ZLn
 k:Int
def arC.inB(x:arC):Prop:= ∃i,i<x.b.n/\((x.b.e i).line=x.k\/(x.b.e i).anti=x.k)


def eX.notes(c:eX)(t:Nat)(l:Int):Nat->eX
 |0=>c
 |i+1=>(c.notes t l i).note t (l+i)
structure ZChg where
 a:aiu
 t:Nat
 e:Int
 v:ByteArray
 key:ByteArray
 had:Bool
 old:ZLnk
 k:Nat
 c:Int
namespace ZChg
end ZChg





structure ZFr where
 key:ByteArray
 value:ByteArray
 epoch:Int
 had:Bool
 old:ZLnk
 line:Int
 cls:Int
 piece:Int
 code:Int
 found:Bool
 ans:ByteArray
 aep:Int
namespace ZFr
end ZFr
def adv(g:Nat->Int)(n:Nat):dA:= .room 5 (rowB g n)
structure arD where
 k:Int
 key:ByteArray
 value:ByteArray
 to:ByteArray
 ph:Int
 ep:Int
 pos:ByteArray
 past:Bool
 lev:Int
 had:Bool
 okey:ByteArray
 oid:Int
 over:Int
 arE:Int
 ocls:Int
 line:Int
 cls:Int
 piece:Int
 at_:Int
 code:Int
 found:Bool
 ans:ByteArray
 aep:Int
def arD.l(x:arD):List AV:=[i64 x.k,.lit (.string x.key),.lit (.string x.value),.lit (.string x.to),ig,i64 x.ph,u64 x.ep,.lit (.string x.pos),boo x.past,i64 x.lev,boo x.had,.lit (.string x.okey),u64 x.oid,u64 x.over,i64 x.arE,i64 x.ocls,i64 x.line,i64 x.cls,i64 x.piece,ig,i64 x.at_,ig,i64 x.code,boo x.found,.lit (.string x.ans),ig,ig,u64 x.aep]
noncomputable def zQ:Ctr:=det arD (λx=>[.agg x.l]) 0 (λ_=>[]) (λ_=>True) (λx=> .agg x.l) 0 (λ_=>[])
inductive Tg where
 |i|u|s|b|n
def aeQ:Tg->AV->Bool
 | .i,.lit (.int .i64 _)=>true
 | .u,.lit (.int .u64 _)=>true
 | .s,.lit (.string _)=>true
 | .b,.lit (.bool _)=>true
 | .n,.lit (.slice none 0 0)=>true
 |_,_=>false
def shp:List Tg->List AV->Bool
 |[],[]=>true
 |t::ts,v::vs=>aeQ t v&&shp ts vs
 |_,_=>false
def tgs:List Tg:=[.i,.s,.s,.s,.n,.i,.u,.s,.b,.i,.b,.s,.u,.u,.i,.i,.i,.i,.i,.n,.i,.n,.i,.b,.s,.n,.n,.u]
theorem dX{t:Tg}{ts:List Tg}{l:List AV}(h:shp (t::ts) l=true): ∃v vs,l=v::vs/\aeQ t v=true/\shp ts vs=true:=by
 cases l with
 |nil=>simp[shp]at h
 |cons v vs=>simp only[shp,aJ]at h;exact⟨v,vs,rfl,h.1,h.2⟩
theorem arF{l:List AV}(h:shp [] l=true):l=[]:=by
 cases l with
 |nil=>rfl
 |cons v vs=>simp[shp]at h
theorem ala{v:AV}(h:aeQ .i v=true): ∃z,v=i64 z:=by
 unfold aeQ at h;split at h<;>first|contradiction|exact⟨_,rfl⟩
theorem tg_u{v:AV}(h:aeQ .u v=true): ∃z,v=u64 z:=by
 unfold aeQ at h;split at h<;>first|contradiction|exact⟨_,rfl⟩
theorem as2{v:AV}(h:aeQ .s v=true): ∃z,v= .lit (.string z):=by
 unfold aeQ at h;split at h<;>first|contradiction|exact⟨_,rfl⟩
theorem tg_b{v:AV}(h:aeQ .b v=true): ∃z,v=boo z:=by
 unfold aeQ at h;split at h<;>first|contradiction|exact⟨_,rfl⟩
theorem auk{v:AV}(h:aeQ .n v=true):v=ig:=by
 unfold aeQ at h;split at h<;>first|contradiction|rfl
theorem shp_l{l:List AV}(h:shp tgs l=true): ∃x:arD,l=x.l:=by
 obtain⟨v0,r0,rfl,a0,h0⟩:=dX h;obtain⟨v1,r1,rfl,a1,h1⟩:=dX h0;obtain⟨v2,r2,rfl,a2,h2⟩:=dX h1;obtain⟨v3,r3,rfl,a3,h3⟩:=dX h2;obtain⟨v4,r4,rfl,a4,h4⟩:=dX h3;obtain⟨v5,r5,rfl,a5,h5⟩:=dX h4;obtain⟨v6,r6,rfl,a6,h6⟩:=dX h5;obtain⟨v7,r7,rfl,a7,h7⟩:=dX h6;obtain⟨v8,r8,rfl,a8,h8⟩:=dX h7;obtain⟨v9,r9,rfl,a9,h9⟩:=dX h8;obtain⟨v10,r10,rfl,a10,h10⟩:=dX h9;obtain⟨v11,r11,rfl,a11,h11⟩:=dX h10;obtain⟨v12,r12,rfl,a12,h12⟩:=dX h11;obtain⟨v13,r13,rfl,a13,h13⟩:=dX h12;obtain⟨v14,r14,rfl,a14,h14⟩:=dX h13;obtain⟨v15,r15,rfl,a15,h15⟩:=dX h14;obtain⟨v16,r16,rfl,a16,h16⟩:=dX h15;obtain⟨v17,r17,rfl,a17,h17⟩:=dX h16;obtain⟨v18,r18,rfl,a18,h18⟩:=dX h17;obtain⟨v19,r19,rfl,a19,h19⟩:=dX h18;obtain⟨v20,r20,rfl,a20,h20⟩:=dX h19;obtain⟨v21,r21,rfl,a21,h21⟩:=dX h20;obtain⟨v22,r22,rfl,a22,h22⟩:=dX h21;obtain⟨v23,r23,rfl,a23,h23⟩:=dX h22;obtain⟨v24,r24,rfl,a24,h24⟩:=dX h23;obtain⟨v25,r25,rfl,a25,h25⟩:=dX h24;obtain⟨v26,r26,rfl,a26,h26⟩:=dX h25;obtain⟨v27,r27,rfl,a27,h27⟩:=dX h26;obtain rfl:=arF h27;obtain⟨z0,rfl⟩:=ala a0;obtain⟨z1,rfl⟩:=as2 a1;obtain⟨z2,rfl⟩:=as2 a2;obtain⟨z3,rfl⟩:=as2 a3;obtain rfl:=auk a4;obtain⟨z5,rfl⟩:=ala a5;obtain⟨z6,rfl⟩:=tg_u a6;obtain⟨z7,rfl⟩:=as2 a7;obtain⟨z8,rfl⟩:=tg_b a8;obtain⟨z9,rfl⟩:=ala a9;obtain⟨z10,rfl⟩:=tg_b a10;obtain⟨z11,rfl⟩:=as2 a11;obtain⟨z12,rfl⟩:=tg_u a12;obtain⟨z13,rfl⟩:=tg_u a13;obtain⟨z14,rfl⟩:=ala a14;obtain⟨z15,rfl⟩:=ala a15;obtain⟨z16,rfl⟩:=ala a16;obtain⟨z17,rfl⟩:=ala a17;obtain⟨z18,rfl⟩:=ala a18;obtain rfl:=auk a19;obtain⟨z20,rfl⟩:=ala a20;obtain rfl:=auk a21;obtain⟨z22,rfl⟩:=ala a22;obtain⟨z23,rfl⟩:=tg_b a23;obtain⟨z24,rfl⟩:=as2 a24;obtain rfl:=auk a25;obtain rfl:=auk a26;obtain⟨z27,rfl⟩:=tg_u a27;exact⟨⟨z0,z1,z2,z3,z5,z6,z7,z8,z9,z10,z11,z12,z13,z14,z15,z16,z17,z18,z20,z22,z23,z24,z27⟩,rfl⟩
def adw:Prop:=Value.slice none 0 0=Value.slice none 0 0
def Fg(x:arD):Prop:=
 ∃y:Unit,True/\(x.k=x.k/\x.key=x.key/\x.value=x.value/\x.to=x.to/\adw/\x.ph=x.ph/\x.ep=x.ep/\x.pos=x.pos/\x.past=x.past/\x.lev=x.lev/\x.had=x.had/\x.okey=x.okey/\x.oid=x.oid/\x.over=x.over/\x.arE=x.arE/\x.ocls=x.ocls/\x.line=x.line/\x.cls=x.cls/\x.piece=x.piece/\adw/\x.at_=x.at_/\adw/\x.code=x.code/\x.found=x.found/\x.ans=x.ans/\adw/\adw/\x.aep=x.aep/\True)/\True
theorem RQ(x:arD):Fg x=wpF Tryz.prog [] tt (noA x) 200 6 52 (zQ.args x) (hO zQ.k (zQ.os x)) (λv h'=>eG zQ.k x v h' zQ.outs):=by kernel_rfl
theorem Ld{P:Program}{f:FuncId}{X:Type}{args:X->List AV}{pre:X->Prop}{ret:X->AV}(hC:bY P f (det X args 0 (λ_=>[]) pre ret 0 (λ_=>[])))(x:X)(hp:pre x)(h:Heap)(ha:(args x).all kS=true)(hr:kS (ret x)=true){K:AV->Heap->Prop}(hK:K (ret x) h):Sp P f (args x) h K:=
 (ZU h (Ve hC x hp) (λ_ _ hv=>hv) ha hr).mono λ_ _ hh=>by obtain⟨rfl,rfl⟩:=hh;exact hK
def aiv:WTr:=λargs h K=>match args with
 |[.lit (.int .i64 c)]=>K (i64 (spn c)) h
 |_=>False
theorem Le(args:List AV)(h:Heap)(K:AV->Heap->Prop)(hq:aiv args h K):Sp Tryz.prog 113 args h K:=by
 unfold aiv at hq;split at hq
 ·exact Ld ny _ trivial h rfl rfl hq
 ·exact hq.elim
namespace ZChg
end ZChg
def emp:ByteArray:=⟨#[]⟩
theorem H6(x:arD):Fg x:=by
 unfold Fg;simp only[adw];simp only[aZ,aV,aU,aA,aI,bQ,bF,aO,aK,ay,aX,aW,bT,bG,bH,bI,bU,bC,bJ,bn,eH,aH,aN,ah,ak,aB,aF,aC,aG]
theorem adx:bY Tryz.prog 52 zQ:=dL dD mixed .nil noA 200 6 (λ_=>rfl) (λ_=>rfl) λx _=>Eq.mp (RQ x) (H6 x)
def arG:FuncId->qR:=λ_ _ _ _=>[]
noncomputable def aiw:WTr:=λargs h K=>match args with
 |[.agg l]=>bif shp tgs l then K (.agg l) h else wpF Tryz.prog [] tt arG 200 6 52 args h K
 |_=>False
theorem aix(args:List AV)(h:Heap)(K:AV->Heap->Prop)(hq:aiw args h K):Sp Tryz.prog 52 args h K:=by
 unfold aiw at hq;split at hq
 ·rename_i l
  cases hs:shp tgs l<;>rw[hs]at hq
  ·exact vF dD mixed .nil _ _ _ _ _ _ _ hq
  ·obtain⟨x,rfl⟩:=shp_l hs
   refine(ZU h (Ve adx x trivial) (λ_ _ hv=>hv) (by rfl) (by rfl)).mono ?_
   rintro v h' ⟨rfl,rfl⟩
   exact hq
 ·exact hq.elim
def arH:WTr:=λargs h K=>match args with
 |[.lit (.int .i64 c)]=>K (i64 (ned c)) h
 |_=>False
theorem am2(args:List AV)(h:Heap)(K:AV->Heap->Prop)(hq:arH args h K):Sp Tryz.prog 201 args h K:=by
 unfold arH at hq;split at hq
 ·exact Ld ag0 _ trivial h rfl rfl hq
 ·exact hq.elim
noncomputable def Fh:jv:=[(52,aiw)]
noncomputable def arI:jv:=Fh++[(113,aiv),(63,ctrT EX),(62,ctrT I9.ctr)]
noncomputable def arJ:jv:=Fh++[(211,ctrT QJ.ctr)]




theorem rU(c:eX)(t:Nat)(l:Int): ∀i,(c.notes t l i).t=c.t
 |0=>rfl
 |i+1=>rU c t l i
theorem pW(c:eX)(t:Nat)(l:Int): ∀i,(c.notes t l i).now=c.now
 |0=>rfl
 |i+1=>pW c t l i
theorem WM(c:eX)(t:Nat)(l:Int)(hc: ∀k,0<=c.o k): ∀i k,0<=(c.notes t l i).o k/\(c.notes t l i).o k<=c.o k+i
 |0,k=>⟨hc k,by show c.o k<=c.o k+((0:Nat):Int);omega⟩
 |i+1,k=>by
  have ih:=WM c t l hc i k;show 0<=(if k=t/\0<=l+i/\l+i<258 then(c.notes t l i).o k+1 else(c.notes t l i).o k)/\(if k=t/\0<=l+i/\l+i<258 then(c.notes t l i).o k+1 else(c.notes t l i).o k)<=_;split<;>omega
theorem yS{c:eX}(h:c.ok)(hc: ∀k,c.o k+8<1099511627776)(t:Nat)(l:Int){i:Nat}(hi:i<=8):(c.notes t l i).ok:=by
 have hd: ∀i,(c.notes t l i).dur=c.dur/\(c.notes t l i).jJ=c.jJ:=λi=>by
  induction i with
  |zero=>exact⟨rfl,rfl⟩
  |succ i ih=>exact ih
 refine⟨by rw[rU];exact h.1,by rw[rU];exact h.2.1,by rw[pW];exact h.2.2.1,by rw[(hd i).1];exact h.2.2.2.1,by rw[(hd i).2];exact h.2.2.2.2.1,λk=> ?_⟩;have h1:=WM c t l (λk=>(h.2.2.2.2.2 k).1) i k;have h2:=hc k;exact⟨h1.1,by omega⟩
theorem wB(b:ZBlk):b.dK<=8/\(b.dK:Int)=spn b.cls:=by
 have:=dM b.cls;unfold ZBlk.dK;omega
theorem ZLnk.ext5{a b:ZLnk}(h1:a.key=b.key)(h2:a.id=b.id)(h3:a.ver=b.ver)(h4:a.line=b.line)(h5:a.cls=b.cls):a=b:=by
 cases a;cases b;simp_all
theorem aaV(d:DevM)(k a n:Nat)(g:Nat->Int):d.store k a n (λq=>g (0+q))=d.store k a n g:=by
 simp only[aA]
theorem Dw{b:ZBlk}(h:b.may):1<=b.dK:=by
 have:=dM b.cls;have h0:=h.1;unfold ZBlk.dK;omega

theorem RS{c:Int}(h:0<=c/\c<=3):spn c≠0:=by
 rcases dM c with h'|h'|h'|h'|h'<;>omega
theorem aiy{c:Int}(h:0<=c/\c<=3):ZBlk.may ⟨c,0,0,0,0,⟨#[]⟩,⟨#[]⟩⟩:=⟨RS h,.inl ⟨rfl,rfl,rfl,rfl,rfl,rfl⟩⟩
theorem aaW{c:Int}(h:0<=c/\c<=3)(k:Nat):0<=(ZBlk.mk c 0 0 0 0 ⟨#[]⟩ ⟨#[]⟩).jS (λ_=>0) (cpc c).toNat k/\(ZBlk.mk c 0 0 0 0 ⟨#[]⟩ ⟨#[]⟩).jS (λ_=>0) (cpc c).toNat k<256:=by
 have hd:(ZBlk.mk c 0 0 0 0 ⟨#[]⟩ ⟨#[]⟩).dat=λ_=>0:=by
  funext i;unfold ZBlk.dat;rw[if_neg];exact Nat.not_lt_zero i
 by_cases hk:k<64
 ·have:=yR (aiy h) k
  unfold ZBlk.enc at this;rw[if_pos hk,hd]at this;exact this
 ·unfold ZBlk.jS
  rw[if_neg (by omega),if_neg (by omega)];exact⟨Int.le_refl 0,show(0:Int)<256 by decide⟩
theorem aiz{s:ByteArray}{a k:Nat}(hk:a+k<s.size):dZ (s.extract a s.size) k=dZ s (a+k):=by
 unfold dZ;rw[ByteArray.data_extract];have h1:a+k<s.data.size:=hk;simp only[List.getD_eq_getElem?_getD,Array.getElem?_toList,Array.getElem?_extract];rw[if_pos (by have:s.size=s.data.size:=rfl;omega)]
theorem aiA(x:ZBlk){m:Nat}(h:64<=m):0<=x.enc m/\x.enc m<256:=by
 unfold ZBlk.enc;rw[if_neg (by omega)];split
 ·decide
 ·exact KW _ _
theorem jD:dY Tryz.prog Fh:= .cons aix .nil
theorem aaX:dY Tryz.prog arI:= .append jD (.cons Le (.cons (bM amK) (.cons (bM QU) .nil)))
theorem aaY:dY Tryz.prog arJ:= .append jD (.cons (bM amy) .nil)


end Go.Proofs.YtenfleoejgjklaaGreat
end
section
namespace Go.Proofs.YtenfleoejgjklaaGreat.SE
open Go
theorem jw{P:Program}{T:WTr}{f:FuncId}(hT: ∀args h K,T args h K->Sp P f args h K){C:jg}(N:Nat)
  (hk: ∀x,(C.l x).length=C.k/\(flatP C.k (C.l x)).length=N/\(C.l x).all (PO.good C.k)=true/\gJ C.k (C.args x)=true)
  (hq: ∀x,C.pre x->T (C.args x) (hO N (flatP C.k (C.l x))) (λv h'=>endsPK C.k x v h' C.outs)):bY P f C.ctr:=λx hp=>by
 obtain⟨h1,h2,h3,h4⟩:=hk x;refine⟨by simp only[jg.ctr,List.length_map];exact h1,?_⟩;have hs:=hT _ _ _ (hq x hp);rw[<-h2,<-h1]at hs;refine⟨hs.1,λρ T w vs hR hl=> ?_⟩;have hR0:Rel (hOf ((C.l x).map PO.ab)) ρ T w:=by rw[hOf,List.length_map,h1];exact hR
 obtain⟨ρ',r1,r2,r3⟩:=Rel.agt (by rw[h1];exact h3) hR0;refine(hs.2 ρ' T w vs r3 (dR.mono r2 _ _ hl)).mono ?_
 rintro e w' ⟨ρ2,v,u,h',c1,c2,c3,c4,c5,c6,c7⟩
 obtain⟨v0,h0,g1,g2⟩:=zC c7;obtain⟨ρ3,q1,q2,q3⟩:=g1.2 ρ2 T w' u c3 c4;refine⟨ρ3,v0,u,h0,λj hj=> ?_,?_,q2,q3,c5,c6,g2⟩
 ·have hj':j<C.k:=hj
  have hle:C.k<=(flatP C.k (C.l x)).length:=by unfold flatP;rw[List.length_append,gB,h1];omega
  rw[q1 j (by rw[h1];exact hj'),c1 j (by show j<(flatP _ _).length;rw[h1];omega),r1 j (by rw[h1];exact hj')]
 ·have:=g1.1;rw[h1]at this;exact this
end Go.Proofs.YtenfleoejgjklaaGreat.SE
end
section
namespace Go.Proofs.YtenfleoejgjklaaGreat
open Go SE

namespace aiu
end aiu

structure ZPb where
 a:aiu
 f:ZFr
 t:Nat
 ln:Nat
namespace ZPb
end ZPb


theorem apl{P:Program}{f:FuncId}(b:Bool){T U:WTr}(hT: ∀args h K,T args h K->Sp P f args h K)(hU: ∀args h K,U args h K->Sp P f args h K): ∀args h K,(bif b then T else U) args h K->Sp P f args h K:=by
 cases b
 ·exact hU
 ·exact hT
def intL(l:List AV)(i:Nat):Int:=match l[i]? with
 |some (AV.lit (.int _ z))=>z
 |_=>0
def hasB(l:List AV):Bool:=match l[19]? with
 |some (AV.slW _ _ _ _)=>true
 |_=>false
structure ZCl where
 k:Int
 key:ByteArray
 value:ByteArray
 to:ByteArray
def ZCl.l(x:ZCl):List AV:=[i64 x.k,.lit (.string x.key),.lit (.string x.value),.lit (.string x.to),ig]
def ZCl.fr(x:ZCl):List AV:=x.l++[i64 0,u64 0,.lit (.string ⟨#[]⟩),boo false,i64 0,boo false,.lit (.string ⟨#[]⟩),u64 0,u64 0,i64 0,i64 0,i64 (-1),i64 0,i64 0,ig,i64 0,ig,i64 0,boo false,.lit (.string ⟨#[]⟩),ig,ig,u64 0]
noncomputable def Jj:Ctr:=det ZCl (λx=>[.agg x.l]) 0 (λ_=>[]) (λ_=>True) (λx=> .agg x.fr) 0 (λ_=>[])
def RU:WTr:=λargs h K=>match args with
 |[.agg [.lit (.int .i64 k),.lit (.string key),.lit (.string v),.lit (.string to),.lit (.slice none 0 0)]]=>K (.agg (ZCl.mk k key v to).fr) h
 |_=>False
def aiB(code:Int)(found:Bool)(v:ByteArray)(ep:Int):AV:= .agg [i64 code,boo found,.lit (.string v),ig,ig,u64 ep]
def byAt(h:Heap):Bool:=match cellAt h 3 19 with
 |some (.slW _ _ _ _)=>true
 |_=>false
structure ZRun where
 a:aiu
 t:Nat
 key:ByteArray
 v:ByteArray
 b:ZBlk
namespace ZRun
end ZRun
def arK(k:Int)(key v:ByteArray):AV:= .agg [i64 k,.lit (.string key),.lit (.string v),.lit (.string ⟨#[]⟩),ig]
def ady:Prop:=Value.slice none 0 0=Value.slice none 0 0
def am3:Prop:=ByteArray.mk #[]=ByteArray.mk #[]
def aul:Prop:=false=false/\am3/\ady/\ady/\(0:Int)=0/\True
def apm:Prop:=(0:Int)=0/\aul
def Lh(x:ZCl):Prop:=
 ∃y:Unit,True/\(x.k=x.k/\x.key=x.key/\x.value=x.value/\x.to=x.to/\ady/\(0:Int)=0/\(0:Int)=0/\am3/\false=false/\(0:Int)=0/\false=false/\am3/\(0:Int)=0/\(0:Int)=0/\(0:Int)=0/\(0:Int)=0/\(-(1:Int))=(-(1:Int))/\(0:Int)=0/\(0:Int)=0/\ady/\(0:Int)=0/\ady/\apm)/\True
theorem WO(x:ZCl):Lh x=wpF Tryz.prog [] tt (noA x) 200 6 17 (Jj.args x) (hO Jj.k (Jj.os x)) (λv h'=>eG Jj.k x v h' Jj.outs):=by kernel_rfl
def yT(f:Nat->Bool):Nat->Nat
 |0=>0
 |n+1=>yT f n+(bif f n then 1 else 0)
theorem aiC(f:Nat->Bool): ∀n,yT f n<=n
 |0=>aY _
 |n+1=>by
  have:=aiC f n;simp only[yT];cases f n<;>simp<;>omega
theorem aiD{f:Nat->Bool}{k:Nat}(hf:f k=false): ∀{n},k<n->yT f n<n
 |n+1,h=>by
  simp only[yT];by_cases e:k=n
  ·subst e;rw[hf];have:=aiC f k;simp;omega
  ·have:=aiD hf (n:=n) (by omega)
   cases f n<;>simp<;>omega
theorem pX{f g:Nat->Bool}: ∀{n},(∀k,k<n->f k=g k)->yT f n=yT g n
 |0,_=>rfl
 |n+1,h=>by simp only[yT];rw[pX λk hk=>h k (by omega),h n (by omega)]
theorem aaZ{f:Nat->Bool}{k:Nat}(hf:f k=false): ∀{n},k<n->yT (λq=>if q=k then true else f q) n=yT f n+1
 |n+1,h=>by
  simp only[yT];by_cases e:k=n
  ·subst e
   rw[pX (g:=f) λq hq=>if_neg (by omega),hf];simp
  ·rw[aaZ hf (n:=n) (by omega),if_neg (by omega)];omega
theorem RV{f:Nat->Bool}(h: ∀k,f k=false): ∀n,yT f n=0
 |0=>rfl
 |n+1=>by simp only[yT,h,RV h n];rfl
namespace ZPool
def at_(p:ZPool)(L:Int)(i j:Nat):Prop:=i<p.n/\0<=p.cls i/\j<many (p.cls i)/\p.tk i j=true/\L=2+i*8+j*spn (p.cls i)
def has(p:ZPool)(L:Int):Prop:= ∃i j,p.at_ L i j
def good(p:ZPool):Prop:=p.ok/\ ∀i,i<p.n->(p.cls i= -1-> ∀k,p.tk i k=false)/\(∀k,p.tk i k=true->k<many (p.cls i))/\p.cnt i=(yT (p.tk i) 8:Nat)
end ZPool
theorem pY{p:ZPool}(hp:p.good){c:Int}{i k:Nat}(h:p.takes c i k):i<p.n/\k<ZPool.many c/\p.tk i k=false/\(p.cls i=c\/p.cls i= -1):=by
 obtain⟨h1,h2,h3,h4⟩:=h;refine⟨h1,h2,?_,?_⟩
 ·rcases h4 with ⟨h4,_⟩|⟨h4,_⟩
  ·rw[if_pos h4]at h3;exact h3
  ·exact(hp.2 i h1).1 h4 k
 ·rcases h4 with ⟨h4,_⟩|⟨h4,_⟩
  ·exact .inl h4
  ·exact .inr h4
theorem arL(c:Int):ZPool.many c<=8:=by rcases gG c with h|h|h|h|h<;>omega
theorem aiE{p:ZPool}(hp:p.good){c:Int}(hc:0<=c/\c<=3){i k:Nat}(h:p.takes c i k):(p.take c i k).good:=by
 obtain⟨h1,h2,h3,h4⟩:=pY hp h;obtain⟨⟨o1,o2,o3⟩,hg⟩:=hp;have hm:=arL c;have hlt:yT (p.tk i) 8<8:=aiD h3 (by omega);refine⟨⟨o1,o2,λj hj=> ?_⟩,λj hj=> ?_⟩
 ·have hj':j<p.n:=hj
  have a1:=o3 j hj';have a2:=(hg j hj').2.2;by_cases e:j=i
  ·subst e
   refine⟨by show-1<=(if j=j then c else _);rw[if_pos rfl];omega,by show(if j=j then c else _)<=3;rw[if_pos rfl];omega,by show 0<=(if j=j then p.cnt j+1 else _);rw[if_pos rfl];omega,by show(if j=j then p.cnt j+1 else _)<=8;rw[if_pos rfl];omega⟩
  ·refine⟨by show-1<=(if j=i then c else p.cls j);rw[if_neg e];omega,by show(if j=i then c else p.cls j)<=3;rw[if_neg e];omega,by show 0<=(if j=i then p.cnt j+1 else p.cnt j);rw[if_neg e];omega,by show(if j=i then p.cnt j+1 else p.cnt j)<=8;rw[if_neg e];omega⟩
 ·have hj':j<p.n:=hj
  have a2:=hg j hj';by_cases e:j=i
  ·subst e
   refine⟨λhh=> ?_,λq hq=> ?_,?_⟩
   ·have:(if j=j then c else p.cls j)= -1:=hh
    rw[if_pos rfl]at this;omega
   ·have hq:(if j=j/\q=k then true else p.tk j q)=true:=hq
    show q<ZPool.many (if j=j then c else p.cls j);rw[if_pos rfl];by_cases eq:q=k
    ·omega
    ·rw[if_neg (λhh=>eq hh.2)]at hq
     have:=a2.2.1 q hq;rcases h4 with h4|h4
     ·rwa [h4]at this
     ·rw[a2.1 h4 q]at hq;cases hq
   ·show(if j=j then p.cnt j+1 else p.cnt j)=(yT (λq=>if j=j/\q=k then true else p.tk j q) 8:Nat)
    have e1:yT (λq=>if j=j/\q=k then true else p.tk j q) 8=yT (p.tk j) 8+1:=by
     rw[<-aaZ h3 (show k<8 by omega)];exact pX λq _=>by by_cases e:q=k<;>simp[e]
    rw[if_pos rfl,a2.2.2,e1];omega
  ·refine⟨λhh q=> ?_,λq hq=> ?_,?_⟩
   ·have hh:(if j=i then c else p.cls j)= -1:=hh
    rw[if_neg e]at hh;show(if j=i/\q=k then true else p.tk j q)=false;rw[if_neg (λh=>e h.1)];exact a2.1 hh q
   ·have hq:(if j=i/\q=k then true else p.tk j q)=true:=hq
    rw[if_neg (λh=>e h.1)]at hq;show q<ZPool.many (if j=i then c else p.cls j);rw[if_neg e];exact a2.2.1 q hq
   ·show(if j=i then p.cnt j+1 else p.cnt j)=(yT (λq=>if j=i/\q=k then true else p.tk j q) 8:Nat)
    rw[if_neg e,a2.2.2,pX (g:=p.tk j) (λq _=>if_neg (λh=>e h.1))]
theorem am4{p:ZPool}(hp:p.good){c:Int}(hc:0<=c/\c<=3){i k:Nat}(h:p.takes c i k){L:Int}{i' j':Nat}(hL:p.at_ L i' j'):L+spn (p.cls i')<=2+i*8+k*spn c\/2+i*8+k*spn c+spn c<=L:=by
 obtain⟨h1,h2,h3,h4⟩:=pY hp h;obtain⟨a1,a2,a3,a4,rfl⟩:=hL;have a5:=(hp.1.2.2 i' a1).2.1;by_cases e:i'=i
 ·subst e
  have hcc:p.cls i'=c:=by
   rcases h4 with h4|h4
   ·exact h4
   ·omega
  rw[hcc]at a3 ⊢;have hne:j'≠k:=λe=>by subst e;rw[h3]at a4;cases a4
  rcases gG c with m|m|m|m|m<;>obtain⟨m1,m2,m3⟩:=m<;>rw[m2]<;>omega
 ·rcases gG c with m|m|m|m|m<;>rcases gG (p.cls i')with m'|m'|m'|m'|m'<;>obtain⟨m1,m2,m3⟩:=m<;>obtain⟨m1',m2',m3'⟩:=m'<;>rw[m2,m2']<;>omega
theorem am5{p:ZPool}(hp:p.good){c:Int}(hc:0<=c/\c<=3){i k:Nat}(h:p.takes c i k): ¬p.has (2+i*8+k*spn c):=λ⟨i',j',hL⟩=>by
 have h1:=am4 hp hc h hL;have h2:=RS hc;have h3:=RS ⟨hL.2.1,(hp.1.2.2 i' hL.1).2.1⟩;have s1:=dM c;have s2:=dM (p.cls i');omega
theorem arM{p:ZPool}(hp:p.good){c:Int}{i k:Nat}(h:p.takes c i k){L:Int}{i' j':Nat}(hL:p.at_ L i' j'):(p.take c i k).at_ L i' j'/\(p.take c i k).cls i'=p.cls i':=by
 obtain⟨h1,h2,h3,h4⟩:=pY hp h;obtain⟨a1,a2,a3,a4,a5⟩:=hL;have hcl:(p.take c i k).cls i'=p.cls i':=by
  show(if i'=i then c else p.cls i')=_;split
  ·rename_i e
   subst e;rcases h4 with h4|h4
   ·exact h4.symm
   ·omega
  ·rfl
 refine⟨⟨a1,by rw[hcl];exact a2,by rw[hcl];exact a3,?_,by rw[hcl];exact a5⟩,hcl⟩;show(if i'=i/\j'=k then true else p.tk i' j')=true;split
 ·rfl
 ·exact a4
theorem at_new{p:ZPool}(hp:p.good){c:Int}(hc:0<=c){i k:Nat}(h:p.takes c i k):(p.take c i k).at_ (2+i*8+k*spn c) i k/\(p.take c i k).cls i=c:=by
 obtain⟨h1,h2,h3,h4⟩:=pY hp h;have hcl:(p.take c i k).cls i=c:=if_pos rfl;refine⟨⟨h1,by rw[hcl];exact hc,by rw[hcl];exact h2,if_pos ⟨rfl,rfl⟩,by rw[hcl]⟩,hcl⟩
theorem adz{p:ZPool}(hp:p.good){c:Int}(hc:0<=c/\c<=3){i j:Nat}(h:p.takes c i j):((2+i*8+j*(spn c).toNat:Nat):Int)=2+i*8+j*spn c/\2+i*8+j*(spn c).toNat+(spn c).toNat<=2+p.n*8:=by
 obtain⟨h1,h2,_,_⟩:=pY hp h;rcases gG c with m|m|m|m|m<;>obtain⟨m1,m2,m3⟩:=m<;>rw[m2]<;>simp only[show Int.toNat 1=1 from rfl,show Int.toNat 2=2 from rfl,show Int.toNat 4=4 from rfl,show Int.toNat 8=8 from rfl,show Int.toNat 0=0 from rfl]<;>omega
section
variable{x:ZRun}
theorem Lj(x:ZCl):Lh x:=by
 unfold Lh;simp only[ady,am3,apm,aul];simp only[aZ,aV,aU,aA,aI,bQ,bF,aO,aK,ay,aX,aW,bT,bG,bH,bI,bU,bC,bJ,bn,eH,aH,aN,ah,ak,aB,aF,aC,aG]
theorem aiF:bY Tryz.prog 17 Jj:=dL dD mixed .nil noA 200 6 (λ_=>rfl) (λ_=>rfl) λx _=>Eq.mp (WO x) (Lj x)
theorem Fj(args:List AV)(h:Heap)(K:AV->Heap->Prop)(hq:RU args h K):Sp Tryz.prog 17 args h K:=by
 unfold RU at hq;split at hq
 ·rename_i k key v to
  exact Ld aiF ⟨k,key,v,to⟩ trivial h rfl rfl hq
 ·exact hq.elim
end
section
variable{x:ZRun}
end

section
variable{a:aiu}{t N:Nat}{b:Nat->ZBlk}
theorem aiG{x y:ZBlk}(hk:x.key=y.key)(hv:x.value=y.value){m:Nat}(hm:64<=m):x.enc m=y.enc m:=by
 unfold ZBlk.enc;rw[if_neg (show¬m<64 by omega),if_neg (show¬m<64 by omega)];unfold ZBlk.dat
 rw[hk,hv]
theorem zS(d:DevM)(k:Nat)(g:Nat->Int)(m r:Nat)(hr:r<64):(d.store k 0 64 g).b (m*193+r)=if m=k then g r else d.b (m*193+r):=by
 show(if k*193+0<=m*193+r/\m*193+r<k*193+0+64 then g (m*193+r-(k*193+0))else d.b (m*193+r))=_;by_cases h:m=k
 ·subst h;rw[if_pos (by omega),if_pos rfl,show m*193+r-(m*193+0)=r by omega]
 ·rw[if_neg (by omega),if_neg h]
theorem am6{p p':ZPool}(h: ∀L i j,p.at_ L i j->p'.at_ L i j/\p'.cls i=p.cls i){L:Int}(hp:p.has L):p'.has L:=by
 obtain⟨i,j,h1⟩:=hp;exact⟨i,j,(h _ _ _ h1).1⟩
theorem arN{b:iF}{e:iq}{l:ZLn}{L:Int}(h:arC.inB ⟨b.put e,l,L⟩):arC.inB ⟨b,l,L⟩\/e.line=L\/e.anti=L:=by
 obtain⟨i,hi,hh⟩:=h;unfold iF.put at hi hh;by_cases hn:b.n<258
 ·simp only[if_pos hn]at hi hh
  by_cases e:i=b.n
  ·simp only[if_pos e]at hh;exact .inr hh
  ·simp only[if_neg e]at hh;exact .inl ⟨i,by show i<b.n;omega,hh⟩
 ·simp only[if_neg hn]at hi hh;exact .inl ⟨i,hi,hh⟩
theorem aum{b:iF}(h:b.ok)(e:iq):(b.put e).ok:=by
 unfold iF.put;split
 ·exact⟨by show b.n+1<=258;omega,λh=>nomatch h⟩
 ·exact h
theorem take_at{p:ZPool}(hp:p.good){c:Int}{i k:Nat}(h:p.takes c i k): ∀L i' j',p.at_ L i' j'->(p.take c i k).at_ L i' j'/\(p.take c i k).cls i'=p.cls i':=λ_ _ _ hL=>arM hp h hL
end
theorem arO{A B:Own}(h: ∀w a S,A.holds w a S↔B.holds w a S):A=B:=by
 obtain⟨f,p⟩:=A;obtain⟨g,q⟩:=B;have:f=g:=by funext w a S;exact propext (h w a S)
 subst this;rfl
def Ll:Option dA->Option dA->Prop
 |none,none=>True
 |some x,some y=>jG x=jG y/\ ∀ρ w T a S,dG ρ w T a S x↔dG ρ w T a S y
 |_,_=>False
theorem Ll.some{x:Option dA}{o:dA}(h:Ll x (some o)): ∃y,x= .some y/\jG y=jG o/\ ∀ρ w T a S,dG ρ w T a S y↔dG ρ w T a S o:=by
 cases x with
 |none=>exact h.elim
 |some y=>exact⟨y,rfl,h⟩
theorem apn{os os':List dA}(hl:os.length=os'.length)(hs: ∀i:Nat,Ll os[i]? os'[i]?){w:World}{a:SE.Loc}{S:Nat->Prop}(h:(al5 os).holds w a S):(al5 os').holds w a S:=by
 obtain⟨_,ρ,rfl,h0,hro,ha,T,h1,h2,h3,h4⟩:=h;have fw: ∀{i o'},(hOf os').get i=some o'-> ∃o,(hOf os).get i=some o/\jG o=jG o'/\ ∀ρ w T a S,dG ρ w T a S o↔dG ρ w T a S o':=λ{i o'} h=>by
  rw[fQ]at h;have q:=hs i;rw[h]at q;obtain⟨o,e,r⟩:=q.some;exact⟨o,by rw[fQ];exact e,r⟩
 refine⟨_,ρ,rfl,by rw[lY,<-hl];exact h0,λi o' h=> ?_,ha,T,λi o' h=> ?_,λi j o o' b e1 e2=> ?_,λi o' b h=> ?_,λi hi=>h4 i (by rw[lY]at hi ⊢;rw[hl];exact hi)⟩
 ·obtain⟨o,e,r,_⟩:=fw h
  rw[<-r];exact hro _ _ e
 ·obtain⟨o,e,_,r⟩:=fw h
  obtain⟨x,q1,q2⟩:=h1 i o e;exact⟨x,q1,(r _ _ _ _ _).1 q2⟩
 ·obtain⟨p,f1,_⟩:=fw e1
  obtain⟨q,f2,_⟩:=fw e2;exact h2 i j p q b f1 f2
 ·obtain⟨o,e,_⟩:=fw h
  exact h3 i o b e
theorem Ll.symm{x y:Option dA}(h:Ll x y):Ll y x:=by
 cases x<;>cases y
 ·trivial
 ·exact h.elim
 ·exact h.elim
 ·exact⟨h.1.symm,λρ w T a S=>(h.2 ρ w T a S).symm⟩
theorem Ll.rfl'{x:Option dA}:Ll x x:=by
 cases x
 ·trivial
 ·exact⟨rfl,λ_ _ _ _ _=>Iff.rfl⟩
theorem aiH{os os':List dA}(hl:os.length=os'.length)(hs: ∀i:Nat,Ll os[i]? os'[i]?):ownM os=ownM os':=by
 rw[oM,oM];exact arO λ_ _ _=>⟨apn hl hs,apn hl.symm λi=>(hs i).symm⟩
theorem adA{x:dA}{e:TypeId}{c c':Cs}(hz:c.size=c'.size)(hg: ∀k,c.get k=c'.get k):ownM [x,.cells e c]=ownM [x,.cells e c']:=by
 refine aiH rfl λi=> ?_
 match i with
 |0=>exact .rfl'
 |1=>
  refine⟨rfl,λρ w T a S=> ?_⟩;simp only[dG,fD,hz,hg]
 |n+2=>exact .rfl'
def arP(p:ZPool)(i:Nat):List Value:=[.int .i64 (p.cls i),.bool (p.tk i 0),.bool (p.tk i 1),.bool (p.tk i 2),.bool (p.tk i 3),.bool (p.tk i 4),.bool (p.tk i 5),.bool (p.tk i 6),.bool (p.tk i 7),.int .i64 (p.cnt i)]
noncomputable def ZPool.osW(p:ZPool):List dA:=[.cells 245 (.av [.slE 1 0 10 p.n p.n]),.cells 177 (.row 10 p.n (arP p) [])]
theorem am7(p:ZPool):ownM p.os=ownM p.osW:=by
 refine adA ?_ λk=> ?_
 ·simp[Cs.size]
 ·show(bif Nat.blt k (p.n*10*1)then(match (Cs.eff (gy p) [] (k/1))[k%1]? with|some v=>some (AV.lit v)|none=>some AV.any)else none)=(bif Nat.blt k (p.n*10)then(match (Cs.eff (arP p) [] (k/10))[k%10]? with|some v=>some (AV.lit v)|none=>some AV.any)else none)
  rw[Nat.mul_one,Nat.div_one,Nat.mod_one];congr 1;show(match (gy p k)[0]? with|some v=>some (AV.lit v)|none=>some .any)=(match (arP p (k/10))[k%10]? with|some v=>some (AV.lit v)|none=>some .any);rw[ku];have h:k%10=0\/k%10=1\/k%10=2\/k%10=3\/k%10=4\/k%10=5\/k%10=6\/k%10=7\/k%10=8\/k%10=9:=by omega
  rcases h with h|h|h|h|h|h|h|h|h|h<;>rw[h]<;>rfl
noncomputable def bkt(s:ByteArray):Nat:=hide (oN s%8).toNat
theorem apo(s:ByteArray):bkt s=(oN s%8).toNat:=iJ _
theorem qQ(s:ByteArray):bkt s<8:=by rw[apo];omega
noncomputable def Fp:Ctr:=det ByteArray (λs=>[.lit (.string s)]) 0 (λ_=>[]) (λs=>Hd (s.size<1099511627776)) (λs=>i64 (bkt s)) 0 (λ_=>[])
def am8(c m:Int):Bool:=IntKind.u32.wrap ((BitVec.ofInt 32 (Int.fdiv c m)&&&BitVec.ofInt 32 1).toNat:Nat)==0
def arQ(c:Int):Nat:=if am8 c 2147483648=true then 1 else if am8 c 1073741824=true then 2 else if am8 c 536870912=true then 3 else 4
noncomputable def lvl(s:ByteArray):Nat:=hide (arQ (oN s))
theorem RX(s:ByteArray):lvl s=arQ (oN s):=iJ _
theorem apq(s:ByteArray):1<=lvl s/\lvl s<=4:=by
 rw[RX];unfold arQ
 repeat' (split)
 all_goals omega
noncomputable def aa0:Ctr:={X:=ByteArray,args:=λs=>[.lit (.string s)],k:=0,os:=λ_=>[],pre:=λs=>Hd (s.size<1099511627776),outs:=[
 {Y:=Unit,post:=λs _=>Hd (lvl s=1),ret:=λ_ _=>i64 1,m:=0,os:=λ_ _=>[]},
 {Y:=Unit,post:=λs _=>Hd (lvl s=2),ret:=λ_ _=>i64 2,m:=0,os:=λ_ _=>[]},
 {Y:=Unit,post:=λs _=>Hd (lvl s=3),ret:=λ_ _=>i64 3,m:=0,os:=λ_ _=>[]},
 {Y:=Unit,post:=λs _=>Hd (lvl s=4),ret:=λ_ _=>i64 4,m:=0,os:=λ_ _=>[]}]}
noncomputable def arR:jv:=[(232,ctrT U7)]
def kl(a b:ByteArray):Bool:=Op.bytesLess a.toList b.toList
theorem aa1: ∀a:List UInt8,Op.bytesLess a a=false
 |[]=>by simp[Op.bytesLess]
 |x::a=>by simp[Op.bytesLess,aa1 a]
theorem Lm: ∀{a b c:List UInt8},Op.bytesLess a b=true->Op.bytesLess b c=true->Op.bytesLess a c=true
 |_,[],_,h,_=>by simp[Op.bytesLess]at h
 |_,_::_,[],_,h=>by simp[Op.bytesLess]at h
 |[],_::_,_::_,_,_=>by simp[Op.bytesLess]
 |x::a,y::b,z::c,h,k=>by
  simp only[Op.bytesLess,Bool.or_eq_true,decide_eq_true_eq,aJ,beq_iff_eq]at h k ⊢;rcases h with h|⟨rfl,h⟩
  ·rcases k with k|⟨rfl,k⟩
   ·exact .inl (UInt8.lt_trans h k)
   ·exact .inl h
  ·rcases k with k|⟨rfl,k⟩
   ·exact .inl k
   ·exact .inr ⟨rfl,Lm h k⟩
theorem aiI: ∀(a b:List UInt8),Op.bytesLess a b=false->Op.bytesLess b a=false->a=b
 |[],[],_,_=>rfl
 |[],_::_,h,_=>by simp[Op.bytesLess]at h
 |_::_,[],_,h=>by simp[Op.bytesLess]at h
 |x::a,y::b,h,k=>by
  simp only[Op.bytesLess,Bool.or_eq_false_iff,decide_eq_false_iff_not,Bool.and_eq_false_iff,beq_eq_false_iff_ne]at h k;have hxy:x=y:=by
   have h1:=UInt8.not_lt.1 h.1;have h2:=UInt8.not_lt.1 k.1;exact UInt8.le_antisymm h2 h1
  subst hxy;rw[aiI a b (h.2.resolve_left (λhh=>hh rfl)) (k.2.resolve_left (λhh=>hh rfl))]
theorem oD(a:ByteArray):kl a a=false:=aa1 _
theorem jE{a b c:ByteArray}(h:kl a b=true)(k:kl b c=true):kl a c=true:=Lm h k
theorem iG(a:ByteArray):a.toList=a.data.toList:=ByteArray.toList_eq a
theorem aa2{a b:ByteArray}(h:kl a b=false)(k:kl b a=false):a=b:=by
 have:=aiI _ _ h k;rw[iG,iG]at this;exact ByteArray.ext (Array.toList_inj.1 this)
abbrev Lks:=List ZLnk
def srt(L:Lks):Prop:=L.Pairwise λa b=>kl a.key b.key=true
def gI(L:Lks)(s:ByteArray):Option ZLnk:=L.find? λl=>decide (l.key=s)
def jy:Lks->ZLnk->Lks
 |[],l=>[l]
 |x::L,l=>if x.key=l.key then l::L else if kl l.key x.key=true then l::x::L else x::jy L l
def fU(L:Lks)(s:ByteArray):Lks:=L.filter λl=> !decide (l.key=s)
noncomputable def nextL(L:Lks)(b:Nat)(pos:ByteArray)(past:Bool):Option ZLnk:=L.find? λl=>decide (bkt l.key=b)&&(!past||kl pos l.key)
def lrow(L:Lks):Cs:= .row 5 L.length (λi=>(L.getD i iT).cs) []
def ZLnk.ent(l:ZLnk)(b:Nat):abM:=⟨l.key,l.cs,b⟩
structure ZMs where
 n:Nat
 lk:Nat->ZLnk
 born:Nat->Nat
 clk:Nat
def ZMs.ms(m:ZMs):MS:=⟨m.n,λj=>(m.lk j).ent (m.born j),m.clk⟩
def ZMs.put(m:ZMs)(j:Nat)(l:ZLnk):ZMs:=⟨m.n,λq=>if q=j then l else m.lk q,m.born,m.clk⟩
def ZMs.add(m:ZMs)(l:ZLnk):ZMs:=⟨m.n+1,λq=>if q=m.n then l else m.lk q,λq=>if q=m.n then m.clk else m.born q,m.clk+1⟩
def ZMs.del(m:ZMs)(j:Nat):ZMs:=⟨m.n-1,λq=>if q<j then m.lk q else m.lk (q+1),λq=>if q<j then m.born q else m.born (q+1),m.clk⟩
theorem aun(m:ZMs)(j:Nat)(l:ZLnk):m.ms.put j l.key l.cs=(m.put j l).ms:=by
 simp only[MS.put,ZMs.ms,ZMs.put,MS.mk.injEq,aU,aV];funext q;rw[dB];by_cases h:q=j
 ·subst h;simp[ZLnk.ent]
 ·simp[h]
theorem auo(m:ZMs)(l:ZLnk):m.ms.add l.key l.cs=(m.add l).ms:=by
 simp only[MS.add,ZMs.ms,ZMs.add,MS.mk.injEq,aU,aV];funext q;rw[dB];by_cases h:q=m.n
 ·subst h;simp[ZLnk.ent]
 ·simp[h]
theorem aup(m:ZMs)(j:Nat):m.ms.del j=(m.del j).ms:=by
 simp only[MS.del,ZMs.ms,ZMs.del,MS.mk.injEq,aU,aV];funext q;rw[bV];by_cases h:q<j
 ·simp[h]
 ·simp[h]
abbrev iZ:=Nat->ZMs
noncomputable def RY(t:iZ):List dA:=[.cells 172 (.av [.mp 1,.mp 2,.mp 3,.mp 4,.mp 5,.mp 6,.mp 7,.mp 8]),.nT (t 0).ms,.nT (t 1).ms,.nT (t 2).ms,.nT (t 3).ms,.nT (t 4).ms,.nT (t 5).ms,.nT (t 6).ms,.nT (t 7).ms]
structure lV (L:Lks) (t:iZ):Prop where
 srt:srt L
 size:L.length<=258
 key: ∀l∈L,l.key.size<1099511627776
 mem: ∀b,b<8-> ∀j,j<(t b).n->(t b).lk j∈L/\bkt ((t b).lk j).key=b
 all: ∀l∈L,∃j,j<(t (bkt l.key)).n/\(t (bkt l.key)).lk j=l
 inj: ∀b,b<8-> ∀i j,i<(t b).n->j<(t b).n->((t b).lk i).key=((t b).lk j).key->i=j
 born: ∀b,b<8-> ∀j,j<(t b).n->(t b).born j<(t b).clk
 bi: ∀b,b<8-> ∀i j,i<(t b).n->j<(t b).n->(t b).born i=(t b).born j->i=j
noncomputable def tabA(L:Lks):Own:=hide (Pv λh=> ∃t:iZ,lV L t/\h=hOf (RY t))
theorem aiJ(L:Lks):tabA L=Pv λh=> ∃t:iZ,lV L t/\h=hOf (RY t):=iJ _
theorem am9{a b:ByteArray}(h:kl a b=true):a≠b:=λe=>by subst e;rw[oD]at h;cases h
theorem WQ{a b:ByteArray}(h:kl a b=true):kl b a=false:=by
 cases hb:kl b a with
 |false=>rfl
 |true=>have:=jE h hb;rw[oD]at this;cases this
theorem Lp: ∀{L:Lks},srt L-> ∀{l l':ZLnk},l∈L->l'∈L->l.key=l'.key->l=l'
 |[],_,_,_,h,_,_=>by cases h
 |x::L,hs,l,l',h,h',e=>by
  obtain⟨h1,h2⟩:=List.pairwise_cons.1 hs;rcases List.mem_cons.1 h with g|g<;>rcases List.mem_cons.1 h' with g'|g'
  ·rw[g,g']
  ·subst g;exact(am9 (h1 _ g') e).elim
  ·subst g';exact(am9 (h1 _ g) e.symm).elim
  ·exact Lp h2 g g' e
theorem oG{L:Lks}{s:ByteArray}{l:ZLnk}(h:gI L s=some l):l∈L/\l.key=s:=
 ⟨List.mem_of_find?_eq_some h,by have:=List.find?_some h;exact aS this⟩
theorem yU{L:Lks}(hs:srt L){l:ZLnk}{s:ByteArray}(h:l∈L)(e:l.key=s):gI L s=some l:=by
 cases hf:gI L s with
 |none=>
  have:=List.find?_eq_none.1 hf l h;exact(this (decide_eq_true e)).elim
 |some l'=>
  obtain⟨h1,h2⟩:=oG hf;rw[Lp hs h h1 (e.trans h2.symm)]
theorem yV{L:Lks}{s:ByteArray}(h: ∀l∈L,l.key≠s):gI L s=none:=
 List.find?_eq_none.2 λl hl=>by rw[decide_eq_true_eq];exact h l hl
theorem uV{L:Lks}{s:ByteArray}(h:gI L s=none): ∀l∈L,l.key≠s:=λl hl e=>List.find?_eq_none.1 h l hl (decide_eq_true e)
theorem gU: ∀{L:Lks} {l x:ZLnk},srt L->(x∈jy L l↔x=l\/(x∈L/\x.key≠l.key))
 |[],l,x,_=>by simp[jy]
 |y::L,l,x,hs=>by
  obtain⟨h1,h2⟩:=List.pairwise_cons.1 hs;unfold jy;by_cases e:y.key=l.key
  ·rw[if_pos e]
   simp only[List.mem_cons];constructor
   ·rintro (h|h)
    ·exact .inl h
    ·exact .inr ⟨.inr h,λe2=>am9 (h1 x h) (e.trans e2.symm)⟩
   ·rintro (h|⟨h|h,h3⟩)
    ·exact .inl h
    ·exact(h3 (by rw[h];exact e)).elim
    ·exact .inr h
  ·rw[if_neg e]
   by_cases k:kl l.key y.key=true
   ·rw[if_pos k]
    simp only[List.mem_cons];constructor
    ·rintro (h|h|h)
     ·exact .inl h
     ·exact .inr ⟨.inl h,by rw[h];exact e⟩
     ·exact .inr ⟨.inr h,λe2=>by
       have:=jE k (h1 x h)
       exact am9 this e2.symm⟩
    ·rintro (h|⟨h,_⟩)
     ·exact .inl h
     ·exact .inr h
   ·rw[if_neg k]
    simp only[List.mem_cons,gU h2];constructor
    ·rintro (h|h|⟨h,h3⟩)
     ·exact .inr ⟨.inl h,by rw[h];exact e⟩
     ·exact .inl h
     ·exact .inr ⟨.inr h,h3⟩
    ·rintro (h|⟨h|h,h3⟩)
     ·exact .inr (.inl h)
     ·exact .inl h
     ·exact .inr (.inr ⟨h,h3⟩)
theorem uX: ∀{L:Lks} {l:ZLnk},srt L->srt (jy L l)
 |[],l,_=>by simp[jy,srt]
 |y::L,l,hs=>by
  obtain⟨h1,h2⟩:=List.pairwise_cons.1 hs;unfold jy;by_cases e:y.key=l.key
  ·rw[if_pos e]
   exact List.pairwise_cons.2 ⟨λx hx=>by rw[<-e];exact h1 x hx,h2⟩
  ·rw[if_neg e]
   by_cases k:kl l.key y.key=true
   ·rw[if_pos k]
    exact List.pairwise_cons.2 ⟨λx hx=>by
     rcases List.mem_cons.1 hx with rfl|hx
     ·exact k
     ·exact jE k (h1 x hx),hs⟩
   ·rw[if_neg k]
    refine List.pairwise_cons.2 ⟨λx hx=> ?_,uX h2⟩;rcases (gU h2).1 hx with rfl|⟨hx,_⟩
    ·cases hy:kl y.key x.key with
     |true=>rfl
     |false=>exact(e (aa2 hy (by simpa using k))).elim
    ·exact h1 x hx
theorem aa3: ∀{L:Lks} {l:ZLnk},(jy L l).length<=L.length+1
 |[],l=>by simp[jy]
 |y::L,l=>by
  unfold jy;by_cases e:y.key=l.key
  ·rw[if_pos e];simp
  ·rw[if_neg e]
   by_cases k:kl l.key y.key=true
   ·rw[if_pos k];simp
   ·rw[if_neg k];have:=aa3 (L:=L) (l:=l);simp;omega
theorem Fq{L:Lks}{s:ByteArray}{x:ZLnk}:x∈fU L s↔x∈L/\x.key≠s:=by
 unfold fU;rw[List.mem_filter];simp
theorem RZ{L:Lks}{s:ByteArray}(h:srt L):srt (fU L s):=List.Pairwise.filter _ h
theorem ana{L:Lks}{l:ZLnk}{s:ByteArray}(h:srt L):gI (jy L l) s=if s=l.key then some l else gI L s:=by
 have hs:=uX (l:=l) h;by_cases e:s=l.key
 ·rw[if_pos e];exact yU hs ((gU h).2 (.inl rfl)) e.symm
 ·rw[if_neg e]
  cases hf:gI L s with
  |some x=>
   obtain⟨h1,h2⟩:=oG hf;exact yU hs ((gU h).2 (.inr ⟨h1,λe2=>e (h2.symm.trans e2)⟩)) h2
  |none=>
   refine yV λx hx=> ?_
   rcases (gU h).1 hx with rfl|⟨hx,_⟩
   ·exactλe2=>e e2.symm
   ·exact uV hf x hx
def wV(t:iZ)(b:Nat)(m:ZMs):iZ:=λq=>if q=b then m else t q
theorem lV.found{L:Lks}{t:iZ}(h:lV L t){s:ByteArray}{b j:Nat}(hb:bkt s=b)(hj:j<(t b).n)(hk:((t b).lk j).key=s):gI L s=some ((t b).lk j):=by
 have:=qQ s;exact yU h.srt (h.mem b (by omega) j hj).1 hk
theorem lV.none{L:Lks}{t:iZ}(h:lV L t){s:ByteArray}{b:Nat}(hb:bkt s=b)(hn: ∀j,j<(t b).n->((t b).lk j).key≠s):gI L s=none:=by
 refine yV λl hl e=> ?_
 obtain⟨j,h1,h2⟩:=h.all l hl;rw[e,hb]at h1 h2;exact hn j h1 (by rw[h2];exact e)
theorem lV.put{L:Lks}{t:iZ}(h:lV L t){l:ZLnk}{b j:Nat}(hb:bkt l.key=b)(hj:j<(t b).n)(hk:((t b).lk j).key=l.key)(hl:(jy L l).length<=258)(hs:l.key.size<1099511627776):lV (jy L l) (wV t b ((t b).put j l)):=by
 have hb8:b<8:=by have:=qQ l.key;omega
 refine⟨uX h.srt,hl,λx hx=> ?_,λc hc q hq=> ?_,λx hx=> ?_,λc hc p q hp hq e=> ?_,λc hc q hq=> ?_,λc hc p q hp hq e=> ?_⟩
 ·rcases (gU h.srt).1 hx with rfl|⟨hx,_⟩
  ·exact hs
  ·exact h.key x hx
 ·unfold wV at hq ⊢
  by_cases hcb:c=b
  ·subst hcb
   rw[if_pos rfl]at hq ⊢;show(if q=j then l else(t c).lk q)∈_/\bkt (if q=j then l else(t c).lk q).key=c;by_cases hqj:q=j
   ·rw[if_pos hqj];exact⟨(gU h.srt).2 (.inl rfl),hb⟩
   ·rw[if_neg hqj]
    have hm:=h.mem c hc q hq;exact⟨(gU h.srt).2 (.inr ⟨hm.1,λe=>hqj (h.inj c hc q j hq hj (e.trans hk.symm))⟩),hm.2⟩
  ·rw[if_neg hcb]at hq ⊢
   have hm:=h.mem c hc q hq;exact⟨(gU h.srt).2 (.inr ⟨hm.1,λe=>hcb (by rw[<-hm.2,e];exact hb)⟩),hm.2⟩
 ·unfold wV
  rcases (gU h.srt).1 hx with rfl|⟨hx,hne⟩
  ·rw[hb,if_pos rfl];exact⟨j,hj,if_pos rfl⟩
  ·obtain⟨q,h1,h2⟩:=h.all x hx
   by_cases hcb:bkt x.key=b
   ·rw[hcb]at h1 h2 ⊢
    rw[if_pos rfl];have hqj:q≠j:=λe=>hne (by rw[<-h2,e];exact hk)
    exact⟨q,h1,(if_neg hqj).trans h2⟩
   ·rw[if_neg hcb];exact⟨q,h1,h2⟩
 ·unfold wV at hp hq e
  by_cases hcb:c=b
  ·subst hcb
   rw[if_pos rfl]at hp hq e;have hkey: ∀q,((if q=j then l else(t c).lk q:ZLnk)).key=((t c).lk q).key:=λq=>by
    by_cases hqj:q=j
    ·rw[if_pos hqj,hqj];exact hk.symm
    ·rw[if_neg hqj]
   refine h.inj c hc p q hp hq ?_;rw[<-hkey,<-hkey];exact e
  ·rw[if_neg hcb]at hp hq e;exact h.inj c hc p q hp hq e
 ·unfold wV at hq ⊢
  by_cases hcb:c=b
  ·subst hcb;rw[if_pos rfl]at hq ⊢;exact h.born c hc q hq
  ·rw[if_neg hcb]at hq ⊢;exact h.born c hc q hq
 ·unfold wV at hp hq e
  by_cases hcb:c=b
  ·subst hcb;rw[if_pos rfl]at hp hq e;exact h.bi c hc p q hp hq e
  ·rw[if_neg hcb]at hp hq e;exact h.bi c hc p q hp hq e
theorem lV.add{L:Lks}{t:iZ}(h:lV L t){l:ZLnk}{b:Nat}(hb:bkt l.key=b)(hn: ∀j,j<(t b).n->((t b).lk j).key≠l.key)(hl:(jy L l).length<=258)(hs:l.key.size<1099511627776):lV (jy L l) (wV t b ((t b).add l)):=by
 have hb8:b<8:=by have:=qQ l.key;omega
 have hno:=uV (h.none hb hn);have low: ∀{c q},q<(wV t b ((t b).add l) c).n->(c=b/\q=(t b).n/\(wV t b ((t b).add l) c).lk q=l/\(wV t b ((t b).add l) c).born q=(t b).clk)\/(q<(t c).n/\(wV t b ((t b).add l) c).lk q=(t c).lk q/\(wV t b ((t b).add l) c).born q=(t c).born q):=λ{c q} hq=>by
  unfold wV at hq ⊢;by_cases hcb:c=b
  ·subst hcb
   rw[if_pos rfl]at hq ⊢;have hq:q<(t c).n+1:=hq;by_cases hqn:q=(t c).n
   ·exact .inl ⟨rfl,hqn,if_pos hqn,if_pos hqn⟩
   ·exact .inr ⟨by omega,if_neg hqn,if_neg hqn⟩
  ·rw[if_neg hcb]at hq ⊢;exact .inr ⟨hq,rfl,rfl⟩
 have clk: ∀c,(t c).clk<=(wV t b ((t b).add l) c).clk:=λc=>by
  unfold wV;by_cases hcb:c=b
  ·subst hcb;rw[if_pos rfl];show _<=(t c).clk+1;omega
  ·rw[if_neg hcb];exact aY _
 refine⟨uX h.srt,hl,λx hx=> ?_,λc hc q hq=> ?_,λx hx=> ?_,λc hc p q hp hq e=> ?_,λc hc q hq=> ?_,λc hc p q hp hq e=> ?_⟩
 ·rcases (gU h.srt).1 hx with rfl|⟨hx,_⟩
  ·exact hs
  ·exact h.key x hx
 ·rcases low hq with ⟨rfl,_,e,_⟩|⟨hq,e,_⟩
  ·rw[e];exact⟨(gU h.srt).2 (.inl rfl),hb⟩
  ·rw[e]
   have hm:=h.mem c hc q hq;exact⟨(gU h.srt).2 (.inr ⟨hm.1,hno _ hm.1⟩),hm.2⟩
 ·unfold wV
  rcases (gU h.srt).1 hx with rfl|⟨hx,hne⟩
  ·rw[hb,if_pos rfl];exact⟨(t b).n,Nat.lt_succ_self _,if_pos rfl⟩
  ·obtain⟨q,h1,h2⟩:=h.all x hx
   by_cases hcb:bkt x.key=b
   ·rw[hcb]at h1 h2 ⊢
    rw[if_pos rfl];exact⟨q,Nat.lt_succ_of_lt h1,(if_neg (Nat.ne_of_lt h1)).trans h2⟩
   ·rw[if_neg hcb];exact⟨q,h1,h2⟩
 ·rcases low hp with ⟨rfl,e1,e2,_⟩|⟨hp,e2,_⟩<;>rcases low hq with ⟨e0,f1,f2,_⟩|⟨hq,f2,_⟩
  ·omega
  ·rw[e2,f2]at e;exact(hno _ (h.mem c hc q hq).1 e.symm).elim
  ·rw[e2,f2]at e;exact(hno _ (h.mem c hc p hp).1 e).elim
  ·rw[e2,f2]at e;exact h.inj c hc p q hp hq e
 ·rcases low hq with ⟨rfl,_,_,e⟩|⟨hq,_,e⟩
  ·rw[e];unfold wV;rw[if_pos rfl];exact Nat.lt_succ_self _
  ·rw[e];exact Nat.lt_of_lt_of_le (h.born c hc q hq) (clk c)
 ·rcases low hp with ⟨e1,g1,_,e2⟩|⟨gp,_,e2⟩<;>rcases low hq with ⟨f1,g2,_,f2⟩|⟨gq,_,f2⟩
  ·omega
  ·rw[e2,f2]at e;have:=h.born c hc q gq;subst e1;omega
  ·rw[e2,f2]at e;have:=h.born c hc p gp;subst f1;omega
  ·rw[e2,f2]at e;exact h.bi c hc p q gp gq e
theorem lV.del{L:Lks}{t:iZ}(h:lV L t){s:ByteArray}{b j:Nat}(hb:bkt s=b)(hj:j<(t b).n)(hk:((t b).lk j).key=s):lV (fU L s) (wV t b ((t b).del j)):=by
 have hb8:b<8:=by have:=qQ s;omega
 have low: ∀{c q},q<(wV t b ((t b).del j) c).n-> ∃p,p<(t c).n/\(c=b->p≠j)/\(wV t b ((t b).del j) c).lk q=(t c).lk p/\(wV t b ((t b).del j) c).born q=(t c).born p/\(((c=b->q<j)/\p=q)\/(c=b/\p=q+1/\j<=q)):=λ{c q} hq=>by
  unfold wV at hq ⊢;by_cases hcb:c=b
  ·subst hcb
   rw[if_pos rfl]at hq ⊢;have hq:q<(t c).n-1:=hq;by_cases hqj:q<j
   ·exact⟨q,by omega,λ_=>by omega,if_pos hqj,if_pos hqj,.inl ⟨λ_=>hqj,rfl⟩⟩
   ·exact⟨q+1,by omega,λ_=>by omega,if_neg hqj,if_neg hqj,.inr ⟨rfl,rfl,by omega⟩⟩
  ·rw[if_neg hcb]at hq ⊢;exact⟨q,hq,λe=>absurd e hcb,rfl,rfl,.inl ⟨λe=>absurd e hcb,rfl⟩⟩
 refine⟨RZ h.srt,Nat.le_trans (List.length_filter_le _ _) h.size,λx hx=>h.key x (Fq.1 hx).1,λc hc q hq=> ?_,λx hx=> ?_,λc hc p q hp hq e=> ?_,λc hc q hq=> ?_,λc hc p q hp hq e=> ?_⟩
 ·obtain⟨p,h1,h2,h3,_⟩:=low hq
  have hm:=h.mem c hc p h1;rw[h3]
  exact⟨Fq.2 ⟨hm.1,λe=>by
   have hcb:c=b:=by rw[<-hm.2,e];exact hb
   subst hcb
   exact h2 rfl (h.inj c hc p j h1 hj (e.trans hk.symm))⟩,hm.2⟩
 ·obtain⟨hx,hne⟩:=Fq.1 hx
  obtain⟨q,h1,h2⟩:=h.all x hx;unfold wV;by_cases hcb:bkt x.key=b
  ·rw[hcb]at h1 h2 ⊢
   rw[if_pos rfl];have hqj:q≠j:=λe=>hne (by rw[<-h2,e];exact hk)
   by_cases hlt:q<j
   ·exact⟨q,by show q<(t b).n-1;omega,(if_pos hlt).trans h2⟩
   ·exact⟨q-1,by show q-1<(t b).n-1;omega,(if_neg (by omega)).trans (by rw[show q-1+1=q by omega];exact h2)⟩
  ·rw[if_neg hcb];exact⟨q,h1,h2⟩
 ·obtain⟨p',a1,a2,a3,_,a5⟩:=low hp
  obtain⟨q',b1,b2,b3,_,b5⟩:=low hq;rw[a3,b3]at e;have:=h.inj c hc p' q' a1 b1 e;rcases a5 with ⟨a5,a6⟩|⟨a5,a7,a8⟩<;>rcases b5 with ⟨b5,b6⟩|⟨b5,b7,b8⟩
  ·omega
  ·have:=a5 b5;omega
  ·have:=b5 a5;omega
  ·omega
 ·obtain⟨p,h1,h2,_,h4,_⟩:=low hq
  rw[h4];have:=h.born c hc p h1;unfold wV;by_cases hcb:c=b
  ·subst hcb;rw[if_pos rfl];exact this
  ·rw[if_neg hcb];exact this
 ·obtain⟨p',a1,a2,_,a3,a5⟩:=low hp
  obtain⟨q',b1,b2,_,b3,b5⟩:=low hq;rw[a3,b3]at e;have:=h.bi c hc p' q' a1 b1 e;rcases a5 with ⟨a5,a6⟩|⟨a5,a7,a8⟩<;>rcases b5 with ⟨b5,b6⟩|⟨b5,b7,b8⟩
  ·omega
  ·have:=a5 b5;omega
  ·have:=b5 a5;omega
  ·omega
theorem adB:rH Tryz.prog 227 Extern.BytealgCompare.compare:=⟨Tryz.f227,by kernel_rfl,by kernel_rfl,by kernel_rfl,by kernel_rfl,by kernel_rfl⟩
def auq:jv:=[(227,cmpX)]
theorem anb:dY Tryz.prog auq:= .He (aqD adB) .nil
def uY(L:Lks)(s:ByteArray):Nat:=L.findIdx λl=> !kl l.key s
structure ZTq where
 L:Lks
 s:ByteArray
def ZTq.at_(x:ZTq)(k:Nat):ZLnk:=x.L.getD k iT
structure ZIj where
 i:Nat
 j:Nat
noncomputable def aur:Ctr:=det ZTq (λx=>[.slR 0 0 5 x.L.length,.lit (.string x.s)]) 1 (λx=>[.ro (lrow x.L)]) (λx=>Hd (srt x.L/\x.L.length<1099511627776)) (λx=> .tup [i64 (uY x.L x.s),boo (gI x.L x.s).isSome]) 1 (λx=>[.ro (lrow x.L)])
noncomputable def apr(x:ZTq):FuncId->qR:=λf=>bif Nat.beq f 298 then(λb _ _=>bif Nat.beq b 0 then [
 {σ:=ZIj,fr:=λs=>[(9,i64 s.i),(10,i64 s.j)],ob:=λ_=>[],inv:=λs=>Hd (s.i<=s.j/\s.j<=x.L.length/\(∀q,q<s.i->kl (x.at_ q).key x.s=true)/\ ∀q,s.j<=q->q<x.L.length->kl (x.at_ q).key x.s=false),meas:=λs=>s.j-s.i}]else [])elseλ_ _ _=>[]
theorem arS{L:Lks}{s:ByteArray}{i:Nat}(hi:i<=L.length)(h1: ∀q,q<i->kl (L.getD q iT).key s=true)(h2:i<L.length->kl (L.getD i iT).key s=false):uY L s=i:=by
 unfold uY;rcases Nat.lt_or_ge i L.length with h|h
 ·rw[List.findIdx_eq h]
  have g: ∀q (hq:q<L.length),L.getD q iT=L[q]:=λq hq=>by rw[List.getD_eq_getElem?_getD,List.getElem?_eq_getElem hq];rfl
  refine⟨?_,λq hq=> ?_⟩
  ·have:=h2 h;rw[g i h]at this;rw[this];rfl
  ·have:=h1 q hq;rw[g q (by omega)]at this;rw[this];rfl
 ·have hl:i=L.length:=by omega
  subst hl;rw[List.findIdx_eq_length];intro l hl;obtain⟨q,hq,rfl⟩:=List.getElem_of_mem hl;have:=h1 q hq;rw[List.getD_eq_getElem?_getD,List.getElem?_eq_getElem hq]at this;simp only[Option.getD_some]at this;rw[this];rfl
theorem aiK{L:Lks}(h:srt L){i j:Nat}(hij:i<j)(hj:j<L.length):kl (L.getD i iT).key (L.getD j iT).key=true:=by
 have:=List.pairwise_iff_getElem.1 h i j (by omega) hj hij;simp only[List.getD_eq_getElem?_getD,List.getElem?_eq_getElem hj,List.getElem?_eq_getElem (show i<L.length by omega),Option.getD_some];exact this
theorem aiL{L:Lks}{i:Nat}(h:i<L.length):L.getD i iT∈L:=by
 rw[List.getD_eq_getElem?_getD,List.getElem?_eq_getElem h];exact List.getElem_mem h
theorem aus{L:Lks}(hs:srt L){s:ByteArray}{i:Nat}(hi:i<=L.length)(h1: ∀q,q<i->kl (L.getD q iT).key s=true)(h2: ∀q,i<=q->q<L.length->kl (L.getD q iT).key s=false):(gI L s).isSome=(decide (i<L.length)&&decide ((L.getD i iT).key=s)):=by
 cases hf:gI L s with
 |some l=>
  obtain⟨g1,g2⟩:=oG hf;obtain⟨q,hq,rfl⟩:=List.getElem_of_mem g1;have e:L.getD q iT=L[q]:=by rw[List.getD_eq_getElem?_getD,List.getElem?_eq_getElem hq];rfl
  have hiq:i=q:=by
   rcases Nat.lt_trichotomy i q with h|h|h
   ·have:=aiK hs h hq
    rw[e,g2]at this;rw[h2 i (aY _) (by omega)]at this;cases this
   ·exact h
   ·have:=h1 q h
    rw[e,g2,oD]at this;cases this
  subst hiq;rw[e,g2];simp[hq]
 |none=>
  have:=uV hf;by_cases hl:i<L.length
  ·have hne:=this _ (aiL hl)
   simp only[Option.isSome_none,decide_eq_true hl,aH];exact(decide_eq_false hne).symm
  ·simp[hl]
def aiM(a:ZIj)(b:ZTq):Prop:=Hd (a.i<=a.j/\a.j<=List.length b.L/\(∀q:Nat,q<a.i->kl (ZLnk.key (b.at_ q)) b.s=true)/\ ∀q:Nat,a.j<=q->q<List.length b.L->kl (ZLnk.key (b.at_ q)) b.s=false)
def adC(a:Lks):Prop:=(lrow a=lrow a/\true=true)/\True
def arT(x:ZTq):Prop:=
 (∃s:ZIj,aiM s x/\True/\((s.i:Int)=0/\(s.j:Int)=((List.length x.L:Nat):Int)/\True)/\adC x.L)/\(∀s:ZIj,aiM s x->cP (decide ((s.i:Int)<(s.j:Int))) (I64 ((s.i:Int)+(s.j:Int))/\(0:Int)<=1/\I64 (Int.fdiv (IntKind.wrap .u64 ((s.i:Int)+(s.j:Int))) (2:Int))/\(0<=Int.fdiv (IntKind.wrap .u64 ((s.i:Int)+(s.j:Int))) (2:Int)/\Int.fdiv (IntKind.wrap .u64 ((s.i:Int)+(s.j:Int))) (2:Int)<((List.length x.L:Nat):Int))/\0+Int.toNat (Int.fdiv (IntKind.wrap .u64 ((s.i:Int)+(s.j:Int))) (2:Int))<List.length x.L/\cP (decide (agj (ZLnk.key (List.getD x.L (0+Int.toNat (Int.fdiv (IntKind.wrap .u64 ((s.i:Int)+(s.j:Int))) (2:Int))) iT)) x.s<0)) (I64 (Int.fdiv (IntKind.wrap .u64 ((s.i:Int)+(s.j:Int))) (2:Int)+1)/\ ∃s_1:ZIj,aiM s_1 x/\s_1.j-s_1.i<s.j-s.i/\((s_1.i:Int)=Int.fdiv (IntKind.wrap .u64 ((s.i:Int)+(s.j:Int))) (2:Int)+1/\(s_1.j:Int)=(s.j:Int)/\True)/\adC x.L) (∃s_1:ZIj,aiM s_1 x/\s_1.j-s_1.i<s.j-s.i/\((s_1.i:Int)=(s.i:Int)/\(s_1.j:Int)=Int.fdiv (IntKind.wrap .u64 ((s.i:Int)+(s.j:Int))) (2:Int)/\True)/\adC x.L)) (cP (decide ((s.i:Int)<((List.length x.L:Nat):Int))) ((0<=(s.i:Int)/\(s.i:Int)<((List.length x.L:Nat):Int))/\0+s.i<List.length x.L/\ ∃y:Unit,True/\(((uY x.L x.s:Nat):Int)=(s.i:Int)/\ @Option.isSome ZLnk (gI x.L x.s)=BEq.beq (agj (ZLnk.key (List.getD x.L (0+s.i) iT)) x.s) (0:Int)/\True)/\adC x.L) (∃y:Unit,True/\(((uY x.L x.s:Nat):Int)=(s.i:Int)/\ @Option.isSome ZLnk (gI x.L x.s)=false/\True)/\adC x.L)))/\True
theorem ane(x:ZTq):arT x=wpF Tryz.prog auq tt (apr x) 200 6 280 (aur.args x) (hO 1 (aur.os x)) (λv h'=>eG 1 x v h' aur.outs):=by kernel_rfl
theorem aut(a b:ByteArray):agj a b<0↔kl a b=true:=agk a b
theorem anf(a b:ByteArray):(agj a b==0)=decide (a=b):=by
 have h:agj a b=0↔a=b:=by
  unfold agj;rw[iJ];rw[(oh a.data.toList b.data.toList).2];exact⟨λe=>ByteArray.ext (Array.toList_inj.1 e),λe=>by rw[e]⟩
 rw[Bool.eq_iff_iff];simp[h]
theorem adD(x:ZTq)(hs:srt x.L)(hn:x.L.length<1099511627776):arT x:=by
 unfold arT;simp only[aiM,adC];simp only[aZ,aV,aU,aA,aI,bQ,bF,aO,aK,ay,aX,aW,bT,bG,bH,bI,bU,bC,bJ,bn,eH,aH,aN,ah,ak,aB,aF,aC,aG];have hz: ∀q,x.at_ q=x.L.getD q iT:=λ_=>rfl
 refine⟨⟨⟨0,x.L.length⟩,⟨Nat.zero_le _,aY _,λq h=>absurd h (Nat.not_lt_zero q),λq h h'=>absurd (Nat.lt_of_lt_of_le h' h) (Nat.lt_irrefl _)⟩,rfl,rfl⟩,λs hI=> ?_⟩;obtain⟨h1,h2,h3,h4⟩:=hI;refine bf (λh=> ?_) λh=> ?_
 ·have h:=aS h
  have hw:IntKind.wrap .u64 ((s.i:Int)+(s.j:Int))=(s.i:Int)+(s.j:Int):=iC (by omega) (by omega);rw[hw];have hd:Int.fdiv ((s.i:Int)+(s.j:Int)) 2=(((s.i+s.j)/2:Nat):Int):=by rw[Int.fdiv_eq_ediv_of_nonneg _ (by decide)];omega
  rw[hd];simp only[ay];refine⟨by unfold I64;omega,by omega,by unfold I64;omega,by omega,by omega,bf (λhc=> ?_) λhc=> ?_⟩
  ·have hc:=(aut _ _).1 (aS hc)
   refine⟨by unfold I64;omega,⟨(s.i+s.j)/2+1,s.j⟩,⟨by show(s.i+s.j)/2+1<=s.j;omega,h2,λq hq=> ?_,h4⟩,by show s.j-((s.i+s.j)/2+1)<s.j-s.i;omega,by show(((s.i+s.j)/2+1:Nat):Int)=_;omega,rfl⟩;rcases Nat.lt_or_ge q ((s.i+s.j)/2)with hq'|hq'
   ·rw[hz];exact jE (aiK hs hq' (by omega)) hc
   ·have:q=(s.i+s.j)/2:=by have:q<(s.i+s.j)/2+1:=hq;omega
    subst this;exact hc
  ·have hc:=aT hc
   have hc:kl (x.L.getD ((s.i+s.j)/2) iT).key x.s=false:=by
    cases hk:kl (x.L.getD ((s.i+s.j)/2) iT).key x.s
    ·rfl
    ·exact absurd ((aut _ _).2 hk) hc
   refine⟨⟨s.i,(s.i+s.j)/2⟩,⟨by show s.i<=(s.i+s.j)/2;omega,by show(s.i+s.j)/2<=_;omega,h3,λq hq hq'=> ?_⟩,by show(s.i+s.j)/2-s.i<s.j-s.i;omega,rfl,rfl⟩;have hq:(s.i+s.j)/2<=q:=hq;rcases Nat.lt_or_ge ((s.i+s.j)/2) q with g|g
   ·rw[hz]
    cases hk:kl (x.L.getD q iT).key x.s
    ·rfl
    ·have:=jE (aiK hs g hq') hk
     rw[hc]at this;cases this
   ·have:q=(s.i+s.j)/2:=by omega
    subst this;exact hc
 ·have h:=aT h
  have hij:s.i=s.j:=by omega
  have hp:uY x.L x.s=s.i:=arS (by omega) h3 λhl=>h4 s.i (by omega) hl
  have ha:=aus hs (s:=x.s) (i:=s.i) (by omega) h3 λq hq=>h4 q (by omega)
  refine bf (λhl=> ?_) λhl=> ?_
  ·have hl:=aS hl
   refine⟨by omega,by omega,by rw[hp],?_⟩;rw[ha];have:s.i<x.L.length:=by omega
   rw[decide_eq_true this,aH];exact(anf _ _).symm
  ·have hl:=aT hl
   refine⟨by rw[hp],?_⟩;rw[ha];rw[decide_eq_false (show¬s.i<x.L.length by omega),Bool.false_and]
theorem auu:bY Tryz.prog 280 aur:=dL dD mixed anb apr 200 6 (λ_=>rfl) (λ_=>rfl) λx hx=>Eq.mp (ane x) (adD x (aZ.1 hx).1 (aZ.1 hx).2)
noncomputable section
theorem WR:rH Tryz.prog 300 (Extern.SlicesOverlaps.overlaps #[123,123] #[4]):=⟨Tryz.f300,by kernel_rfl,by kernel_rfl,by kernel_rfl,by kernel_rfl,by kernel_rfl⟩
theorem ang: ∀w,(Go.sizeOf 41).run Tryz.prog w= .ok 5 w:=λw=>by rw[Tryz.sizeOf41]
def anh:jv:=[(300,aqH)]
theorem Lr:dY Tryz.prog anh:= .He (al2 WR Tryz.underlying123 ang) .nil
structure ZIn where
 n:Nat
 f:Nat->ZLnk
 i:Nat
 l:ZLnk
def insL(f:Nat->ZLnk)(i:Nat)(x:ZLnk)(q:Nat):ZLnk:=bif Nat.blt q i then f q else bif Nat.beq q i then x else f (q-1)
def rV(l:ZLnk):dA:= .cells 41 (.av [.lit (.string l.key),u64 l.id,u64 l.ver,i64 l.line,i64 l.cls])
def zT(n:Nat)(f:Nat->ZLnk):dA:= .room 41 (.row 5 n (λq=>(f q).cs) [])
def aiN(x:ZIn)(c:Nat):Cs:= .row 5 c (λq=>bif Nat.blt q (x.n+1)then(insL x.f x.i x.l q).cs else []) []
def arU(x:ZIn)(c:Nat):Cs:= .row 5 c (λq=>bif Nat.blt q x.n then(x.f q).cs else []) []
def WS:Ctr:={X:=ZIn×Nat,args:=λx=>[.slE 0 0 5 x.1.n x.2,i64 x.1.i,.sl 1 0 1 1],k:=2,os:=λx=>[.room 41 (arU x.1 x.2),rV x.1.l],pre:=λx=>Hd (x.1.i<=x.1.n/\x.1.n<=x.2/\x.1.n<=300),outs:=[
 {Y:=Unit,post:=λx _=>Hd (x.1.n+1<=x.2),ret:=λx _=> .slE 0 0 5 (x.1.n+1) x.2,m:=2,os:=λx _=>[.room 41 (aiN x.1 x.2),rV x.1.l]},
 {Y:=Unit,post:=λ_ _=>True,ret:=λx _=> .slW 2 0 5 (x.1.n+1),m:=3,os:=λx _=>[.room 41 (arU x.1 x.2),rV x.1.l,zT (x.1.n+1) (insL x.1.f x.1.i x.1.l)]}]}
def insLC:Ctr:=det ZIn (λx=>[.slW 0 0 5 x.n,i64 x.i,.sl 1 0 1 1]) 2 (λx=>[zT x.n x.f,rV x.l]) (λx=>Hd (x.i<=x.n/\x.n<=300)) (λx=> .slW 2 0 5 (x.n+1)) 3 (λx=>[.abs CB,rV x.l,zT (x.n+1) (insL x.f x.i x.l)])
end
def Fv(a:ZIn×Nat):Prop:=a.1.l.key=a.1.l.key/\a.1.l.id=a.1.l.id/\a.1.l.ver=a.1.l.ver/\a.1.l.line=a.1.l.line/\a.1.l.cls=a.1.l.cls/\True
def aiO(a:ZIn×Nat)(b:Nat):Prop:=(Nat.beq (List.length (Cs.eff (λ(q:Nat)=>cond (Nat.blt q a.1.n) (ZLnk.cs (a.1.f q)) (@List.nil Value)) [] (0+a.1.i+b))) 5&&List.all (Cs.eff (λ(q:Nat)=>cond (Nat.blt q a.1.n) (ZLnk.cs (a.1.f q)) (@List.nil Value)) [] (0+a.1.i+b)) Value.oneCell')=true
def aiP(a:ZIn×Nat):Prop:=List.all [List.take 5 [Value.string a.1.l.key,Value.int .u64 a.1.l.id,Value.int .u64 a.1.l.ver,Value.int .i64 a.1.l.line,Value.int .i64 a.1.l.cls]] (λ(l:List Value)=>Nat.beq (List.length l) 5&&List.all l Value.oneCell')=true
def ani(a:ZIn×Nat):Prop:=a.2=a.2/\ ∀q:Nat,q<a.2->Cs.eff (λ(q_1:Nat)=>cond (Nat.blt q_1 a.1.n) (ZLnk.cs (a.1.f q_1)) (@List.nil Value)) [] q=Cs.eff (λ(q_1:Nat)=>cond (Nat.blt q_1 a.1.n) (ZLnk.cs (a.1.f q_1)) (@List.nil Value)) [] q
def aiQ(a:ZIn×Nat):Prop:=a.1.i-0+Int.toNat ((a.1.n:Int)+1-(a.1.i:Int))<=a.1.i-0+Int.toNat ((a.1.n:Int)+1-(a.1.i:Int))
def aa4(a:ZIn×Nat):Prop:=Int.toNat ((a.1.n:Int)+1)-0<=a.2-0/\a.2-0<=a.2-0
def aiR(a:ZIn×Nat):Prop:=aiQ a/\aiQ a
def aa5(a:ZIn×Nat):Prop:=a.1.i<=Int.toNat ((a.1.n:Int)+1)-0/\aa4 a
def Si(a:ZIn×Nat):Prop:=a.1.n+1=a.1.i-0+Int.toNat ((a.1.n:Int)+1-(a.1.i:Int))
def aa6(a:ZIn×Nat):Prop:= ∃y:Unit,Hd (a.1.n+1<=a.2)/\False/\(a.2=a.2/\ ∀q:Nat,q<a.2->Cs.eff (λ(q_1:Nat)=>cond (Nat.blt q_1 (a.1.n+1)) (ZLnk.cs (insL a.1.f a.1.i a.1.l q_1)) (@List.nil Value)) [] q=Cs.eff (λ(q_1:Nat)=>cond (Nat.blt q_1 a.1.n) (ZLnk.cs (a.1.f q_1)) (@List.nil Value)) [] q)/\Fv a/\True
def aa7(a:ZIn×Nat):Prop:=0+a.1.i+(Int.toNat ((a.1.n:Int)+1)-0-a.1.i)<=a.2
def WT(x:ZIn×Nat):Prop:=
 0<=(x.1.i:Int)/\(x.1.i<=x.1.n/\x.1.n<=x.2/\x.2<=x.2)/\cP (BEq.beq (x.1.i:Int) (x.1.n:Int)) (0+x.1.n<=x.2/\cP (Nat.ble (x.1.n+1) x.2) (aiP x/\0+(x.1.n+1)<=x.2/\((∃y:Unit,Hd (x.1.n+1<=x.2)/\(0=0/\x.1.n+1=x.1.n+1/\x.2=x.2)/\(x.2=x.2/\ ∀q:Nat,q<x.2->Cs.eff (λ(q_1:Nat)=>cond (Nat.blt q_1 (x.1.n+1)) (ZLnk.cs (insL x.1.f x.1.i x.1.l q_1)) (@List.nil Value)) [] q=Cs.eff (λ(q_1:Nat)=>cond (Nat.blt q_1 x.1.n) (ZLnk.cs (x.1.f q_1)) (@List.nil Value)) [(0+x.1.n,List.take 5 [Value.string x.1.l.key,Value.int .u64 x.1.l.id,Value.int .u64 x.1.l.ver,Value.int .i64 x.1.l.line,Value.int .i64 x.1.l.cls])] q)/\Fv x/\True)\/ ∃y:Unit,True/\False/\(x.2=x.2/\ ∀q:Nat,q<x.2->Cs.eff (λ(q_1:Nat)=>cond (Nat.blt q_1 x.1.n) (ZLnk.cs (x.1.f q_1)) (@List.nil Value)) [] q=Cs.eff (λ(q_1:Nat)=>cond (Nat.blt q_1 x.1.n) (ZLnk.cs (x.1.f q_1)) (@List.nil Value)) [(0+x.1.n,List.take 5 [Value.string x.1.l.key,Value.int .u64 x.1.l.id,Value.int .u64 x.1.l.ver,Value.int .i64 x.1.l.line,Value.int .i64 x.1.l.cls])] q)/\Fv x/\False/\True)) ((2*(x.1.n+1)+1000)*48<=281474976710656/\(aa6 x\/ ∃y:Unit,True/\(0=0/\x.1.n+1=x.1.n+1)/\ani x/\Fv x/\(x.1.n+1=x.1.n+List.length [List.take 5 [Value.string x.1.l.key,Value.int .u64 x.1.l.id,Value.int .u64 x.1.l.ver,Value.int .i64 x.1.l.line,Value.int .i64 x.1.l.cls]]/\
 ∀q:Nat,q<x.1.n+1->[Value.string (ZLnk.key (insL x.1.f x.1.i x.1.l q)),Value.int .u64 (ZLnk.id (insL x.1.f x.1.i x.1.l q)),Value.int .u64 (ZLnk.ver (insL x.1.f x.1.i x.1.l q)),Value.int .i64 (ZLnk.line (insL x.1.f x.1.i x.1.l q)),Value.int .i64 (ZLnk.cls (insL x.1.f x.1.i x.1.l q))]=Cs.eff (λ(k:Nat)=>Cs.eff (λ(q_1:Nat)=>cond (Nat.blt q_1 x.1.n) (ZLnk.cs (x.1.f q_1)) (@List.nil Value)) [] (0+k)) [(x.1.n,List.take 5 [Value.string x.1.l.key,Value.int .u64 x.1.l.id,Value.int .u64 x.1.l.ver,Value.int .i64 x.1.l.line,Value.int .i64 x.1.l.cls])] q)/\True))) (I64 ((x.1.n:Int)+1)/\cP (decide ((x.1.n:Int)+1>(x.2:Int))) (0<=(x.1.i:Int)/\(0<=x.1.i/\x.1.i<=x.2/\x.2<=x.2)/\I64 ((x.1.n:Int)+1)/\I64 ((x.1.n:Int)+1-(x.1.i:Int))/\0+(x.1.i-0)<=x.2/\0<=(x.1.n:Int)+1-(x.1.i:Int)/\x.2-0<x.1.i-0+Int.toNat ((x.1.n:Int)+1-(x.1.i:Int))/\(2*(x.1.i-0+Int.toNat ((x.1.n:Int)+1-(x.1.i:Int)))+1000)*48<=281474976710656/\0<=(x.1.i:Int)/\(x.1.i<=x.1.i-0+Int.toNat ((x.1.n:Int)+1-(x.1.i:Int))/\aiR x)/\0+x.1.i+(x.1.i-0+Int.toNat ((x.1.n:Int)+1-(x.1.i:Int))-x.1.i)<=x.1.i-0+Int.toNat ((x.1.n:Int)+1-(x.1.i:Int))/\1<=x.1.i-0+Int.toNat ((x.1.n:Int)+1-(x.1.i:Int))-x.1.i/\aiP x/\I64 ((x.1.i:Int)+1)/\0<=(x.1.i:Int)+1/\(Int.toNat ((x.1.i:Int)+1)<=x.1.i-0+Int.toNat ((x.1.n:Int)+1-(x.1.i:Int))/\aiR x)/\0<=(x.1.i:Int)/\(x.1.i<=x.1.n/\x.1.n<=x.2/\x.2<=x.2)/\0+Int.toNat ((x.1.i:Int)+1)+(x.1.i-0+Int.toNat ((x.1.n:Int)+1-(x.1.i:Int))-Int.toNat ((x.1.i:Int)+1))<=x.1.i-0+Int.toNat ((x.1.n:Int)+1-(x.1.i:Int))/\
 cP (Nat.ble (x.1.n-x.1.i) (x.1.i-0+Int.toNat ((x.1.n:Int)+1-(x.1.i:Int))-Int.toNat ((x.1.i:Int)+1))) (0+x.1.i+(x.1.n-x.1.i)<=x.2/\(∀k:Nat,k<x.1.n-x.1.i->aiO x k)/\True/\(aa6 x\/ ∃y:Unit,True/\(0=0/\Si x)/\ani x/\Fv x/\(Si x/\ ∀q:Nat,q<x.1.n+1->[Value.string (ZLnk.key (insL x.1.f x.1.i x.1.l q)),Value.int .u64 (ZLnk.id (insL x.1.f x.1.i x.1.l q)),Value.int .u64 (ZLnk.ver (insL x.1.f x.1.i x.1.l q)),Value.int .i64 (ZLnk.line (insL x.1.f x.1.i x.1.l q)),Value.int .i64 (ZLnk.cls (insL x.1.f x.1.i x.1.l q))]=Cs.eff (λ(p:Nat)=>cond (Nat.ble (0+Int.toNat ((x.1.i:Int)+1)) p&&Nat.blt p (0+Int.toNat ((x.1.i:Int)+1)+(x.1.n-x.1.i))) (Cs.eff (λ(q_1:Nat)=>cond (Nat.blt q_1 x.1.n) (ZLnk.cs (x.1.f q_1)) (@List.nil Value)) [] (0+x.1.i+(p-(0+Int.toNat ((x.1.i:Int)+1))))) (Cs.eff (λ(q_1:Nat)=>cond (Nat.blt q_1 (x.1.i-0)) (Cs.eff (λ(k:Nat)=>Cs.eff (λ(q_2:Nat)=>cond (Nat.blt q_2 x.1.n) (ZLnk.cs (x.1.f q_2)) (@List.nil Value)) [] (0+k)) [] q_1) [Value.string (ByteArray.mk #[]),Value.int .u64 0,Value.int .u64 0,Value.int .i64 0,Value.int .i64 0]) [(0+x.1.i,List.take 5 [Value.string x.1.l.key,Value.int .u64 x.1.l.id,Value.int .u64 x.1.l.ver,Value.int .i64 x.1.l.line,Value.int .i64 x.1.l.cls])] p)) [] q)/\True)) (0+x.1.i+(x.1.i-0+Int.toNat ((x.1.n:Int)+1-(x.1.i:Int))-Int.toNat ((x.1.i:Int)+1))<=x.2/\(∀k:Nat,k<x.1.i-0+Int.toNat ((x.1.n:Int)+1-(x.1.i:Int))-Int.toNat ((x.1.i:Int)+1)->aiO x k)/\True/\(aa6 x\/ ∃y:Unit,True/\(0=0/\Si x)/\ani x/\Fv x/\(Si x/\
 ∀q:Nat,q<x.1.n+1->[Value.string (ZLnk.key (insL x.1.f x.1.i x.1.l q)),Value.int .u64 (ZLnk.id (insL x.1.f x.1.i x.1.l q)),Value.int .u64 (ZLnk.ver (insL x.1.f x.1.i x.1.l q)),Value.int .i64 (ZLnk.line (insL x.1.f x.1.i x.1.l q)),Value.int .i64 (ZLnk.cls (insL x.1.f x.1.i x.1.l q))]=Cs.eff (λ(p:Nat)=>cond (Nat.ble (0+Int.toNat ((x.1.i:Int)+1)) p&&Nat.blt p (0+Int.toNat ((x.1.i:Int)+1)+(x.1.i-0+Int.toNat ((x.1.n:Int)+1-(x.1.i:Int))-Int.toNat ((x.1.i:Int)+1)))) (Cs.eff (λ(q_1:Nat)=>cond (Nat.blt q_1 x.1.n) (ZLnk.cs (x.1.f q_1)) (@List.nil Value)) [] (0+x.1.i+(p-(0+Int.toNat ((x.1.i:Int)+1))))) (Cs.eff (λ(q_1:Nat)=>cond (Nat.blt q_1 (x.1.i-0)) (Cs.eff (λ(k:Nat)=>Cs.eff (λ(q_2:Nat)=>cond (Nat.blt q_2 x.1.n) (ZLnk.cs (x.1.f q_2)) (@List.nil Value)) [] (0+k)) [] q_1) [Value.string (ByteArray.mk #[]),Value.int .u64 0,Value.int .u64 0,Value.int .i64 0,Value.int .i64 0]) [(0+x.1.i,List.take 5 [Value.string x.1.l.key,Value.int .u64 x.1.l.id,Value.int .u64 x.1.l.ver,Value.int .i64 x.1.l.line,Value.int .i64 x.1.l.cls])] p)) [] q)/\True))) (I64 ((x.1.n:Int)+1)/\0<=(x.1.n:Int)+1/\(0<=Int.toNat ((x.1.n:Int)+1)/\Int.toNat ((x.1.n:Int)+1)<=x.2/\x.2<=x.2)/\I64 ((x.1.i:Int)+1)/\0<=(x.1.i:Int)+1/\(Int.toNat ((x.1.i:Int)+1)<=Int.toNat ((x.1.n:Int)+1)-0/\aa4 x)/\0<x.2*5/\I64 ((x.1.i:Int)+1)/\0<=(x.1.i:Int)+1/\(Int.toNat ((x.1.i:Int)+1)<=Int.toNat ((x.1.n:Int)+1)-0/\aa4 x)/\0<=(x.1.i:Int)/\aa5 x/\0+Int.toNat ((x.1.i:Int)+1)+(Int.toNat ((x.1.n:Int)+1)-0-Int.toNat ((x.1.i:Int)+1))<=x.2/\
 cP (Nat.ble (Int.toNat ((x.1.n:Int)+1)-0-x.1.i) (Int.toNat ((x.1.n:Int)+1)-0-Int.toNat ((x.1.i:Int)+1))) (aa7 x/\(∀k:Nat,k<Int.toNat ((x.1.n:Int)+1)-0-x.1.i->aiO x k)/\True/\0<=(x.1.i:Int)/\aa5 x/\aa7 x/\1<=Int.toNat ((x.1.n:Int)+1)-0-x.1.i/\aiP x/\((∃y:Unit,Hd (x.1.n+1<=x.2)/\(0=0/\x.1.n+1=Int.toNat ((x.1.n:Int)+1)-0/\x.2=x.2-0)/\(x.2=x.2/\ ∀q:Nat,q<x.2->Cs.eff (λ(q_1:Nat)=>cond (Nat.blt q_1 (x.1.n+1)) (ZLnk.cs (insL x.1.f x.1.i x.1.l q_1)) (@List.nil Value)) [] q=Cs.eff (λ(p:Nat)=>cond (Nat.ble (0+Int.toNat ((x.1.i:Int)+1)) p&&Nat.blt p (0+Int.toNat ((x.1.i:Int)+1)+(Int.toNat ((x.1.n:Int)+1)-0-x.1.i))) (Cs.eff (λ(q_1:Nat)=>cond (Nat.blt q_1 x.1.n) (ZLnk.cs (x.1.f q_1)) (@List.nil Value)) [] (0+x.1.i+(p-(0+Int.toNat ((x.1.i:Int)+1))))) (Cs.eff (λ(q_1:Nat)=>cond (Nat.blt q_1 x.1.n) (ZLnk.cs (x.1.f q_1)) (@List.nil Value)) [] p)) [(0+x.1.i,List.take 5 [Value.string x.1.l.key,Value.int .u64 x.1.l.id,Value.int .u64 x.1.l.ver,Value.int .i64 x.1.l.line,Value.int .i64 x.1.l.cls])] q)/\Fv x/\True)\/ ∃y:Unit,True/\False/\(x.2=x.2/\
 ∀q:Nat,q<x.2->Cs.eff (λ(q_1:Nat)=>cond (Nat.blt q_1 x.1.n) (ZLnk.cs (x.1.f q_1)) (@List.nil Value)) [] q=Cs.eff (λ(p:Nat)=>cond (Nat.ble (0+Int.toNat ((x.1.i:Int)+1)) p&&Nat.blt p (0+Int.toNat ((x.1.i:Int)+1)+(Int.toNat ((x.1.n:Int)+1)-0-x.1.i))) (Cs.eff (λ(q_1:Nat)=>cond (Nat.blt q_1 x.1.n) (ZLnk.cs (x.1.f q_1)) (@List.nil Value)) [] (0+x.1.i+(p-(0+Int.toNat ((x.1.i:Int)+1))))) (Cs.eff (λ(q_1:Nat)=>cond (Nat.blt q_1 x.1.n) (ZLnk.cs (x.1.f q_1)) (@List.nil Value)) [] p)) [(0+x.1.i,List.take 5 [Value.string x.1.l.key,Value.int .u64 x.1.l.id,Value.int .u64 x.1.l.ver,Value.int .i64 x.1.l.line,Value.int .i64 x.1.l.cls])] q)/\Fv x/\False/\True)) (0+x.1.i+(Int.toNat ((x.1.n:Int)+1)-0-Int.toNat ((x.1.i:Int)+1))<=x.2/\(∀k:Nat,k<Int.toNat ((x.1.n:Int)+1)-0-Int.toNat ((x.1.i:Int)+1)->aiO x k)/\True/\0<=(x.1.i:Int)/\aa5 x/\aa7 x/\1<=Int.toNat ((x.1.n:Int)+1)-0-x.1.i/\aiP x/\((∃y:Unit,Hd (x.1.n+1<=x.2)/\(0=0/\x.1.n+1=Int.toNat ((x.1.n:Int)+1)-0/\x.2=x.2-0)/\(x.2=x.2/\
 ∀q:Nat,q<x.2->Cs.eff (λ(q_1:Nat)=>cond (Nat.blt q_1 (x.1.n+1)) (ZLnk.cs (insL x.1.f x.1.i x.1.l q_1)) (@List.nil Value)) [] q=Cs.eff (λ(p:Nat)=>cond (Nat.ble (0+Int.toNat ((x.1.i:Int)+1)) p&&Nat.blt p (0+Int.toNat ((x.1.i:Int)+1)+(Int.toNat ((x.1.n:Int)+1)-0-Int.toNat ((x.1.i:Int)+1)))) (Cs.eff (λ(q_1:Nat)=>cond (Nat.blt q_1 x.1.n) (ZLnk.cs (x.1.f q_1)) (@List.nil Value)) [] (0+x.1.i+(p-(0+Int.toNat ((x.1.i:Int)+1))))) (Cs.eff (λ(q_1:Nat)=>cond (Nat.blt q_1 x.1.n) (ZLnk.cs (x.1.f q_1)) (@List.nil Value)) [] p)) [(0+x.1.i,List.take 5 [Value.string x.1.l.key,Value.int .u64 x.1.l.id,Value.int .u64 x.1.l.ver,Value.int .i64 x.1.l.line,Value.int .i64 x.1.l.cls])] q)/\Fv x/\True)\/ ∃y:Unit,True/\False/\(x.2=x.2/\ ∀q:Nat,q<x.2->Cs.eff (λ(q_1:Nat)=>cond (Nat.blt q_1 x.1.n) (ZLnk.cs (x.1.f q_1)) (@List.nil Value)) [] q=Cs.eff (λ(p:Nat)=>cond (Nat.ble (0+Int.toNat ((x.1.i:Int)+1)) p&&Nat.blt p (0+Int.toNat ((x.1.i:Int)+1)+(Int.toNat ((x.1.n:Int)+1)-0-Int.toNat ((x.1.i:Int)+1)))) (Cs.eff (λ(q_1:Nat)=>cond (Nat.blt q_1 x.1.n) (ZLnk.cs (x.1.f q_1)) (@List.nil Value)) [] (0+x.1.i+(p-(0+Int.toNat ((x.1.i:Int)+1))))) (Cs.eff (λ(q_1:Nat)=>cond (Nat.blt q_1 x.1.n) (ZLnk.cs (x.1.f q_1)) (@List.nil Value)) [] p)) [(0+x.1.i,List.take 5 [Value.string x.1.l.key,Value.int .u64 x.1.l.id,Value.int .u64 x.1.l.ver,Value.int .i64 x.1.l.line,Value.int .i64 x.1.l.cls])] q)/\Fv x/\False/\True))))
theorem adE(x:ZIn×Nat):WT x=wpF Tryz.prog anh tt (noA x) 200 6 281 (WS.args x) (hO WS.k (WS.os x)) (λv h'=>eG WS.k x v h' WS.outs):=by kernel_rfl
theorem aiS(l:ZLnk):(@List.all (List Value) [List.take 5 [Value.string l.key,Value.int .u64 l.id,Value.int .u64 l.ver,Value.int .i64 l.line,Value.int .i64 l.cls]] (λl=>Nat.beq l.length 5&&List.all l Value.oneCell'))=true:=rfl
theorem ji{a b:Nat}(h: ¬a<b):Nat.blt a b=false:=by
 cases hb:Nat.blt a b
 ·rfl
 ·exact absurd (bg.1 hb) h
theorem Jk{a b:Nat}(h: ¬a<=b):Nat.ble a b=false:=by
 cases hb:Nat.ble a b
 ·rfl
 ·exact absurd (Nat.le_of_ble_eq_true hb) h
theorem zU{f:Nat->ZLnk}{i q:Nat}{x:ZLnk}(h:q<i):insL f i x q=f q:=by unfold insL;rw[bg.2 h];rfl
theorem rW{f:Nat->ZLnk}{i:Nat}{x:ZLnk}:insL f i x i=x:=by unfold insL;rw[ji (Nat.lt_irrefl i)];simp
theorem Fz{f:Nat->ZLnk}{i q:Nat}{x:ZLnk}(h:i<q):insL f i x q=f (q-1):=by unfold insL;rw[ji (by omega),fA (by omega)];rfl
theorem Sj(x:ZIn×Nat)(hx:x.1.i<=x.1.n/\x.1.n<=x.2/\x.1.n<=300):WT x:=by
 obtain⟨⟨n,f,i,l⟩,c⟩:=x;obtain⟨h1,h2,h3⟩:=hx;dsimp only at h1 h2 h3;unfold WT;simp only[aiP,Fv,aa6,ani,aiR,aiO,Si,aa4,aa5,aa7,aiQ];have e1:(((n:Nat):Int)+1-(i:Int)).toNat=n+1-i:=by omega
 have e2:((i:Int)+1).toNat=i+1:=by omega
 have e3:((n:Int)+1).toNat=n+1:=by omega
 have e4:i+(n+1-i)=n+1:=by omega
 simp only[aZ,aV,aU,aA,aI,bQ,bF,aO,aK,ay,aX,aW,aN,e1,e2,e3,e4,aiS];have hb: ∀a b:Nat,a<=b->Nat.ble a b=true:=λa b h=>by simpa using h
 simp only[Cs.eff];refine⟨by omega,⟨by omega,by omega,by omega⟩,bf (λhi=> ?_) (λhi=> ?_)⟩
 ·have hi:i=n:=by have:=eq_of_beq hi;omega
  subst hi;have row: ∀q,q<i+1->(insL f i l q).cs=(bif Nat.beq q i then l.cs else(bif Nat.blt q i then(f q).cs else [])):=λq hq=>by
   by_cases h:q=i
   ·subst h;simp[rW]
   ·rw[fA h,bg.2 (show q<i by omega),zU (by omega)];rfl
  refine⟨by omega,bf (λhc=> ?_) (λhc=> ?_)⟩
  ·have hc:i+1<=c:=by simpa using hc
   refine⟨by omega,.inl ⟨hc,λq hq=> ?_⟩⟩;by_cases h:q<i+1
   ·rw[bg.2 h,aP];exact row q h
   ·rw[ji h,ji (show¬q<i by omega),fA (by omega)];rfl
  ·exact⟨by omega,.inr ⟨by simp,λq hq=>row q hq⟩⟩
 ·have hi:i<n:=by
   rcases Nat.lt_or_ge i n with h|h
   ·exact h
   ·have:i=n:=by omega
    subst this;simp at hi
  have old: ∀k,k<n-i->(Nat.beq (bif Nat.blt (i+k) n then(f (i+k)).cs else []).length 5&&(bif Nat.blt (i+k) n then(f (i+k)).cs else []).all Value.oneCell')=true:=λk hk=>by
   rw[bg.2 (show i+k<n by omega)];rfl
  refine⟨by unfold I64;omega,bf (λhc=> ?_) (λhc=> ?_)⟩
  ·have hc:=aS hc
   refine⟨by omega,⟨by omega,by omega,by omega⟩,by unfold I64;omega,by unfold I64;omega,by omega,by omega,by omega,by omega,by omega,⟨by omega,by omega⟩,by omega,by omega,by unfold I64;omega,by omega,⟨by omega,by omega⟩,by omega,⟨by omega,by omega,by omega⟩,by omega,?_⟩;have fin: ∀N,N=n-i-> ∀q,q<n+1->(insL f i l q).cs=(bif Nat.ble (i+1) q&&Nat.blt q (i+1+N)then(bif Nat.blt (i+(q-(i+1))) n then(f (i+(q-(i+1)))).cs else [])else(bif Nat.beq q i then l.cs else(bif Nat.blt q i then(bif Nat.blt q n then(f q).cs else [])else iT.cs))):=by
    rintro N rfl q hq
    by_cases h1:q<i
    ·rw[Jk (show¬i+1<=q by omega),fA (show q≠i by omega),bg.2 h1,bg.2 (show q<n by omega),zU h1];rfl
    ·by_cases h2:q=i
     ·subst h2
      rw[Jk (show¬q+1<=q by omega),rW];simp
     ·rw[hb _ _ (show i+1<=q by omega),bg.2 (show q<i+1+(n-i) by omega),bg.2 (show i+(q-(i+1))<n by omega),Fz (by omega),show i+(q-(i+1))=q-1 by omega];rfl
   refine bf (λhb2=>⟨by omega,old,.inr (λq hq=>fin _ rfl q hq)⟩) (λhb2=> ?_);exact absurd (Nat.ble_eq_true_of_le (show n-i<=n+1-(i+1) by omega)) (by rw[hb2];decide)
  ·have hc:=aT hc
   have en:n+1-(i+1)=n-i:=by omega
   rw[en];refine⟨by unfold I64;omega,by omega,⟨by omega,by omega,by omega⟩,by unfold I64;omega,by omega,⟨by omega,by omega,by omega⟩,by omega,by unfold I64;omega,by omega,⟨by omega,by omega,by omega⟩,by omega,⟨by omega,by omega,by omega⟩,by omega,bf (λhb2=> ?_) (λ_=>⟨by omega,old,by omega,⟨by omega,by omega,by omega⟩,by omega,by omega,.inl ⟨by omega,λq hq=> ?_⟩⟩)⟩
   ·have:=Nat.le_of_ble_eq_true hb2;omega
   ·by_cases h0:q<n+1
    ·rw[bg.2 h0,aP]
     by_cases h1:q<i
     ·rw[Jk (show¬i+1<=q by omega),fA (show q≠i by omega),bg.2 (show q<n by omega),zU h1];rfl
     ·by_cases h2:q=i
      ·subst h2
       rw[rW];simp[ZLnk.cs]
      ·rw[fA h2,hb _ _ (show i+1<=q by omega),bg.2 (show q<i+1+(n-i) by omega),bg.2 (show i+(q-(i+1))<n by omega),Fz (by omega),show i+(q-(i+1))=q-1 by omega];rfl
    ·rw[ji h0,fA (show q≠i by omega),ji (show¬q<i+1+(n-i) by omega),ji (show¬q<n by omega)];simp
theorem anj:bY Tryz.prog 281 WS:=jf dD mixed Lr (C:=WS) noA 200 6 (λ_=>rfl) (λ_=>⟨λ_=>rfl,λ_=>rfl,trivial⟩) λx hx=>Eq.mp (adE x) (Sj x (aZ.1 hx))
theorem adF(x:ZIn)(c:Nat): ∀q,q<x.n+1->(bif Nat.blt q (x.n+1)then(insL x.f x.i x.l q).cs else [])=(insL x.f x.i x.l q).cs:=λq hq=>by rw[bg.2 hq];rfl
theorem arV:bY Tryz.prog 281 insLC:=λx hx=>⟨rfl,by
 have hx:=aZ.1 hx;refine Bl (Qg (k:=2) (e:=41) (g:=λk=>(x.f k).cs) (wr:=[]) (os:=[rV x.l]) rfl λc hc=> ?_);refine((anj (x,c) (aZ.2 ⟨hx.1,hc,hx.2⟩)).2).mono λv h' hh=> ?_
 refine⟨.slW 2 0 5 (x.n+1),hO 3 [.abs CB,rV x.l,zT (x.n+1) (insL x.f x.i x.l)],?_,by with_unfolding_all exact Or.inl ⟨(),trivial,rfl,rfl⟩⟩;have hh:(∃y:Unit,Hd (x.n+1<=c)/\v= .slE 0 0 5 (x.n+1) c/\h'=hO 2 [.room 41 (aiN x c),rV x.l])\/(∃y:Unit,True/\v= .slW 2 0 5 (x.n+1)/\h'=hO 3 [.room 41 (arU x c),rV x.l,zT (x.n+1) (insL x.f x.i x.l)])\/False:=by
  with_unfolding_all exact hh
 rcases hh with ⟨_,h1,rfl,rfl⟩|⟨_,_,rfl,rfl⟩|hh
 ·refine(Qe (k:=2) (rest:=[rV x.l]) rfl (aZ.1 h1)).trans ?_
  refine uQ (m:=3) rfl rfl (by decide) λi o o' hi hi'=> ?_
  match i,hi,hi' with
  |0,hi,hi'=>cases hi;cases hi';exactλ_ _ _ _ _ h=>h
  |1,hi,hi'=>cases hi;cases hi';exactλ_ _ _ _ _ h=>h
  |2,hi,hi'=>cases hi;cases hi';exact Es (adF x c)
 ·exact al4 (m:=3) rfl (show(2:Nat)<=3 by decide)
 ·exact hh.elim⟩
noncomputable section
structure ZDl where
 n:Nat
 f:Nat->ZLnk
 i:Nat
def Jl(f:Nat->ZLnk)(i:Nat)(q:Nat):ZLnk:=bif Nat.blt q i then f q else f (q+1)
def openD(x:ZDl)(c:Nat):Cs:= .row 5 c (λq=>bif Nat.blt q x.n then(x.f q).cs else []) []
def cutD(x:ZDl)(c:Nat):Cs:= .row 5 c (λq=>bif Nat.blt q (x.n-1)then(Jl x.f x.i q).cs else bif Nat.blt q x.n then iT.cs else []) []
def adG:Ctr:=det (ZDl×Nat) (λx=>[.slE 0 0 5 x.1.n x.2,i64 x.1.i,i64 ((x.1.i:Int)+1)]) 1 (λx=>[.room 41 (openD x.1 x.2)]) (λx=>Hd (x.1.i<x.1.n/\x.1.n<=x.2/\x.1.n<=300)) (λx=> .slE 0 0 5 (x.1.n-1) x.2) 1 (λx=>[.room 41 (cutD x.1 x.2)])
def delLC:Ctr:=det ZDl (λx=>[.slW 0 0 5 x.n,i64 x.i,i64 ((x.i:Int)+1)]) 1 (λx=>[zT x.n x.f]) (λx=>Hd (x.i<x.n/\x.n<=300)) (λx=> .slW 1 0 5 (x.n-1)) 2 (λx=>[.abs CB,zT (x.n-1) (Jl x.f x.i)])
end
def arW(a:ZDl×Nat):Prop:=(a.2=a.2/\ ∀q:Nat,q<a.2->Cs.eff (λ(q_1:Nat)=>cond (Nat.blt q_1 (a.1.n-1)) (ZLnk.cs (Jl a.1.f a.1.i q_1)) (cond (Nat.blt q_1 a.1.n) iT.cs (@List.nil Value))) [] q=Cs.eff (λ(q_1:Nat)=>cond (Nat.blt q_1 a.1.n) (ZLnk.cs (a.1.f q_1)) (@List.nil Value)) [] q)/\True
def WU(x:ZDl×Nat):Prop:=
 0<=(x.1.n:Int)/\0<=(x.1.i:Int)+1/\0<=(x.1.i:Int)/\(x.1.i<=Int.toNat ((x.1.i:Int)+1)/\Int.toNat ((x.1.i:Int)+1)<=x.1.n/\x.1.n<=x.2)/\cP (BEq.beq (x.1.i:Int) ((x.1.i:Int)+1)) (∃y:Unit,True/\(0=0/\x.1.n-1=x.1.n/\x.2=x.2)/\arW x) (0<=(x.1.i:Int)/\(0<=x.1.i/\x.1.i<=x.2/\x.2<=x.2)/\0<=(x.1.i:Int)+1/\(Int.toNat ((x.1.i:Int)+1)<=x.1.n/\x.1.n<=x.2/\x.2<=x.2)/\0+(x.1.i-0)<=x.2/\0+Int.toNat ((x.1.i:Int)+1)+(x.1.n-Int.toNat ((x.1.i:Int)+1))<=x.2/\cP (Nat.beq (x.1.n-Int.toNat ((x.1.i:Int)+1)) 0) (True/\True/\0<=(x.1.n:Int)/\0<=((x.1.i-0:Nat):Int)/\(x.1.i-0<=x.1.n/\x.1.n<=x.2-0/\x.2-0<=x.2-0)/\0+(x.1.i-0)+(x.1.n-(x.1.i-0))<=x.2/\ ∃y:Unit,True/\(0=0/\x.1.n-1=x.1.i-0/\x.2=x.2-0)/\(x.2=x.2/\ ∀q:Nat,q<x.2->Cs.eff (λ(q_1:Nat)=>cond (Nat.blt q_1 (x.1.n-1)) (ZLnk.cs (Jl x.1.f x.1.i q_1)) (cond (Nat.blt q_1 x.1.n) iT.cs (@List.nil Value))) [] q=Cs.eff (λ(p:Nat)=>cond (Nat.ble (0+(x.1.i-0)) p&&Nat.blt p (0+(x.1.i-0)+(x.1.n-(x.1.i-0)))) [Value.string (ByteArray.mk #[]),Value.int .u64 0,Value.int .u64 0,Value.int .i64 0,Value.int .i64 0] (Cs.eff (λ(q_1:Nat)=>cond (Nat.blt q_1 x.1.n) (ZLnk.cs (x.1.f q_1)) (@List.nil Value)) [] p)) [] q)/\
 True) (cP (Nat.ble (x.1.i-0+(x.1.n-Int.toNat ((x.1.i:Int)+1))) (x.2-0)) ((∀k:Nat,k<x.1.n-Int.toNat ((x.1.i:Int)+1)->(Nat.beq (List.length (Cs.eff (λ(q:Nat)=>cond (Nat.blt q x.1.n) (ZLnk.cs (x.1.f q)) (@List.nil Value)) [] (0+Int.toNat ((x.1.i:Int)+1)+k))) 5&&List.all (Cs.eff (λ(q:Nat)=>cond (Nat.blt q x.1.n) (ZLnk.cs (x.1.f q)) (@List.nil Value)) [] (0+Int.toNat ((x.1.i:Int)+1)+k)) Value.oneCell')=true)/\0+(x.1.i-0+(x.1.n-Int.toNat ((x.1.i:Int)+1)))<=x.2/\True/\True/\0<=(x.1.n:Int)/\0<=((x.1.i-0+(x.1.n-Int.toNat ((x.1.i:Int)+1)):Nat):Int)/\(x.1.i-0+(x.1.n-Int.toNat ((x.1.i:Int)+1))<=x.1.n/\x.1.n<=x.2-0/\x.2-0<=x.2-0)/\0+(x.1.i-0+(x.1.n-Int.toNat ((x.1.i:Int)+1)))+(x.1.n-(x.1.i-0+(x.1.n-Int.toNat ((x.1.i:Int)+1))))<=x.2/\ ∃y:Unit,True/\(0=0/\x.1.n-1=x.1.i-0+(x.1.n-Int.toNat ((x.1.i:Int)+1))/\x.2=x.2-0)/\(x.2=x.2/\
 ∀q:Nat,q<x.2->Cs.eff (λ(q_1:Nat)=>cond (Nat.blt q_1 (x.1.n-1)) (ZLnk.cs (Jl x.1.f x.1.i q_1)) (cond (Nat.blt q_1 x.1.n) iT.cs (@List.nil Value))) [] q=Cs.eff (λ(p:Nat)=>cond (Nat.ble (0+(x.1.i-0+(x.1.n-Int.toNat ((x.1.i:Int)+1)))) p&&Nat.blt p (0+(x.1.i-0+(x.1.n-Int.toNat ((x.1.i:Int)+1)))+(x.1.n-(x.1.i-0+(x.1.n-Int.toNat ((x.1.i:Int)+1)))))) [Value.string (ByteArray.mk #[]),Value.int .u64 0,Value.int .u64 0,Value.int .i64 0,Value.int .i64 0] (Cs.eff (λ(p_1:Nat)=>cond (Nat.ble (0+(x.1.i-0)) p_1&&Nat.blt p_1 (0+(x.1.i-0)+(x.1.n-Int.toNat ((x.1.i:Int)+1)))) (Cs.eff (λ(q_1:Nat)=>cond (Nat.blt q_1 x.1.n) (ZLnk.cs (x.1.f q_1)) (@List.nil Value)) [] (0+Int.toNat ((x.1.i:Int)+1)+(p_1-(0+(x.1.i-0))))) (Cs.eff (λ(q_1:Nat)=>cond (Nat.blt q_1 x.1.n) (ZLnk.cs (x.1.f q_1)) (@List.nil Value)) [] p_1)) [] p)) [] q)/\True) ((2*(x.1.i-0+(x.1.n-Int.toNat ((x.1.i:Int)+1)))+1000)*48<=281474976710656/\True/\True/\0<=(x.1.n:Int)/\0<=((x.1.i-0+(x.1.n-Int.toNat ((x.1.i:Int)+1)):Nat):Int)/\(x.1.i-0+(x.1.n-Int.toNat ((x.1.i:Int)+1))<=x.1.n/\x.1.n<=x.1.i-0+(x.1.n-Int.toNat ((x.1.i:Int)+1))/\x.1.i-0+(x.1.n-Int.toNat ((x.1.i:Int)+1))<=x.1.i-0+(x.1.n-Int.toNat ((x.1.i:Int)+1)))/\0+(x.1.i-0+(x.1.n-Int.toNat ((x.1.i:Int)+1)))+(x.1.n-(x.1.i-0+(x.1.n-Int.toNat ((x.1.i:Int)+1))))<=x.1.i-0+(x.1.n-Int.toNat ((x.1.i:Int)+1))/\ ∃y:Unit,True/\False/\arW x)))
theorem adH(x:ZDl×Nat):WU x=wpF Tryz.prog anh tt (noA x) 200 6 282 (adG.args x) (hO adG.k (adG.os x)) (λv h'=>eG adG.k x v h' adG.outs):=by kernel_rfl
theorem Sl(x:ZDl×Nat)(hx:x.1.i<x.1.n/\x.1.n<=x.2/\x.1.n<=300):WU x:=by
 obtain⟨⟨n,f,i⟩,c⟩:=x;obtain⟨h1,h2,h3⟩:=hx;dsimp only at h1 h2 h3;unfold WU;simp only[arW];have e2:((i:Int)+1).toNat=i+1:=by omega
 simp only[aZ,aV,aU,aA,aI,bQ,bF,aO,aK,ay,aX,aW,aN,e2];have hb: ∀a b:Nat,a<=b->Nat.ble a b=true:=λa b h=>by simpa using h
 simp only[Cs.eff];refine⟨by omega,by omega,by omega,⟨by omega,by omega,by omega⟩,bf (λh=> ?_) λ_=>⟨by omega,⟨by omega,by omega,by omega⟩,by omega,⟨by omega,by omega,by omega⟩,by omega,by omega,bf (λh=> ?_) λh=>bf (λ_=> ?_) λhb2=> ?_⟩⟩
 ·exact absurd (eq_of_beq h) (by omega)
 ·have hn:n=i+1:=by have:=au h;omega
  subst hn;refine⟨by omega,by omega,⟨by omega,by omega,by omega⟩,by omega,by omega,λq hq=> ?_⟩;by_cases h1:q<i
  ·rw[bg.2 (show q<i+1-1 by omega),Jk (show¬i<=q by omega),bg.2 (show q<i+1 by omega)]
   unfold Jl;rw[bg.2 h1];rfl
  ·by_cases h2:q=i
   ·rw[ji (show¬q<i+1-1 by omega),hb _ _ (show i<=q by omega),bg.2 (show q<i+1 by omega),bg.2 (show q<i+(i+1-i) by omega)];rfl
   ·rw[ji (show¬q<i+1-1 by omega),ji (show¬q<i+1 by omega),ji (show¬q<i+(i+1-i) by omega),hb _ _ (show i<=q by omega)];rfl
 ·have hlt:i+1<n:=by
   rcases Nat.lt_or_ge (i+1) n with g|g
   ·exact g
   ·have:n-(i+1)=0:=by omega
    rw[this]at h;cases h
  refine⟨λk hk=> ?_,by omega,by omega,by omega,⟨by omega,by omega,by omega⟩,by omega,by omega,λq hq=> ?_⟩
  ·rw[bg.2 (show i+1+k<n by omega)];rfl
  ·by_cases h1:q<n-1
   ·rw[bg.2 h1,Jk (show¬i+(n-(i+1))<=q by omega)]
    by_cases h4:q<i
    ·rw[Jk (show¬i<=q by omega),bg.2 (show q<n by omega)]
     unfold Jl;rw[bg.2 h4];rfl
    ·rw[hb _ _ (show i<=q by omega),bg.2 (show q<i+(n-(i+1)) by omega),bg.2 (show i+1+(q-i)<n by omega),show i+1+(q-i)=q+1 by omega]
     unfold Jl;rw[ji h4];rfl
   ·by_cases h4:q<n
    ·rw[ji h1,bg.2 h4,hb _ _ (show i+(n-(i+1))<=q by omega),bg.2 (show q<i+(n-(i+1))+(n-(i+(n-(i+1)))) by omega)];rfl
    ·rw[ji h1,ji h4,hb _ _ (show i+(n-(i+1))<=q by omega),ji (show¬q<i+(n-(i+1))+(n-(i+(n-(i+1)))) by omega),hb _ _ (show i<=q by omega),ji (show¬q<i+(n-(i+1)) by omega)];rfl
 ·exact absurd (Nat.ble_eq_true_of_le (show i+(n-(i+1))<=c by omega)) (by rw[hb2];decide)
theorem ank:bY Tryz.prog 282 adG:=dL dD mixed Lr noA 200 6 (λ_=>rfl) (λ_=>rfl) λx hx=>Eq.mp (adH x) (Sl x (aZ.1 hx))
theorem arX(x:ZDl)(c:Nat): ∀q,q<x.n-1->(bif Nat.blt q (x.n-1)then(Jl x.f x.i q).cs else bif Nat.blt q x.n then iT.cs else [])=(Jl x.f x.i q).cs:=λq hq=>by rw[bg.2 hq];rfl
theorem arY:bY Tryz.prog 282 delLC:=λx hx=>⟨rfl,by
 have hx:=aZ.1 hx;refine Bl (Qg (k:=1) (e:=41) (g:=λk=>(x.f k).cs) (wr:=[]) (os:=[]) rfl λc hc=> ?_);refine((ank (x,c) (aZ.2 ⟨hx.1,hc,hx.2⟩)).2).mono λv h' hh=> ?_
 refine⟨.slW 1 0 5 (x.n-1),hO 2 [.abs CB,zT (x.n-1) (Jl x.f x.i)],?_,by with_unfolding_all exact Or.inl ⟨(),trivial,rfl,rfl⟩⟩;have hh:(∃y:Unit,True/\v= .slE 0 0 5 (x.n-1) c/\h'=hO 1 [.room 41 (cutD x c)])\/False:=by
  with_unfolding_all exact hh
 rcases hh with ⟨_,h1,rfl,rfl⟩|hh
 ·refine(Qe (k:=1) (rest:=[]) rfl (show x.n-1<=c by omega)).trans ?_
  refine uQ (m:=2) rfl rfl (by decide) λi o o' hi hi'=> ?_
  match i,hi,hi' with
  |0,hi,hi'=>cases hi;cases hi';exactλ_ _ _ _ _ h=>h
  |1,hi,hi'=>cases hi;cases hi';exact Es (arX x c)
 ·exact hh.elim⟩
def Ls(s:ByteArray):Prop:=
 ∃x:ByteArray,x.size<1099511627776/\(x=s/\True)/\True/\ ∀y:Unit,True->((8:Int)=0->False)/\I64 (Int.tmod (oN x) (8:Int))/\ ∃y_1:Unit,True/\((bkt s:Nat):Int)=Int.tmod (oN x) (8:Int)/\True
theorem WV(s:ByteArray):Ls s=wpF Tryz.prog arR tt (noA s) 200 5 183 (Fp.args s) (hO 0 (Fp.os s)) (λv h'=>eG 0 s v h' Fp.outs):=by kernel_rfl
def WW(s:ByteArray):Prop:=
 ∃x:ByteArray,x.size<1099511627776/\(x=s/\True)/\True/\ ∀y:Unit,True->I64 (31:Int)/\(0:Int)<=31/\cP (BEq.beq (IntKind.wrap .u32 ((@BitVec.toNat 32 (@HAnd.hAnd (@BitVec 32) (@BitVec 32) (@BitVec 32) (@instHAndOfAndOp (@BitVec 32) (@BitVec.instAndOp 32)) (@BitVec.ofInt 32 (Int.fdiv (oN x) (2147483648:Int))) (@BitVec.ofInt 32 (1:Int))):Nat):Int)) (0:Int)) ((∃y_1:Unit,Hd (lvl s=1)/\(1:Int)=1/\True)\/(∃y_1:Unit,Hd (lvl s=2)/\(2:Int)=1/\True)\/(∃y_1:Unit,Hd (lvl s=3)/\(3:Int)=1/\True)\/ ∃y_1:Unit,Hd (lvl s=4)/\(4:Int)=1/\True) (I64 (2:Int)/\I64 (1:Int)/\I64 (30:Int)/\(0:Int)<=30/\cP (BEq.beq (IntKind.wrap .u32 ((@BitVec.toNat 32 (@HAnd.hAnd (@BitVec 32) (@BitVec 32) (@BitVec 32) (@instHAndOfAndOp (@BitVec 32) (@BitVec.instAndOp 32)) (@BitVec.ofInt 32 (Int.fdiv (oN x) (1073741824:Int))) (@BitVec.ofInt 32 (1:Int))):Nat):Int)) (0:Int)) ((∃y_1:Unit,Hd (lvl s=1)/\(1:Int)=2/\True)\/(∃y_1:Unit,Hd (lvl s=2)/\(2:Int)=2/\True)\/(∃y_1:Unit,Hd (lvl s=3)/\(3:Int)=2/\True)\/ ∃y_1:Unit,Hd (lvl s=4)/\(4:Int)=2/\True) (I64 (3:Int)/\I64 (2:Int)/\I64 (29:Int)/\(0:Int)<=29/\cP (BEq.beq (IntKind.wrap .u32 ((@BitVec.toNat 32 (@HAnd.hAnd (@BitVec 32) (@BitVec 32) (@BitVec 32) (@instHAndOfAndOp (@BitVec 32) (@BitVec.instAndOp 32)) (@BitVec.ofInt 32 (Int.fdiv (oN x) (536870912:Int))) (@BitVec.ofInt 32 (1:Int))):Nat):Int)) (0:Int)) ((∃y_1:Unit,Hd (lvl s=1)/\(1:Int)=3/\True)\/(∃y_1:Unit,Hd (lvl s=2)/\(2:Int)=3/\True)\/(∃y_1:Unit,Hd (lvl s=3)/\(3:Int)=3/\True)\/ ∃y_1:Unit,Hd (lvl s=4)/\(4:Int)=3/\True) (I64 (4:Int)/\I64 (3:Int)/\((∃y_1:Unit,Hd (lvl s=1)/\
 (1:Int)=4/\True)\/(∃y_1:Unit,Hd (lvl s=2)/\(2:Int)=4/\True)\/(∃y_1:Unit,Hd (lvl s=3)/\(3:Int)=4/\True)\/ ∃y_1:Unit,Hd (lvl s=4)/\(4:Int)=4/\True))))
theorem adI(s:ByteArray):WW s=wpF Tryz.prog arR tt (noA s) 200 5 279 (aa0.args s) (hO 0 (aa0.os s)) (λv h'=>eG 0 s v h' aa0.outs):=by kernel_rfl
theorem aa8:dY Tryz.prog arR:= .cons (bM aqL) .nil
theorem Lu(s:ByteArray)(hs:s.size<1099511627776):Ls s:=by
 obtain⟨u1,u2⟩:=aqK s;have e:(oN s).tmod 8=oN s%8:=Int.tmod_eq_emod_of_nonneg u1;unfold Ls;simp only[aZ,aV,aU,aA,aI,bQ,bF,aO,aK,ay,aX,aW,bT,bG,bH,bI,bU,bC,bJ,bn,eH,aH,aN,ah,ak,aB,aF,aC,aG];refine⟨s,hs,rfl,by decide,?_,?_⟩
 ·rw[e];unfold I64;omega
 ·rw[apo,e];omega
theorem Sm(s:ByteArray)(hs:s.size<1099511627776):WW s:=by
 have i: ∀z:Int,0<=z->z<=100->I64 z:=λz a b=>by unfold I64;omega
 unfold WW;simp only[aZ,aV,aU,aA,aI,bQ,bF,aO,aK,ay,aX,aW,bT,bG,bH,bI,bU,bC,bJ,bn,eH,aH,aN,ah,ak,aB,aF,aC,aG];refine⟨s,hs,rfl,i _ (by decide) (by decide),by decide,bf (λh=> .inl ?_) λh1=>⟨i _ (by decide) (by decide),i _ (by decide) (by decide),i _ (by decide) (by decide),by decide,bf (λh=> .inr (.inl ?_)) λh2=>⟨i _ (by decide) (by decide),i _ (by decide) (by decide),i _ (by decide) (by decide),by decide,bf (λh=> .inr (.inr (.inl ?_))) λh3=>⟨i _ (by decide) (by decide),i _ (by decide) (by decide),.inr (.inr (.inr ?_))⟩⟩⟩⟩
 ·rw[RX];unfold arQ;exact if_pos h
 ·rw[RX];unfold arQ;rw[if_neg (by rw[show am8 (oN s) 2147483648=false from h1];decide)];exact if_pos h
 ·rw[RX];unfold arQ;rw[if_neg (by rw[show am8 (oN s) 2147483648=false from h1];decide),if_neg (by rw[show am8 (oN s) 1073741824=false from h2];decide)];exact if_pos h
 ·rw[RX];unfold arQ;rw[if_neg (by rw[show am8 (oN s) 2147483648=false from h1];decide),if_neg (by rw[show am8 (oN s) 1073741824=false from h2];decide)];exact if_neg (by rw[show am8 (oN s) 536870912=false from h3];decide)
theorem Sr:bY Tryz.prog 183 Fp:=dL dD mixed aa8 noA 200 5 (λ_=>rfl) (λ_=>rfl) λx hx=>Eq.mp (WV x) (Lu x (aZ.1 hx))
theorem anl:bY Tryz.prog 279 aa0:=jf dD mixed aa8 noA 200 5 (λ_=>rfl) (λ_=>⟨λ_=>rfl,λ_=>rfl,λ_=>rfl,λ_=>rfl,trivial⟩) λx hx=>Eq.mp (adI x) (Sm x (aZ.1 hx))
structure aiT (X:Type) where
 Y:Type
 post:X->Y->Prop
 ret:X->Y->AV
 L:X->Y->Lks
 m:Nat
 ex:X->Y->List dA
structure aeR where
 X:Type
 args:X->List AV
 L:X->Lks
 pre:X->Prop
 outs:List (aiT X)
noncomputable def aiT.po{X:Type}(L0:X->Lks)(o:aiT X):acw (X×iZ):={Y:=o.Y×iZ,post:=λx y=>o.post x.1 y.1/\Hd (lV (o.L x.1 y.1) y.2),ret:=λx y=>o.ret x.1 y.1,m:=o.m,l:=λx y=> .m (RY y.2)::(o.ex x.1 y.1).map PO.o}
noncomputable def aiT.out{X:Type}(o:aiT X):Out X:={Y:=o.Y,post:=o.post,ret:=o.ret,m:=o.m,os:=λx y=> .abs (tabA (o.L x y))::o.ex x y}
noncomputable def aeR.E(C:aeR):jg:={X:=C.X×iZ,args:=λx=>C.args x.1,k:=1,l:=λx=>[.m (RY x.2)],pre:=λx=>C.pre x.1/\Hd (lV (C.L x.1) x.2),outs:=C.outs.map (aiT.po C.L)}
noncomputable def aeR.C(C:aeR):Ctr:={X:=C.X,args:=C.args,k:=1,os:=λx=>[.abs (tabA (C.L x))],pre:=C.pre,outs:=C.outs.map aiT.out}
theorem aa9{L:Lks}{t:iZ}(h:lV L t){w:World}{a:SE.Loc}{S:Nat->Prop}(ho:(ownM (RY t)).holds w a S):(tabA L).holds w a S:=by
 rw[oM]at ho;rw[aiJ];obtain⟨h0,ρ,e,r⟩:=ho;exact⟨h0,ρ,⟨t,h,e⟩,r⟩
theorem anm{L:Lks}{w:World}{a:SE.Loc}{S:Nat->Prop}(ho:(tabA L).holds w a S): ∃t,lV L t/\(ownM (RY t)).holds w a S:=by
 rw[aiJ]at ho;obtain⟨h0,ρ,⟨t,h,e⟩,r⟩:=ho;exact⟨t,h,by rw[oM];exact⟨h0,ρ,e,r⟩⟩
theorem zV{n:Nat}{o o':dA}{os:List dA}(hn:n=os.length+1): ∀j,((hO n (o::os)).set 0 o').get j=(hO n (o'::os)).get j:=λj=>by
 subst hn;rw[Heap.dO,jO (n:=os.length+1) (os:=o::os) (by simp),jO (n:=os.length+1) (os:=o'::os) (by simp)];cases j with
 |zero=>simp
 |succ j=>simp
theorem Sv{X:Type}{L0:X->Lks}{x:X}{t:iZ}{v:AV}{h':Heap}: ∀{l:List (aiT X)},(∀o∈l,∀x y,(o.ex x y).length+1=o.m)->kU (x,t) v h' ((l.map (aiT.po L0)).map acw.out)-> ∃v0 h0,Leq 1 v h' v0 h0/\kU x v0 h0 (l.map aiT.out)
 |[],_,h=>by simp only[List.map_nil]at h;rw[yM]at h;exact h.elim
 |o::l,hl,h=>by
  simp only[List.map_cons]at h ⊢;rw[dU]at h;rcases h with ⟨y,h1,rfl,rfl⟩|h
  ·have hlen:=hl o (by simp) x y.1
   have hT:lV (o.L x y.1) y.2:=aZ.1 h1.2;refine⟨_,hO o.m (.abs (tabA (o.L x y.1))::o.ex x y.1),⟨?_,λρ T w u hR hv=>⟨ρ,λ_ _=>rfl,?_,hv⟩⟩,by rw[dU];exact .inl ⟨y.1,h1.1,rfl,rfl⟩⟩
   ·show 1<=o.m;omega
   ·have hm:((o.ex x y.1).map PO.o).map PO.ab=o.ex x y.1:=by rw[List.map_map];exact(List.map_id _)
    have hR:Rel (hO o.m (.abs (ownM (RY y.2))::o.ex x y.1)) ρ T w:=by
     have e:(acw.out (aiT.po L0 o)).os (x,t) y= .abs (ownM (RY y.2))::o.ex x y.1:=by
      show PO.ab (.m (RY y.2))::((o.ex x y.1).map PO.o).map PO.ab=_;rw[hm];rfl
     rw[<-e];exact hR
    have h2:=hR.swap (i:=0) (o:= .abs (ownM (RY y.2))) (o':= .abs (tabA (o.L x y.1))) (by rw[jO (by simp only[List.length_cons];omega)];rfl) λa S ho=>aa9 hT ho
    exact h2.less (by simp;exact aY _) λj x hj=>by rw[zV (by omega)];exact hj
  ·obtain⟨v0,h0,g1,g2⟩:=Sv (l:=l) (λp hp=>hl p (List.mem_cons_of_mem _ hp)) h
   exact⟨v0,h0,g1,by rw[dU];exact .inr g2⟩
theorem Jm{Z:Type}{h:Heap}{ρ:SE.Ren}{T:Nat->Prop}{w:World}{i:Nat}{o:dA}{o':Z->dA}(hi:h.get i=some o)(hh: ∀a S,dG ρ w T a S o-> ∃z,dG ρ w T a S (o' z))(hR:Rel h ρ T w): ∃z,Rel (h.set i (o' z)) ρ T w:=by
 obtain⟨S,h1,h2,h3,h4,h5⟩:=hR;obtain⟨a,ha,ho⟩:=h1 i o hi;obtain⟨z,hz⟩:=hh a _ ho;have get: ∀j x,(h.set i (o' z)).get j=some x-> ∃y,h.get j=some y:=λj x hj=>by
  rw[Heap.dO]at hj;by_cases hji:j=i
  ·exact⟨o,hji▸hi⟩
  ·rw[if_neg hji]at hj;exact⟨x,hj⟩
 refine⟨z,S,λj x hj=> ?_,λj k x y b hj hk hjk=> ?_,λj x b hj hS=> ?_,λj hj=>h4 j (by simpa using hj),h5⟩
 ·rw[Heap.dO]at hj
  by_cases hji:j=i
  ·subst hji
   rw[if_pos rfl]at hj;cases hj;exact⟨a,ha,hz⟩
  ·rw[if_neg hji]at hj
   exact h1 j x hj
 ·obtain⟨x',hx'⟩:=get j x hj
  obtain⟨y',hy'⟩:=get k y hk;exact h2 j k x' y' b hx' hy' hjk
 ·obtain⟨x',hx'⟩:=get j x hj
  exact h3 j x' b hx' hS
theorem FB{P:Program}{f:FuncId}{C:aeR}(hc:nZ P f)(hl: ∀o∈C.outs,∀x y,(o.ex x y).length+1=o.m)(hE:bY P f C.E.ctr):bY P f C.C:=λx hp=>by
 refine⟨rfl,hc,λρ T w vs hR hl2=> ?_⟩;obtain⟨t,hR2⟩:=Jm (i:=0) (o:= .abs (tabA (C.L x))) (o':=λt:{t:iZ//lV (C.L x) t}=> .abs (ownM (RY t.1))) rfl (λa S ho=>by obtain⟨t,h1,h2⟩:=anm ho;exact⟨⟨t,h1⟩,h2⟩) hR;obtain⟨t,ht⟩:=t;have hR3:Rel (hO 1 [.abs (ownM (RY t))]) ρ T w:=hR2.less (aY _) λj y hj=>by
  have:=zV (n:=1) (o:= .abs (tabA (C.L x))) (o':= .abs (ownM (RY t))) (os:=[]) rfl j;exact this.trans hj
 obtain⟨_,hs⟩:=hE (x,t) ⟨hp,aZ.2 ht⟩;refine(hs.2 ρ T w vs hR3 hl2).mono ?_
 rintro e w' ⟨ρ2,v,u,h',c1,c2,c3,c4,c5,c6,c7⟩
 obtain⟨v0,h0,g1,g2⟩:=Sv hl c7;obtain⟨ρ3,q1,q2,q3⟩:=g1.2 ρ2 T w' u c3 c4;exact⟨ρ3,v0,u,h0,λi hi=>(q1 i hi).trans (c1 i hi),g1.1,q2,q3,c5,c6,g2⟩
theorem ano{w:World}{a:SE.Loc}{S:Nat->Prop}:CB.holds w a S:=by rw[agp];trivial
theorem aiU{P:Program}{f:FuncId}{k m n:Nat}{z:Bool}{e:TypeId}{c:Cs}{rest:List AV}{os:List dA}{K:AV->Heap->Prop}(hk:os.length+1=k)(hc:nZ P f)
  (hN:z=true->n=0->Sp P f (ig::rest) (hO k (.abs CB::os)) K) (hW:z=false->Sp P f (.slW 0 0 m n::rest) (hO k (.room e c::os)) K):
  Sp P f (.slV z 0 m n::rest) (hO k (.gX z e c::os)) K:=by
 refine⟨hc,λρ T w vs hR hl=> ?_⟩;have sw: ∀o',(∀a S,dG ρ w T a S (.gX z e c)->dG ρ w T a S o')->Rel (hO k (o'::os)) ρ T w:=λo' ho=>by
  have h2:=hR.swap (i:=0) (o:= .gX z e c) (o':=o') (by rw[jO (by simp;omega)];rfl) ho;exact h2.less (by simp;exact aY _) λj x hj=>by rw[zV (by omega)];exact hj
 obtain⟨v,vl,hv,h1,h2⟩:=hl;cases z with
 |false=>
  refine(hW rfl).2 ρ T w vs (sw _ λa S h=> ?_) ⟨v,vl,hv,?_,h2⟩
  ·rcases h with ⟨h,_⟩|⟨_,h⟩
   ·cases h
   ·exact h
  ·rcases h1 with ⟨h,_⟩|⟨_,a,p,c',g1,g2,g3,g4⟩
   ·cases h
   ·exact⟨a,p,c',g1,g2,g3,λhc'=>by obtain⟨g5,g6⟩:=g4 hc';exact⟨by omega,by omega⟩⟩
 |true=>
  rcases h1 with ⟨_,hn,hv'⟩|⟨h,_⟩
  ·exact(hN rfl hn).2 ρ T w vs (sw _ λa S _=>ano) ⟨v,vl,hv,hv',h2⟩
  ·cases h
noncomputable section
def Jo:Ctr:=det ZLnk (λ_=>[ig,i64 0,.sl 1 0 1 1]) 2 (λl=>[.abs CB,rV l]) (λ_=>True) (λ_=> .slW 2 0 5 1) 3 (λl=>[.abs CB,rV l,zT 1 (λ_=>l)])
structure ZIz where
 z:Bool
 L:Lks
 i:Nat
 l:ZLnk
def nthL(L:Lks)(q:Nat):ZLnk:=L.getD q iT
def wC(z:Bool)(L:Lks):dA:= .gX z 41 (.row 5 L.length (λq=>(nthL L q).cs) [])
def insV:Ctr:=det ZIz (λx=>[.slV x.z 0 5 x.L.length,i64 x.i,.sl 1 0 1 1]) 2 (λx=>[wC x.z x.L,rV x.l]) (λx=>Hd (x.i<=x.L.length/\x.L.length<=300)) (λx=> .slW 2 0 5 (x.L.length+1)) 3 (λx=>[.abs CB,rV x.l,zT (x.L.length+1) (insL (nthL x.L) x.i x.l)])
structure ZDz where
 z:Bool
 L:Lks
 i:Nat
def delV:Ctr:=det ZDz (λx=>[.slV x.z 0 5 x.L.length,i64 x.i,i64 ((x.i:Int)+1)]) 1 (λx=>[wC x.z x.L]) (λx=>Hd (x.i<x.L.length/\x.L.length<=300)) (λx=> .slW 1 0 5 (x.L.length-1)) 2 (λx=>[.abs CB,zT (x.L.length-1) (Jl (nthL x.L) x.i)])
end
def LC(x:ZLnk):Prop:=
 (0:Int)<=0/\(0<=0/\0<=0/\0<=0)/\(2*(0+1)+1000)*48<=281474976710656/\ ∃y:Unit,True/\(0=0/\1=1)/\CB=CB/\(x.key=x.key/\x.id=x.id/\x.ver=x.ver/\x.line=x.line/\x.cls=x.cls/\True)/\(1=0+List.length [List.take 5 [Value.string x.key,Value.int .u64 x.id,Value.int .u64 x.ver,Value.int .i64 x.line,Value.int .i64 x.cls]]/\ ∀q:Nat,q<1->[Value.string x.key,Value.int .u64 x.id,Value.int .u64 x.ver,Value.int .i64 x.line,Value.int .i64 x.cls]=Cs.eff (λ(x_1:Nat)=>[]) [(0,List.take 5 [Value.string x.key,Value.int .u64 x.id,Value.int .u64 x.ver,Value.int .i64 x.line,Value.int .i64 x.cls])] q)/\True
theorem WX(x:ZLnk):LC x=wpF Tryz.prog anh tt (noA x) 200 6 281 (Jo.args x) (hO Jo.k (Jo.os x)) (λv h'=>eG Jo.k x v h' Jo.outs):=by kernel_rfl
theorem LD(x:ZLnk):LC x:=by
 unfold LC;simp only[aZ,aV,aU,aA,aI,bQ,bF,aO,aK,ay,aX,aW];refine⟨by omega,by omega,by omega,rfl,λq hq=> ?_⟩;obtain rfl:q=0:=by omega
 rfl
theorem aiV:bY Tryz.prog 281 Jo:=dL dD mixed Lr noA 200 6 (λ_=>rfl) (λ_=>rfl) λx _=>Eq.mp (WX x) (LD x)
theorem arZ:bY Tryz.prog 281 insV:=λx hx=>⟨rfl,by
 have hx:=aZ.1 hx;refine aiU (k:=2) (os:=[rV x.l]) rfl ⟨Tryz.f281,by kernel_rfl,by kernel_rfl,by kernel_rfl⟩ (λhz hn=> ?_) λhz=> ?_
 ·have hi:x.i=0:=by omega
  rw[hi];refine Bl (((aiV x.l trivial).2).mono λv h' hh=> ?_);refine⟨.slW 2 0 5 (x.L.length+1),hO 3 [.abs CB,rV x.l,zT (x.L.length+1) (insL (nthL x.L) x.i x.l)],?_,by with_unfolding_all exact Or.inl ⟨(),trivial,rfl,rfl⟩⟩;have hh:(∃y:Unit,True/\v= .slW 2 0 5 1/\h'=hO 3 [.abs CB,rV x.l,zT 1 (λ_=>x.l)])\/False:=by
   with_unfolding_all exact hh
  rcases hh with ⟨_,_,rfl,rfl⟩|hh
  ·rw[hn]
   refine uQ (m:=3) rfl rfl (show(2:Nat)<=3 by decide) λi o o' hi' ar0=> ?_
   match i,hi',ar0 with
   |0,hi',ar0=>cases hi';cases ar0;exactλ_ _ _ _ _ h=>h
   |1,hi',ar0=>cases hi';cases ar0;exactλ_ _ _ _ _ h=>h
   |2,hi',ar0=>cases hi';cases ar0;exact Es (λq hq=>by(obtain rfl:q=0:=by omega);rw[hi,rW])
  ·exact hh.elim
 ·exact((arV ⟨x.L.length,nthL x.L,x.i,x.l⟩ (aZ.2 hx)).2).mono λv h' hh=>by with_unfolding_all exact hh⟩
theorem ar1:bY Tryz.prog 282 delV:=λx hx=>⟨rfl,by
 have hx:=aZ.1 hx;refine aiU (k:=1) (os:=[]) rfl ⟨Tryz.f282,by kernel_rfl,by kernel_rfl,by kernel_rfl⟩ (λhz hn=> ?_) λhz=> ?_
 ·exact absurd hx.1 (by omega)
 ·exact((arY ⟨x.L.length,nthL x.L,x.i⟩ (aZ.2 hx)).2).mono λv h' hh=>by with_unfolding_all exact hh⟩
noncomputable section
def aps(b:Nat):Ctr:=det ByteArray (λs=>[.lit (.string s)]) 0 (λ_=>[]) (λs=>Hd (s.size<1099511627776/\lvl s=b)) (λ_=>i64 b) 0 (λ_=>[])
structure ZOd where
 z:Nat->Bool
 V:Nat->Lks
def LG(x:ZOd):List dA:=[.cells 255 (.av [.slV (x.z 0) 1 5 (x.V 0).length,.slV (x.z 1) 2 5 (x.V 1).length,.slV (x.z 2) 3 5 (x.V 2).length,.slV (x.z 3) 4 5 (x.V 3).length]),wC (x.z 0) (x.V 0),wC (x.z 1) (x.V 1),wC (x.z 2) (x.V 2),wC (x.z 3) (x.V 3)]
structure ZOs where
 o:ZOd
 l:ZLnk
structure ZOk where
 o:ZOd
 s:ByteArray
def ZOd.good(x:ZOd):Prop:= ∀k,k<4->srt (x.V k)/\(x.V k).length<=300/\(x.z k=true->x.V k=[])
def abb(b:Nat):jg:={X:=ZOs,args:=λx=>[.ptr 0 0,x.l.av],k:=1,l:=λx=>[.m (LG x.o)],pre:=λx=>Hd (x.l.key.size<1099511627776/\lvl x.l.key=b/\x.o.good),outs:=[
 {Y:=ZOd,post:=λx y=>Hd (∀k,k<4->(y.V k=if k<b then jy (x.o.V k) x.l else x.o.V k)/\(y.z k=true->y.V k=[])),ret:=λx _=>boo (gI (x.o.V (b-1)) x.l.key).isSome,m:=1,l:=λ_ y=>[.m (LG y)]}]}
def LH(b:Nat):jg:={X:=ZOk,args:=λx=>[.ptr 0 0,.lit (.string x.s)],k:=1,l:=λx=>[.m (LG x.o)],pre:=λx=>Hd (x.s.size<1099511627776/\lvl x.s=b/\x.o.good),outs:=[
 {Y:=ZOd,post:=λx y=>Hd (∀k,k<4->(y.V k=if k<b then fU (x.o.V k) x.s else x.o.V k)/\(y.z k=true->y.V k=[])),ret:=λx _=>boo ((List.range b).any λk=>(gI (x.o.V k) x.s).isSome),m:=1,l:=λ_ y=>[.m (LG y)]}]}
def ar2(b:Nat):jv:=[(279,ctrT (aps b)),(280,ctrT aur),(281,ctrT insV),(282,ctrT delV)]
end
theorem FC{x:ZLnk}{L:Lks}{s:ByteArray}:uY (x::L) s=if kl x.key s=true then uY L s+1 else 0:=by
 unfold uY;rw[List.findIdx_cons];cases kl x.key s<;>rfl
theorem yX{x:ZLnk}{L:Lks}{q:Nat}:nthL (x::L) (q+1)=nthL L q:=rfl
theorem auv{f:Nat->ZLnk}{x:ZLnk}{q:Nat}:insL f 0 x (q+1)=f q:=by rw[Fz (Nat.succ_pos q)];rfl
theorem auw{f:Nat->ZLnk}{i:Nat}{x:ZLnk}{q:Nat}:insL f (i+1) x (q+1)=insL (λj=>f (j+1)) i x q:=by
 rcases Nat.lt_trichotomy q i with h|h|h
 ·rw[zU (by omega),zU h]
 ·subst h;rw[rW,rW]
 ·rw[Fz (by omega),Fz h,show q+1-1=q-1+1 by omega]
theorem auy{f:Nat->ZLnk}{q:Nat}:Jl f 0 q=f (q+1):=by unfold Jl;rw[ji (Nat.not_lt_zero q)];rfl
theorem auz{f:Nat->ZLnk}{i q:Nat}:Jl f (i+1) (q+1)=Jl (λj=>f (j+1)) i q:=by
 unfold Jl;by_cases h:q<i
 ·rw[bg.2 h,bg.2 (show q+1<i+1 by omega)]
 ·rw[ji h,ji (show¬q+1<i+1 by omega)]
theorem kC{x:ZLnk}{L:Lks}{s:ByteArray}:gI (x::L) s=if x.key=s then some x else gI L s:=by
 unfold gI;rw[List.find?_cons];by_cases h:x.key=s
 ·rw[decide_eq_true h,if_pos h]
 ·rw[decide_eq_false h,if_neg h]
theorem LJ{x:ZLnk}{L:Lks}(h:srt (x::L)):srt L:=(List.pairwise_cons.1 h).2
theorem Jp: ∀{L:Lks} {l:ZLnk},srt L->(gI L l.key).isSome=true->uY L l.key<L.length/\(jy L l).length=L.length/\ ∀q,nthL (jy L l) q=if q=uY L l.key then l else nthL L q
 |[],_,_,h=>by cases h
 |x::L,l,hs,h=>by
  rw[FC];unfold jy;by_cases hx:x.key=l.key
  ·rw[hx,oD,if_neg (by decide),if_pos rfl]
   refine⟨Nat.succ_pos _,rfl,λq=> ?_⟩;cases q with
   |zero=>rw[if_pos rfl];rfl
   |succ q=>rw[if_neg (by omega)];rfl
  ·rw[kC,if_neg hx]at h
   obtain⟨y,hy⟩:=Option.isSome_iff_exists.1 h;obtain⟨hy1,hy2⟩:=oG hy;have hk:kl x.key l.key=true:=by rw[<-hy2];exact(List.pairwise_cons.1 hs).1 y hy1
   obtain⟨i1,i2,i3⟩:=Jp (LJ hs) h;rw[if_pos hk,if_neg hx,if_neg (by rw[WQ hk];decide)];refine⟨by simp only[List.length_cons];omega,by simp only[List.length_cons,i2],λq=> ?_⟩;cases q with
   |zero=>rw[if_neg (by omega)];rfl
   |succ q=>
    rw[yX,yX,i3 q];by_cases hq:q=uY L l.key
    ·rw[if_pos hq,if_pos (by omega)]
    ·rw[if_neg hq,if_neg (by omega)]
theorem abd: ∀{L:Lks} {l:ZLnk},srt L->(gI L l.key).isSome=false->uY L l.key<=L.length/\(jy L l).length=L.length+1/\ ∀q,q<L.length+1->nthL (jy L l) q=insL (nthL L) (uY L l.key) l q
 |[],l,_,_=>⟨aY _,rfl,λq hq=>by have h0:q=0:=Nat.lt_one_iff.1 hq;subst h0;exact rW.symm⟩
 |x::L,l,hs,h=>by
  rw[FC];unfold jy;have hx:x.key≠l.key:=λe=>by rw[kC,if_pos e]at h;cases h
  rw[kC,if_neg hx]at h;rw[if_neg hx];cases hk:kl x.key l.key with
  |true=>
   obtain⟨i1,i2,i3⟩:=abd (LJ hs) h;rw[if_pos rfl,if_neg (by rw[WQ hk];decide)];refine⟨by simp only[List.length_cons];omega,by simp only[List.length_cons,i2],λq hq=> ?_⟩;cases q with
   |zero=>rw[zU (Nat.succ_pos _)];rfl
   |succ q=>rw[yX,i3 q (by simp only[List.length_cons]at hq;omega),auw];rfl
  |false=>
   have hk2:kl l.key x.key=true:=by
    cases hk2:kl l.key x.key
    ·exact absurd (aa2 hk hk2) hx
    ·rfl
   rw[if_neg (by decide),if_pos hk2];refine⟨Nat.zero_le _,rfl,λq _=> ?_⟩;cases q with
   |zero=>rw[rW];rfl
   |succ q=>rw[auv];rfl
theorem zW: ∀{L:Lks} {s:ByteArray},(gI L s).isSome=false->fU L s=L
 |[],_,_=>rfl
 |x::L,s,h=>by
  have hx:x.key≠s:=λe=>by rw[kC,if_pos e]at h;cases h
  rw[kC,if_neg hx]at h;unfold fU;rw[List.filter_cons,decide_eq_false hx];show x::fU L s=x::L;rw[zW h]
theorem FD: ∀{L:Lks} {s:ByteArray},srt L->(gI L s).isSome=true->uY L s<L.length/\(fU L s).length=L.length-1/\ ∀q,nthL (fU L s) q=Jl (nthL L) (uY L s) q
 |[],_,_,h=>by cases h
 |x::L,s,hs,h=>by
  rw[FC];by_cases hx:x.key=s
  ·have hn:(gI L s).isSome=false:=by
    rw[yV λy hy e=> ?_]
    ·rfl
    ·have:=(List.pairwise_cons.1 hs).1 y hy
     rw[hx,e,oD]at this;cases this
   have e:fU (x::L) s=L:=by
    unfold fU;rw[List.filter_cons,decide_eq_true hx];exact zW hn
   rw[e,hx,oD,if_neg (by decide)];exact⟨Nat.succ_pos _,rfl,λq=>by rw[auy];rfl⟩
  ·rw[kC,if_neg hx]at h
   obtain⟨y,hy⟩:=Option.isSome_iff_exists.1 h;obtain⟨hy1,hy2⟩:=oG hy;have hk:kl x.key s=true:=by rw[<-hy2];exact(List.pairwise_cons.1 hs).1 y hy1
   obtain⟨i1,i2,i3⟩:=FD (LJ hs) h;have e:fU (x::L) s=x::fU L s:=by
    unfold fU;rw[List.filter_cons,decide_eq_false hx];rfl
   rw[e,if_pos hk];refine⟨by simp only[List.length_cons];omega,by simp only[List.length_cons,i2];omega,λq=> ?_⟩;cases q with
   |zero=>unfold Jl;rw[bg.2 (Nat.succ_pos _)];rfl
   |succ q=>rw[yX,i3 q,auz];rfl
noncomputable def aiW(b:Nat):Ctr:=det ByteArray (λs=>[.lit (.string s)]) 0 (λ_=>[]) (λs=>Hd (s.size<1099511627776/\bkt s=b)) (λ_=>i64 b) 0 (λ_=>[])
theorem adJ(b:Nat):bY Tryz.prog 183 (aiW b):=jP λs hs=>by
 obtain⟨h1,h2⟩:=aZ.1 hs;refine⟨_,Sr,rfl,s,aZ.2 h1,rfl,rfl,λv h' hh=> ?_⟩;obtain⟨u,_,e2,e3⟩:=jh hh;exact Eq.mpr (dU (X:=ByteArray) s v h' _ _) (.inl ⟨(),trivial,e2.trans (by show i64 (bkt s)=i64 b;rw[h2]),e3⟩)
structure ZTkB where
 t:iZ
 s:ByteArray
noncomputable def ofC(b:Nat):Ctr:=det ZTkB (λx=>[.ptr 0 0,.lit (.string x.s)]) 9 (λx=>RY x.t) (λx=>Hd (x.s.size<1099511627776/\bkt x.s=b)) (λ_=> .mp (b+1)) 9 (λx=>RY x.t)
noncomputable def auA(b:Nat):jv:=[(183,ctrT (aiW b))]
noncomputable def aiX(b:Nat):jv:=[(277,ctrT (ofC b))]
structure H7 where
 L:Lks
 l:ZLnk
noncomputable def as3:aeR:={X:=ZTq,args:=λx=>[.ptr 0 0,.lit (.string x.s)],L:=λx=>x.L,pre:=λx=>Hd (x.s.size<1099511627776),outs:=[
 {Y:=Unit,post:=λx _=>Hd (gI x.L x.s=none),ret:=λ_ _=> .tup [iT.av,boo false],L:=λx _=>x.L,m:=1,ex:=λ_ _=>[]},
 {Y:=ZLnk,post:=λx y=>Hd (gI x.L x.s=some y),ret:=λ_ y=> .tup [y.av,boo true],L:=λx _=>x.L,m:=1,ex:=λ_ _=>[]}]}
noncomputable def anp:aeR:={X:=ZTq,args:=λx=>[.ptr 0 0,.lit (.string x.s)],L:=λx=>x.L,pre:=λx=>Hd (x.s.size<1099511627776),outs:=[
 {Y:=Unit,post:=λx _=>Hd (gI x.L x.s=none),ret:=λ_ _=> .tup [iT.av,boo false],L:=λx _=>x.L,m:=1,ex:=λ_ _=>[]},
 {Y:=ZLnk,post:=λx y=>Hd (gI x.L x.s=some y),ret:=λ_ y=> .tup [y.av,boo true],L:=λx _=>fU x.L x.s,m:=1,ex:=λ_ _=>[]}]}
noncomputable def auB:aeR:={X:=H7,args:=λx=>[.ptr 0 0,x.l.av],L:=λx=>x.L,pre:=λx=>Hd (x.l.key.size<1099511627776/\(jy x.L x.l).length<=258),outs:=[
 {Y:=Unit,post:=λ_ _=>True,ret:=λx _=>boo (gI x.L x.l.key).isSome,L:=λx _=>jy x.L x.l,m:=1,ex:=λ_ _=>[]}]}
def as4:Prop:=True/\True/\True/\True/\True/\True/\True/\True/\True
def H8(y t:iZ)(b:Nat)(m:MS):Prop:=as4/\(y 0).ms=(bif Nat.beq b 0 then m else(t 0).ms)/\(y 1).ms=(bif Nat.beq b 1 then m else(t 1).ms)/\(y 2).ms=(bif Nat.beq b 2 then m else(t 2).ms)/\(y 3).ms=(bif Nat.beq b 3 then m else(t 3).ms)/\(y 4).ms=(bif Nat.beq b 4 then m else(t 4).ms)/\(y 5).ms=(bif Nat.beq b 5 then m else(t 5).ms)/\(y 6).ms=(bif Nat.beq b 6 then m else(t 6).ms)/\(y 7).ms=(bif Nat.beq b 7 then m else(t 7).ms)/\True
def WY(y t:iZ):Prop:=as4/\(y 0).ms=(t 0).ms/\(y 1).ms=(t 1).ms/\(y 2).ms=(t 2).ms/\(y 3).ms=(t 3).ms/\(y 4).ms=(t 4).ms/\(y 5).ms=(t 5).ms/\(y 6).ms=(t 6).ms/\(y 7).ms=(t 7).ms/\True
def WZ(a l:ZLnk):Prop:=a.key=l.key/\a.id=l.id/\a.ver=l.ver/\a.line=l.line/\a.cls=l.cls/\True
def apt(m:ZMs)(s:ByteArray)(q:Nat->Prop):Prop:= ∀j:Nat,j<m.n->(m.lk j).key=s->q j
def kNo(m:ZMs)(s:ByteArray)(q:Prop):Prop:=(∀j:Nat,j<m.n->(m.lk j).key=s->False)->q
def as5(x:ZTq×iZ)(L':Lks)(l:ZLnk)(f:Bool)(q:iZ->Prop):Prop:=(∃y:Unit×iZ,(Hd (gI x.1.L x.1.s=none)/\Hd (lV x.1.L y.2))/\(WZ iT l/\false=f/\True)/\q y.2)\/ ∃y:ZLnk×iZ,(Hd (gI x.1.L x.1.s=some y.1)/\Hd (lV L' y.2))/\(WZ y.1 l/\true=f/\True)/\q y.2
noncomputable def auC(b:Nat)(x:ZTkB):Prop:= ∃s:ByteArray,Hd (s.size<1099511627776/\bkt s=b)/\(s=x.s/\True)/\True/\ ∀_:Unit,True->True/\((0:Int)<=b/\(0:Int)<=(7:Int)-b)/\ ∃_:Unit,True/\True/\WY x.t x.t
noncomputable def ofG(b:Nat)(s:ByteArray)(t:iZ)(q:iZ->Prop):Prop:= ∃y:ZTkB,Hd (y.s.size<1099511627776/\bkt y.s=b)/\(0=0/\y.s=s/\True)/\WY y.t t/\ ∀_:Unit,True->q y.t
noncomputable def auD(b:Nat)(x:ZTq×iZ):Prop:=ofG b x.1.s x.2 λt=>apt (t b) x.1.s (λj=>as5 x x.1.L ((t b).lk j) true λy=>WY y t)/\kNo (t b) x.1.s (as5 x x.1.L iT false λy=>WY y t)
noncomputable def apu(b:Nat)(x:ZTq×iZ):Prop:=ofG b x.1.s x.2 λt=>
 apt (t b) x.1.s (λj=>apt (t b) x.1.s (λi=>as5 x (fU x.1.L x.1.s) ((t b).lk j) true λy=>H8 y t b ((t b).ms.del i))/\kNo (t b) x.1.s (as5 x (fU x.1.L x.1.s) ((t b).lk j) true λy=>WY y t))/\
 kNo (t b) x.1.s (apt (t b) x.1.s (λi=>as5 x (fU x.1.L x.1.s) iT false λy=>H8 y t b ((t b).ms.del i))/\kNo (t b) x.1.s (as5 x (fU x.1.L x.1.s) iT false λy=>WY y t))
def sEnd(x:H7×iZ)(f:Bool)(q:iZ->Prop):Prop:= ∃y:Unit×iZ,(True/\Hd (lV (jy x.1.L x.1.l) y.2))/\(gI x.1.L x.1.l.key).isSome=f/\q y.2
noncomputable def auE(b:Nat)(x:H7×iZ):Prop:=ofG b x.1.l.key x.2 λt=>
 apt (t b) x.1.l.key (λ_=>apt (t b) x.1.l.key (λi=>sEnd x true λy=>H8 y t b ((t b).ms.put i x.1.l.key x.1.l.cs))/\kNo (t b) x.1.l.key (sEnd x true λy=>H8 y t b ((t b).ms.add x.1.l.key x.1.l.cs)))/\
 kNo (t b) x.1.l.key (apt (t b) x.1.l.key (λi=>sEnd x false λy=>H8 y t b ((t b).ms.put i x.1.l.key x.1.l.cs))/\kNo (t b) x.1.l.key (sEnd x false λy=>H8 y t b ((t b).ms.add x.1.l.key x.1.l.cs)))
theorem anq: ∀b,b<8-> ∀x,auC b x=wpF Tryz.prog (auA b) tt (noA x) 200 5 277 ((ofC b).args x) (hO 9 ((ofC b).os x)) (λv h'=>eG 9 x v h' (ofC b).outs)
 |0,_=>λx=>by kernel_rfl
 |1,_=>λx=>by kernel_rfl
 |2,_=>λx=>by kernel_rfl
 |3,_=>λx=>by kernel_rfl
 |4,_=>λx=>by kernel_rfl
 |5,_=>λx=>by kernel_rfl
 |6,_=>λx=>by kernel_rfl
 |7,_=>λx=>by kernel_rfl
 |b+8,h=>absurd h (by omega)
theorem anr: ∀b,b<8-> ∀x,auD b x=wpF Tryz.prog (aiX b) tt (noA x) 200 5 245 (as3.E.args x) (hO 9 (flatP 1 (as3.E.l x))) (λv h'=>endsPK 1 x v h' as3.E.outs)
 |0,_=>λx=>by kernel_rfl
 |1,_=>λx=>by kernel_rfl
 |2,_=>λx=>by kernel_rfl
 |3,_=>λx=>by kernel_rfl
 |4,_=>λx=>by kernel_rfl
 |5,_=>λx=>by kernel_rfl
 |6,_=>λx=>by kernel_rfl
 |7,_=>λx=>by kernel_rfl
 |b+8,h=>absurd h (by omega)
theorem aiY: ∀b,b<8-> ∀x,apu b x=wpF Tryz.prog (aiX b) tt (noA x) 200 5 252 (anp.E.args x) (hO 9 (flatP 1 (anp.E.l x))) (λv h'=>endsPK 1 x v h' anp.E.outs)
 |0,_=>λx=>by kernel_rfl
 |1,_=>λx=>by kernel_rfl
 |2,_=>λx=>by kernel_rfl
 |3,_=>λx=>by kernel_rfl
 |4,_=>λx=>by kernel_rfl
 |5,_=>λx=>by kernel_rfl
 |6,_=>λx=>by kernel_rfl
 |7,_=>λx=>by kernel_rfl
 |b+8,h=>absurd h (by omega)
theorem ant: ∀b,b<8-> ∀x,auE b x=wpF Tryz.prog (aiX b) tt (noA x) 200 5 250 (auB.E.args x) (hO 9 (flatP 1 (auB.E.l x))) (λv h'=>endsPK 1 x v h' auB.E.outs)
 |0,_=>λx=>by kernel_rfl
 |1,_=>λx=>by kernel_rfl
 |2,_=>λx=>by kernel_rfl
 |3,_=>λx=>by kernel_rfl
 |4,_=>λx=>by kernel_rfl
 |5,_=>λx=>by kernel_rfl
 |6,_=>λx=>by kernel_rfl
 |7,_=>λx=>by kernel_rfl
 |b+8,h=>absurd h (by omega)
def wKo(k:Nat):Prop:=(0:Int)<=(k:Int)/\(0:Int)<=(3:Int)-(k:Int)
def anu(P:Nat->ZOd->Prop)(k:Nat)(p:ZOd->Prop):Nat->ZOd->Prop:=λj=>bif Nat.beq j k then p else P j
def lvP1(o:ZOd)(k:Nat)(y:ZOd):Prop:=y.z k=o.z k/\(y.V k).length=(o.V k).length
def lvP2(o:ZOd)(k:Nat)(y:ZOd):Prop:=y.z k=o.z k/\(y.V k).length=(o.V k).length/\ ∀q:Nat,q<(y.V k).length->(nthL (y.V k) q).cs=(nthL (o.V k) q).cs
def lvFd(o:ZOd)(l:ZLnk)(k p:Nat)(y:ZOd):Prop:=y.z k=false/\(y.V k).length=(o.V k).length/\ ∀q:Nat,q<(y.V k).length->(nthL (y.V k) q).cs=Cs.eff (λq=>(nthL (o.V k) q).cs) [(0+p,l.cs)] q
def lvI1(k n:Nat)(y:ZOd):Prop:=y.z k=false/\(y.V k).length=n
def lvI2(k n:Nat)(g:Nat->ZLnk)(y:ZOd):Prop:=y.z k=false/\(y.V k).length=n/\ ∀q:Nat,q<(y.V k).length->(nthL (y.V k) q).cs=(g q).cs
def auF(x:ZOs)(b:Nat)(had:Bool)(P1 P2:Nat->ZOd->Prop):Prop:= ∃y:ZOd,Hd (∀k,k<4->(y.V k=if k<b then jy (x.o.V k) x.l else x.o.V k)/\(y.z k=true->y.V k=[]))/\(gI (x.o.V (b-1)) x.l.key).isSome=had/\(P1 0 y/\P1 1 y/\P1 2 y/\P1 3 y/\True)/\(P2 0 y/\P2 1 y/\P2 2 y/\P2 3 y/\True)
noncomputable def anv(x:ZOs)(b:Nat):Nat->Nat->Bool->(Nat->ZOd->Prop)->(Nat->ZOd->Prop)->Prop
 |0,_,had,P1,P2=>auF x b had P1 P2
 |r+1,k,_,P1,P2=>wKo k/\ ∃q:ZTq,Hd (srt q.L/\q.L.length<1099511627776)/\((0=0/\q.L.length=(x.o.V k).length)/\q.s=x.l.key/\True)/\((q.L.length=(x.o.V k).length/\ ∀j:Nat,j<q.L.length->(q.L.getD j iT).cs=(nthL (x.o.V k) j).cs)/\True)/\ ∀_:Unit,True->True/\cP (gI q.L q.s).isSome
   (wKo k/\((0:Int)<=((uY q.L q.s:Nat):Int)/\((uY q.L q.s:Nat):Int)<(((x.o.V k).length:Nat):Int))/\0+uY q.L q.s<(x.o.V k).length/\0+uY q.L q.s<(x.o.V k).length/\True/\I64 ((k:Int)+1)/\anv x b r (k+1) (gI q.L q.s).isSome P1 (anu P2 k (lvFd x.o x.l k (uY q.L q.s))))
   (wKo k/\(AV.slV (x.o.z k) (k+1) 5 (x.o.V k).length=AV.slV (x.o.z k) (k+1) 5 (x.o.V k).length/\True)/\ ∃v:ZIz,Hd (v.i<=v.L.length/\v.L.length<=300)/\((v.z=x.o.z k/\v.L.length=(x.o.V k).length)/\(v.i:Int)=((uY q.L q.s:Nat):Int)/\(0=0/\1=1/\1=1)/\True)/\((v.z=x.o.z k/\v.L.length=(x.o.V k).length/\ ∀j:Nat,j<v.L.length->(nthL v.L j).cs=(nthL (x.o.V k) j).cs)/\WZ v.l x.l/\True)/\ ∀_:Unit,True->True/\wKo k/\True/\I64 ((k:Int)+1)/\
    anv x b r (k+1) (gI q.L q.s).isSome (anu P1 k (lvI1 k (v.L.length+1))) (anu P2 k (lvI2 k (v.L.length+1) (insL (nthL v.L) v.i v.l))))
noncomputable def auG(b:Nat)(x:ZOs):Prop:= ∃s:ByteArray,Hd (s.size<1099511627776/\lvl s=b)/\(s=x.l.key/\True)/\True/\ ∀_:Unit,True->anv x b b 0 false (lvP1 x.o) (lvP2 x.o)
theorem anw: ∀b,1<=b->b<=4-> ∀x,auG b x=wpF Tryz.prog (ar2 b) tt (noA x) 200 6 251 ((abb b).args x) (hO 5 (flatP 1 ((abb b).l x))) (λv h'=>endsPK 1 x v h' (abb b).outs)
 |1,_,_=>λx=>by kernel_rfl
 |2,_,_=>λx=>by kernel_rfl
 |3,_,_=>λx=>by kernel_rfl
 |4,_,_=>λx=>by kernel_rfl
 |0,h,_=>absurd h (by omega)
 |b+5,_,h=>absurd h (by omega)
theorem ar4{k:Nat}(h:k<4):wKo k:=⟨by omega,by omega⟩
theorem FH{P:Nat->ZOd->Prop}{k:Nat}{p:ZOd->Prop}:anu P k p k=p:=by unfold anu;simp
theorem oU{P:Nat->ZOd->Prop}{k j:Nat}{p:ZOd->Prop}(h:j≠k):anu P k p j=P j:=by unfold anu;rw[fA h];rfl
def anx(x:ZOs)(b:Nat):ZOd:=⟨λk=>bif Nat.blt k b then false else x.o.z k,λk=>if k<b then jy (x.o.V k) x.l else x.o.V k⟩
theorem aiZ{x:ZOs}{b k:Nat}(h:k<b):(anx x b).z k=false/\(anx x b).V k=jy (x.o.V k) x.l:=⟨by show(bif Nat.blt k b then false else x.o.z k)=false;rw[bg.2 h];rfl,if_pos h⟩
theorem ai0{x:ZOs}{b k:Nat}(h: ¬k<b):(anx x b).z k=x.o.z k/\(anx x b).V k=x.o.V k:=⟨by show(bif Nat.blt k b then false else x.o.z k)=x.o.z k;rw[ji h];rfl,if_neg h⟩
theorem lev_z{o:ZOd}{k:Nat}{s:ByteArray}(hg:o.z k=true->o.V k=[])(h:(gI (o.V k) s).isSome=true):o.z k=false:=by
 cases hz:o.z k
 ·rfl
 ·rw[hg hz]at h;cases h
theorem zX{x:ZOs}{b:Nat}(h1:1<=b)(h4:b<=4)(hg:x.o.good): ∀(r k:Nat) (had:Bool) (P1 P2:Nat->ZOd->Prop),k+r=b->(1<=k->had=(gI (x.o.V (k-1)) x.l.key).isSome)->
  (∀j,j<k->P1 j (anx x b)/\P2 j (anx x b))->(∀j,k<=j->P1 j=lvP1 x.o j/\P2 j=lvP2 x.o j)->anv x b r k had P1 P2
 |0,k,had,P1,P2,e,hh,hP,hQ=>by
  obtain rfl:k=b:=by omega
  have all: ∀j,P1 j (anx x k)/\P2 j (anx x k):=λj=>by
   by_cases hj:j<k
   ·exact hP j hj
   ·obtain⟨q1,q2⟩:=hQ j (by omega)
    obtain⟨g1,g2⟩:=ai0 (x:=x) hj;rw[q1,q2];exact⟨⟨g1,by rw[g2]⟩,g1,by rw[g2],λq _=>by rw[g2]⟩
  refine⟨anx x k,aZ.2 λj hj=>⟨rfl,λhz=> ?_⟩,(hh h1).symm,⟨(all 0).1,(all 1).1,(all 2).1,(all 3).1,trivial⟩,(all 0).2,(all 1).2,(all 2).2,(all 3).2,trivial⟩;by_cases hjk:j<k
  ·rw[(aiZ (x:=x) hjk).1]at hz;cases hz
  ·obtain⟨g1,g2⟩:=ai0 (x:=x) hjk
   rw[g1]at hz;rw[g2];exact(hg j hj).2.2 hz
 |r+1,k,had,P1,P2,e,hh,hP,hQ=>by
  have hk:k<b:=by omega
  obtain⟨s1,s2,s3⟩:=hg k (by omega);obtain⟨y1,y2⟩:=aiZ (x:=x) hk;obtain⟨q1,q2⟩:=hQ k (aY _);refine⟨ar4 (by omega),⟨x.o.V k,x.l.key⟩,aZ.2 ⟨s1,by show(x.o.V k).length<1099511627776;omega⟩,⟨⟨rfl,rfl⟩,rfl,trivial⟩,⟨⟨rfl,λ_ _=>rfl⟩,trivial⟩,λ_ _=>⟨trivial,bf (λhf=> ?_) λhf=> ?_⟩⟩
  ·obtain⟨f1,f2,f3⟩:=Jp s1 hf
   refine⟨ar4 (by omega),⟨by omega,by show((uY (x.o.V k) x.l.key:Nat):Int)<_;omega⟩,by show 0+uY (x.o.V k) x.l.key<_;omega,by show 0+uY (x.o.V k) x.l.key<_;omega,trivial,by unfold I64;omega,zX h1 h4 hg r (k+1) _ _ _ (by omega) (λ_=>rfl) (λj hj=> ?_) λj hj=> ?_⟩
   ·by_cases hjk:j=k
    ·subst hjk
     rw[q1,FH];refine⟨⟨y1.trans (lev_z s3 hf).symm,by rw[y2];exact f2⟩,y1,by rw[y2];exact f2,λq _=> ?_⟩;rw[y2,f3 q];show _=Cs.eff _ [(0+uY (x.o.V j) x.l.key,x.l.cs)] q;simp only[Cs.eff,aA];by_cases hq:q=uY (x.o.V j) x.l.key
     ·rw[if_pos hq,hq];simp
     ·rw[if_neg hq,fA hq];rfl
    ·rw[oU hjk];exact hP j (by omega)
   ·rw[oU (by omega)];exact hQ j (by omega)
  ·obtain⟨f1,f2,f3⟩:=abd s1 hf
   refine⟨ar4 (by omega),⟨rfl,trivial⟩,⟨x.o.z k,x.o.V k,uY (x.o.V k) x.l.key,x.l⟩,aZ.2 ⟨f1,s2⟩,⟨⟨rfl,rfl⟩,rfl,⟨rfl,rfl,rfl⟩,trivial⟩,⟨⟨rfl,rfl,λ_ _=>rfl⟩,⟨rfl,rfl,rfl,rfl,rfl,trivial⟩,trivial⟩,λ_ _=>⟨trivial,ar4 (by omega),trivial,by unfold I64;omega,zX h1 h4 hg r (k+1) _ _ _ (by omega) (λ_=>rfl) (λj hj=> ?_) λj hj=> ?_⟩⟩
   ·by_cases hjk:j=k
    ·subst hjk
     rw[FH,FH];refine⟨⟨y1,by rw[y2];exact f2⟩,y1,by rw[y2];exact f2,λq hq=> ?_⟩;rw[y2]at hq ⊢;rw[f3 q (by omega)]
    ·rw[oU hjk,oU hjk];exact hP j (by omega)
   ·rw[oU (by omega),oU (by omega)];exact hQ j (by omega)
theorem adK{x:ZOs}{b:Nat}(h1:1<=b)(h4:b<=4)(hg:x.o.good)(hs:x.l.key.size<1099511627776)(hl:lvl x.l.key=b):auG b x:=
 ⟨x.l.key,aZ.2 ⟨hs,hl⟩,⟨rfl,trivial⟩,trivial,λ_ _=>zX h1 h4 hg b 0 false _ _ (by omega) (λh=>absurd h (by decide)) (λj hj=>absurd hj (Nat.not_lt_zero j)) λj _=>⟨rfl,rfl⟩⟩
noncomputable def lvK(L:Lks)(k:Nat):Lks:=L.filter λl=>decide (k<lvl l.key)
theorem adL{M:Lks}{l:ZLnk}(h: ∀y∈M,kl l.key y.key=true):jy M l=l::M:=by
 cases M with
 |nil=>rfl
 |cons y M=>
  have hy:=h y (by simp);unfold jy;rw[if_neg (λe=>by rw[e,oD]at hy;cases hy),if_pos hy]
theorem qC{x:ZLnk}{L:Lks}{k:Nat}:lvK (x::L) k=if k<lvl x.key then x::lvK L k else lvK L k:=by
 unfold lvK;rw[List.filter_cons];by_cases h:k<lvl x.key
 ·rw[decide_eq_true h,if_pos h];rfl
 ·rw[decide_eq_false h,if_neg h];rfl
theorem ai1{L:Lks}{k:Nat}{x:ZLnk}:x∈lvK L k↔x∈L/\k<lvl x.key:=by unfold lvK;rw[List.mem_filter,decide_eq_true_iff]
theorem ar5{L:Lks}{k:Nat}(h:srt L):srt (lvK L k):=List.Pairwise.filter _ h
theorem ar6{L:Lks}{k:Nat}:(lvK L k).length<=L.length:=List.length_filter_le _ _
theorem ai2: ∀{L:Lks} {l:ZLnk} {k:Nat},srt L->lvK (jy L l) k=if k<lvl l.key then jy (lvK L k) l else lvK L k
 |[],l,k,_=>by
  show lvK [l] k=_;rw[qC];rfl
 |x::L,l,k,hs=>by
  obtain⟨hs1,hs2⟩:=List.pairwise_cons.1 hs;have ih:=ai2 (L:=L) (l:=l) (k:=k) hs2;by_cases hx:x.key=l.key
  ·have e:jy (x::L) l=l::L:=by unfold jy;rw[if_pos hx]
   rw[e,qC,qC,hx];by_cases hk:k<lvl l.key
   ·rw[if_pos hk,if_pos hk,if_pos hk];unfold jy;rw[if_pos hx]
   ·rw[if_neg hk,if_neg hk,if_neg hk]
  ·cases hk2:kl l.key x.key with
   |true=>
    have e:jy (x::L) l=l::x::L:=by unfold jy;rw[if_neg hx,if_pos hk2]
    rw[e,qC];by_cases hk:k<lvl l.key
    ·rw[if_pos hk,if_pos hk,adL λy hy=> ?_]
     obtain⟨hy,_⟩:=ai1.1 hy;rcases List.mem_cons.1 hy with rfl|hy
     ·exact hk2
     ·exact jE hk2 (hs1 y hy)
    ·rw[if_neg hk,if_neg hk]
   |false=>
    have e: ∀M,jy (x::M) l=x::jy M l:=λM=>by rw[jy,if_neg hx,if_neg (by rw[hk2];decide)]
    rw[e,qC,ih,qC];by_cases hk:k<lvl l.key
    ·rw[if_pos hk,if_pos hk]
     by_cases hkx:k<lvl x.key
     ·rw[if_pos hkx,if_pos hkx,e]
     ·rw[if_neg hkx,if_neg hkx]
    ·rw[if_neg hk,if_neg hk]
theorem anz{L:Lks}{s:ByteArray}{k:Nat}:lvK (fU L s) k=if k<lvl s then fU (lvK L k) s else lvK L k:=by
 have e:lvK (fU L s) k=fU (lvK L k) s:=by
  unfold lvK fU;rw[List.filter_filter,List.filter_filter];exact List.filter_congr λx _=>Bool.and_comm _ _
 rw[e];by_cases hk:k<lvl s
 ·rw[if_pos hk]
 ·rw[if_neg hk]
  refine List.filter_eq_self.2 λx hx=> ?_
  have hx:=(ai1.1 hx).2;have:x.key≠s:=λe=>by rw[e]at hx;exact hk hx
  rw[decide_eq_false this];rfl
theorem ai3: ∀{L:Lks} {s:ByteArray} {k:Nat},k<lvl s->gI (lvK L k) s=gI L s
 |[],_,_,_=>rfl
 |x::L,s,k,hk=>by
  rw[qC,kC];have ih:=ai3 (L:=L) hk;by_cases hx:x.key=s
  ·rw[if_pos (by rw[hx];exact hk),if_pos hx,kC,if_pos hx]
  ·rw[if_neg hx]
   by_cases hkx:k<lvl x.key
   ·rw[if_pos hkx,kC,if_neg hx,ih]
   ·rw[if_neg hkx,ih]
structure Jq (L:Lks) (o:ZOd):Prop where
 srt:srt L
 size:L.length<=300
 lev: ∀k,k<4->o.V k=lvK L k/\(o.z k=true->o.V k=[])
theorem Jq.good{L:Lks}{o:ZOd}(h:Jq L o):o.good:=λk hk=>by
 obtain⟨h1,h2⟩:=h.lev k hk;have:=h.size;have:=ar6 (L:=L) (k:=k);exact⟨by rw[h1];exact ar5 h.srt,by rw[h1];omega,h2⟩
noncomputable def ordA(L:Lks):Own:=hide (Pv λh=> ∃t:ZOd,Jq L t/\h=hOf (LG t))
theorem ai4(L:Lks):ordA L=Pv λh=> ∃t:ZOd,Jq L t/\h=hOf (LG t):=iJ _
structure ai5 (X:Type) where
 Y:Type
 post:X->Y->Prop
 ret:X->Y->AV
 L:X->Y->Lks
 m:Nat
 ex:X->Y->List dA
structure ar7 where
 X:Type
 args:X->List AV
 L:X->Lks
 pre:X->Prop
 outs:List (ai5 X)
noncomputable def ai5.po{X:Type}(L0:X->Lks)(o:ai5 X):acw (X×ZOd):={Y:=o.Y×ZOd,post:=λx y=>o.post x.1 y.1/\Hd (Jq (o.L x.1 y.1) y.2),ret:=λx y=>o.ret x.1 y.1,m:=o.m,l:=λx y=> .m (LG y.2)::(o.ex x.1 y.1).map PO.o}
noncomputable def ai5.out{X:Type}(o:ai5 X):Out X:={Y:=o.Y,post:=o.post,ret:=o.ret,m:=o.m,os:=λx y=> .abs (ordA (o.L x y))::o.ex x y}
noncomputable def ar7.E(C:ar7):jg:={X:=C.X×ZOd,args:=λx=>C.args x.1,k:=1,l:=λx=>[.m (LG x.2)],pre:=λx=>C.pre x.1/\Hd (Jq (C.L x.1) x.2),outs:=C.outs.map (ai5.po C.L)}
noncomputable def ar7.C(C:ar7):Ctr:={X:=C.X,args:=C.args,k:=1,os:=λx=>[.abs (ordA (C.L x))],pre:=C.pre,outs:=C.outs.map ai5.out}
theorem abe{L:Lks}{t:ZOd}(h:Jq L t){w:World}{a:SE.Loc}{S:Nat->Prop}(ho:(ownM (LG t)).holds w a S):(ordA L).holds w a S:=by
 rw[oM]at ho;rw[ai4];obtain⟨h0,ρ,e,r⟩:=ho;exact⟨h0,ρ,⟨t,h,e⟩,r⟩
theorem anA{L:Lks}{w:World}{a:SE.Loc}{S:Nat->Prop}(ho:(ordA L).holds w a S): ∃t,Jq L t/\(ownM (LG t)).holds w a S:=by
 rw[ai4]at ho;obtain⟨h0,ρ,⟨t,h,e⟩,r⟩:=ho;exact⟨t,h,by rw[oM];exact⟨h0,ρ,e,r⟩⟩
theorem Sz{X:Type}{L0:X->Lks}{x:X}{t:ZOd}{v:AV}{h':Heap}: ∀{l:List (ai5 X)},(∀o∈l,∀x y,(o.ex x y).length+1=o.m)->kU (x,t) v h' ((l.map (ai5.po L0)).map acw.out)-> ∃v0 h0,Leq 1 v h' v0 h0/\kU x v0 h0 (l.map ai5.out)
 |[],_,h=>by simp only[List.map_nil]at h;rw[yM]at h;exact h.elim
 |o::l,hl,h=>by
  simp only[List.map_cons]at h ⊢;rw[dU]at h;rcases h with ⟨y,h1,rfl,rfl⟩|h
  ·have hlen:=hl o (by simp) x y.1
   have hT:Jq (o.L x y.1) y.2:=aZ.1 h1.2;refine⟨_,hO o.m (.abs (ordA (o.L x y.1))::o.ex x y.1),⟨?_,λρ T w u hR hv=>⟨ρ,λ_ _=>rfl,?_,hv⟩⟩,by rw[dU];exact .inl ⟨y.1,h1.1,rfl,rfl⟩⟩
   ·show 1<=o.m;omega
   ·have hm:((o.ex x y.1).map PO.o).map PO.ab=o.ex x y.1:=by rw[List.map_map];exact(List.map_id _)
    have hR:Rel (hO o.m (.abs (ownM (LG y.2))::o.ex x y.1)) ρ T w:=by
     have e:(acw.out (ai5.po L0 o)).os (x,t) y= .abs (ownM (LG y.2))::o.ex x y.1:=by
      show PO.ab (.m (LG y.2))::((o.ex x y.1).map PO.o).map PO.ab=_;rw[hm];rfl
     rw[<-e];exact hR
    have h2:=hR.swap (i:=0) (o:= .abs (ownM (LG y.2))) (o':= .abs (ordA (o.L x y.1))) (by rw[jO (by simp only[List.length_cons];omega)];rfl) λa S ho=>abe hT ho
    exact h2.less (by simp;exact aY _) λj x hj=>by rw[zV (by omega)];exact hj
  ·obtain⟨v0,h0,g1,g2⟩:=Sz (l:=l) (λp hp=>hl p (List.mem_cons_of_mem _ hp)) h
   exact⟨v0,h0,g1,by rw[dU];exact .inr g2⟩
theorem ai6{P:Program}{f:FuncId}{C:ar7}(hc:nZ P f)(hl: ∀o∈C.outs,∀x y,(o.ex x y).length+1=o.m)(hE:bY P f C.E.ctr):bY P f C.C:=λx hp=>by
 refine⟨rfl,hc,λρ T w vs hR hl2=> ?_⟩;obtain⟨t,hR2⟩:=Jm (i:=0) (o:= .abs (ordA (C.L x))) (o':=λt:{t:ZOd//Jq (C.L x) t}=> .abs (ownM (LG t.1))) rfl (λa S ho=>by obtain⟨t,h1,h2⟩:=anA ho;exact⟨⟨t,h1⟩,h2⟩) hR;obtain⟨t,ht⟩:=t;have hR3:Rel (hO 1 [.abs (ownM (LG t))]) ρ T w:=hR2.less (aY _) λj y hj=>by
  have:=zV (n:=1) (o:= .abs (ordA (C.L x))) (o':= .abs (ownM (LG t))) (os:=[]) rfl j;exact this.trans hj
 obtain⟨_,hs⟩:=hE (x,t) ⟨hp,aZ.2 ht⟩;refine(hs.2 ρ T w vs hR3 hl2).mono ?_
 rintro e w' ⟨ρ2,v,u,h',c1,c2,c3,c4,c5,c6,c7⟩
 obtain⟨v0,h0,g1,g2⟩:=Sz hl c7;obtain⟨ρ3,q1,q2,q3⟩:=g1.2 ρ2 T w' u c3 c4;exact⟨ρ3,v0,u,h0,λi hi=>(q1 i hi).trans (c1 i hi),g1.1,q2,q3,c5,c6,g2⟩
end Go.Proofs.YtenfleoejgjklaaGreat
end
