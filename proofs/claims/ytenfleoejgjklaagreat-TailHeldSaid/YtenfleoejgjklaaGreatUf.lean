import Derived.Test.YtenfleoejgjklaaGreatUa
import Derived.Test.YtenfleoejgjklaaGreatUb
import Derived.Test.YtenfleoejgjklaaGreatUc
import Derived.Test.YtenfleoejgjklaaGreatUd
import Derived.Test.YtenfleoejgjklaaGreatUe
import Derived.KernelRfl
import Derived.Tactics
import Derived.Tactics2
import Derived.Defers
import Derived.Laws.Pointers
import Derived.Laws.LoneSync
import Derived.RegionTactic
import Derived.RegionCalls
import Derived.ChangeAlike
set_option linter.unusedVariables false
set_option linter.unusedSimpArgs false
set_option linter.unnecessarySimpa false
section
namespace Go.Proofs.YtenfleoejgjklaaGreat
open Go SE
def x9(a:Bys)(b:alT):Prop:=(a.N=64*b.b.dJ/\ ∀q:Nat,q<a.N->[Value.int .u8 (a.g q)]=[Value.int .u8 (b.g q)])/\True
def yc(a:dN):Prop:=0+64*a.dJ<=64*a.dJ
def WY(a:alT):Prop:=(64*a.b.dJ=64*a.b.dJ/\ ∀q:Nat,q<64*a.b.dJ->[Value.int .u8 (a.g q)]=[Value.int .u8 (a.g q)])/\True
def WZ(a:dN)(b:Nat):Prop:=isByte [Value.int .u8 (a.enc (0+b))]=true
def aef(a:dN):Prop:= ∀k:Nat,k<64*a.dJ->WZ a k
def I7(a:alT):Prop:= ∀k:Nat,k<64*a.b.dJ->isByte [Value.int .u8 (a.g (0+k))]=true
def oZ(a:Int)(b:I4):Prop:=a=zu (fun(k:Nat)=>b.b.g (b.b.q+k)) b.at_ b.w
def I8(a:alT)(b:I4)(c:ED)(d:I4):Prop:=oZ a.b.epoch b/\a.b.key=ByteArray.extract c.str 0 (Int.toNat (a.g 3))/\a.b.value=ByteArray.extract c.str (Int.toNat (a.g 3)) (Int.toNat (a.g 3+zu (fun(k:Nat)=>d.b.g (d.b.q+k)) d.at_ d.w))/\True
def aeg(a:dN):Prop:=Hd (a.may/\a.key.size<1099511627776/\a.value.size<1099511627776)
def Bj(a:I4):Prop:=Hd (a.b.ok/\a.at_+a.w<=a.b.n/\1<=a.w/\a.w<=8)
def EF(a:Bys)(b:dN):Prop:=a.q=0/\a.n=64*b.dJ
def NK(a:Nat):Prop:=(a:Int)=8/\True
def aeh(a:dN)(b:ED)(c:alT)(d:I4):Prop:=a.key=ByteArray.extract b.str 0 (Int.toNat (c.g 3))/\a.value=ByteArray.extract b.str (Int.toNat (c.g 3)) (Int.toNat (c.g 3+zu (fun(k:Nat)=>d.b.g (d.b.q+k)) d.at_ d.w))/\True
def aei(a:dN):Prop:=a.kind=0/\a.id=0/\a.ver=0/\a.epoch=0/\a.key=ByteArray.mk #[]/\a.value=ByteArray.mk #[]/\True
def Dn(a:alT):Prop:=True/\((a.b.cls=0/\aei a.b)/\true=false/\True)/\WY a
def aej(a:I4)(b:dN):Prop:=EF a.b b/\(a.at_:Int)=24/\NK a.w
def aun(a:alT)(b:I4)(c:ED)(d:I4):Prop:=True/\ ∃x_6:I4,Bj x_6/\(EF x_6.b a.b/\(x_6.at_:Int)=16/\NK x_6.w)/\x9 x_6.b a/\ ∀y_5:Unit,True->True/\ ∃x_7:I4,Bj x_7/\aej x_7 a.b/\x9 x_7.b a/\ ∀y_6:Unit,True->True/\True/\ ∃x_8:dN,aeg x_8/\((x_8.cls=a.g 1/\x_8.kind=a.g 2/\oZ x_8.id b/\oZ x_8.ver x_6/\oZ x_8.epoch x_7/\aeh x_8 c a d)/\True)/\True/\(∀y_7:Unit,Hd (x_8.cls=0)->64<=64/\(∀k:Nat,k<64->WZ x_8 k)/\yc a.b/\I7 a/\cP (Bool.not (BEq.beq (ByteArray.toList (@ByteArray.mk (@List.toArray UInt8 (List.map (fun(k:Nat)=>UInt8.ofBitVec (@BitVec.ofNat 8 (Int.toNat (x_8.enc (0+k))))) (@List.range 64))))) (ByteArray.toList (@ByteArray.mk (@List.toArray UInt8 (List.map (fun(k:Nat)=>UInt8.ofBitVec (@BitVec.ofNat 8 (Int.toNat (a.g (0+k))))) (@List.range (64*a.b.dJ)))))))) (∃y_8:Unit,Dn a) (∃y_8:Unit,True/\((a.b.cls=a.g 1/\a.b.kind=a.g 2/\oZ a.b.id b/\oZ a.b.ver x_6/\I8 a x_7 c d)/\true=true/\True)/\WY a))/\ ∀y_7:Unit,Hd (x_8.cls≠(0:Int))->yc x_8/\aef x_8/\yc a.b/\I7 a/\cP (Bool.not (BEq.beq (ByteArray.toList (@ByteArray.mk (@List.toArray UInt8 (List.map (fun(k:Nat)=>UInt8.ofBitVec (@BitVec.ofNat 8 (Int.toNat (x_8.enc (0+k))))) (@List.range (64*x_8.dJ)))))) (ByteArray.toList (@ByteArray.mk (@List.toArray UInt8 (List.map (fun(k:Nat)=>UInt8.ofBitVec (@BitVec.ofNat 8 (Int.toNat (a.g (0+k))))) (@List.range (64*a.b.dJ)))))))) (∃y_8:Unit,Dn a) (∃y_8:Unit,True/\((a.b.cls=a.g 1/\a.b.kind=a.g 2/\oZ a.b.id b/\oZ a.b.ver x_6/\I8 a x_7 c d)/\true=true/\True)/\WY a)
def alU(a:Dl):Prop:=64=64/\ ∀q:Nat,q<64->[Value.int .u8 (a.b.kT (fun(k:Nat)=>a.d.g (a.d.q+k)) a.d.n q)]=[Value.int .u8 (a.b.kT (fun(k:Nat)=>a.d.g (a.d.q+k)) a.d.n q)]
def alV(a:dN):Prop:=(a.cls=a.cls/\a.kind=a.kind/\a.id=a.id/\a.ver=a.ver/\a.epoch=a.epoch/\a.key=a.key/\a.value=a.value/\True)/\True
def ahJ(a:Dl)(b:Int)(c:dN):Prop:=alU a/\(Int.toNat (cpc b)=Int.toNat (cpc b)/\ ∀q:Nat,q<Int.toNat (cpc b)->Cs.eff (fun(p:Nat)=>cond (Nat.ble 0 p&&Nat.blt p (0+ByteArray.size (c.key++c.value))) [Value.int .u8 (gG (c.key++c.value) (p-0))] [Value.int .u8 0]) [] q=Cs.eff (fun(p:Nat)=>cond (Nat.ble 0 p&&Nat.blt p (0+ByteArray.size (c.key++c.value))) [Value.int .u8 (gG (c.key++c.value) (p-0))] [Value.int .u8 0]) [] q)/\alV c
def ahK(a:Dl)(b:Int)(c:dN):Prop:=alU a/\(Int.toNat (cpc b)=Int.toNat (cpc b)/\ ∀q:Nat,q<Int.toNat (cpc b)->Cs.eff (fun(p:Nat)=>cond (Nat.ble 0 p&&Nat.blt p (0+Int.toNat (cpc b))) [Value.int .u8 (gG (c.key++c.value) (p-0))] [Value.int .u8 0]) [] q=Cs.eff (fun(p:Nat)=>cond (Nat.ble 0 p&&Nat.blt p (0+Int.toNat (cpc b))) [Value.int .u8 (gG (c.key++c.value) (p-0))] [Value.int .u8 0]) [] q)/\alV c
def alW(a:dN)(b:Nat)(c:Nat):Prop:=(Nat.beq (List.length (Cs.eff (fun(p:Nat)=>cond (Nat.ble 0 p&&Nat.blt p (0+ByteArray.size (a.key++a.value))) [Value.int .u8 (gG (a.key++a.value) (p-0))] [Value.int .u8 0]) [] (28+63*b+c))) 1&&List.all (Cs.eff (fun(p:Nat)=>cond (Nat.ble 0 p&&Nat.blt p (0+ByteArray.size (a.key++a.value))) [Value.int .u8 (gG (a.key++a.value) (p-0))] [Value.int .u8 0]) [] (28+63*b+c)) Value.oneCell')=true
def alX(a:dN)(b:Nat):Prop:=(Nat.beq (List.length (Cs.eff (fun(p:Nat)=>cond (Nat.ble 0 p&&Nat.blt p (0+ByteArray.size (a.key++a.value))) [Value.int .u8 (gG (a.key++a.value) (p-0))] [Value.int .u8 0]) [] (28+b))) 1&&List.all (Cs.eff (fun(p:Nat)=>cond (Nat.ble 0 p&&Nat.blt p (0+ByteArray.size (a.key++a.value))) [Value.int .u8 (gG (a.key++a.value) (p-0))] [Value.int .u8 0]) [] (28+b)) Value.oneCell')=true
def alY(a:Int)(b:dN)(c:Nat)(d:Nat):Prop:=(Nat.beq (List.length (Cs.eff (fun(p:Nat)=>cond (Nat.ble 0 p&&Nat.blt p (0+Int.toNat (cpc a))) [Value.int .u8 (gG (b.key++b.value) (p-0))] [Value.int .u8 0]) [] (28+63*c+d))) 1&&List.all (Cs.eff (fun(p:Nat)=>cond (Nat.ble 0 p&&Nat.blt p (0+Int.toNat (cpc a))) [Value.int .u8 (gG (b.key++b.value) (p-0))] [Value.int .u8 0]) [] (28+63*c+d)) Value.oneCell')=true
def alZ(a:Int)(b:dN)(c:Nat):Prop:=(Nat.beq (List.length (Cs.eff (fun(p:Nat)=>cond (Nat.ble 0 p&&Nat.blt p (0+Int.toNat (cpc a))) [Value.int .u8 (gG (b.key++b.value) (p-0))] [Value.int .u8 0]) [] (28+c))) 1&&List.all (Cs.eff (fun(p:Nat)=>cond (Nat.ble 0 p&&Nat.blt p (0+Int.toNat (cpc a))) [Value.int .u8 (gG (b.key++b.value) (p-0))] [Value.int .u8 0]) [] (28+c)) Value.oneCell')=true
def al0(a:dN)(b:Dl):Prop:=(∃y_4:Unit,Hd (a.cls=0)/\((0=0/\64=64/\64=64)/\(0:Int)=0/\True)/\(64=64/\ ∀q:Nat,q<64->[Value.int .u8 (a.enc q)]=[Value.int .u8 (b.b.kT (fun(k:Nat)=>b.d.g (b.d.q+k)) b.d.n q)])/\True)\/ ∃y_4:Unit,Hd (a.cls≠(0:Int))/\(False/\(0:Int)=0/\True)/\False/\True
def W9:Prop:=(0:Int)<=64/\(0:Int)<=0/\(0:Int)<=281474976710592/\(0:Int)<=4611686018427387839
def al1(a:dN)(b:Nat):Prop:=(∃y_4:Unit,Hd (a.cls=0)/\(False/\(0:Int)=0/\True)/\False/\True)\/ ∃y_4:Unit,Hd (a.cls≠(0:Int))/\((0=0/\64*a.dJ=64*(b+1))/\(0:Int)=0/\True)/\(64*a.dJ=64*(b+1)/\ ∀q:Nat,q<64*a.dJ->[Value.int .u8 (a.enc q)]=[Value.int .u8 (a.enc q)])/\True
def Xa(a:dN)(b:Nat):Prop:=a.jD-28-63*b<=a.jD-28-63*b
def aek(a:dN)(b:dN):Prop:=a.cls=b.cls/\a.kind=b.kind/\a.id=b.id/\a.ver=b.ver/\a.epoch=b.epoch/\a.key=b.key/\a.value=b.value/\True
def I9(a:Nat)(b:Nat):Prop:=64*(a+1)=64*(b+1)+64
def al2(a:Nat)(b:Nat)(c:dN):Prop:=(a:Int)=(b:Int)+1/\(28+63*a=28+63*b+(c.jD-28-63*b)/\c.jD-28-63*a=c.jD-28-63*b-(c.jD-28-63*b)/\c.jD-28-63*a=c.jD-28-63*b-(c.jD-28-63*b))/\(0=0/\I9 a b)/\True
def Xb(a:dN)(b:Nat):Prop:=Xa a b/\Xa a b
def vG(a:Nat)(b:dN):Prop:=Hd (1<=a/\a+1<=b.dJ)
def NM(a:Bys):Prop:=(rowB a.g a.N=rowB a.g a.N/\true=true)/\True
def al3(a:Nat)(b:Nat)(c:dN):Prop:=(a:Int)=(b:Int)+1/\(28+63*a=28+63*b+63/\c.jD-28-63*a=c.jD-28-63*b-63/\c.jD-28-63*a=c.jD-28-63*b-63)/\(0=0/\I9 a b)/\True
def al4(a:Nat)(b:dN):Prop:=(a:Int)=1/\(28+63*a=28+(b.jD-28)/\b.jD-28-63*a=b.jD-28-(b.jD-28)/\b.jD-28-63*a=b.jD-28-(b.jD-28))/\(0=0/\64*(a+1)=128)/\True
def vH(a:dN):Prop:=a.jD-28<=a.jD-28
def al5(a:Nat)(b:dN):Prop:=(a:Int)=1/\(28+63*a=91/\b.jD-28-63*a=b.jD-28-63/\b.jD-28-63*a=b.jD-28-63)/\(0=0/\64*(a+1)=128)/\True
def Xc(a:Nat):Prop:=(2*(64*(a+1)+64)+1000)*1<=281474976710656
def Ja:Prop:=(0:Int)<=0/\(0:Int)<=63
def Xd:Prop:=(2*(64+64)+1000)*1<=281474976710656
def al6(a:dN)(b:Int):Prop:=(0:Int)=0/\(28=28/\a.jD-28=Int.toNat (cpc b)-28/\a.jD-28=Int.toNat (cpc b)-28)/\(0=0/\64=64/\64=64)/\True
def al7(a:dN)(b:Nat):Prop:=(Nat.beq (List.length [Value.int .u8 (gG (a.key++a.value) b)]) 1&&List.all [Value.int .u8 (gG (a.key++a.value) b)] Value.oneCell')=true
def al8(a:Int):Prop:=28<=Int.toNat (cpc a)/\Int.toNat (cpc a)<=Int.toNat (cpc a)/\Int.toNat (cpc a)<=Int.toNat (cpc a)
def Xe:Prop:=1<=64/\64<=64/\64<=64
def al9(a:Nat)(b:Nat):Prop:=28+63*a=28+63*b+(Int.toNat (((64+64*b:Nat):Int)+64)-Int.toNat (((64+64*b:Nat):Int)+1))
def ael(a:Int):Prop:=0<=cpc a/\cpc a<=cpc a/\1*cpc a<=281474976710656/\cpc a<4611686018427387904
def auo(x:dN):Prop:=
 ∃x_1:dN,Hd (x_1.key.size<1099511627776/\x_1.value.size<1099511627776)/\(aek x_1 x/\True)/\True/\ ∀y:Unit,True->cP (Bool.not x_1.Zi) ((∃y_1:Unit,Hd (x.cls=0)/\(False/\(0:Int)=3/\True)/\False/\True)\/ ∃y_1:Unit,Hd (x.cls≠(0:Int))/\(False/\(0:Int)=3/\True)/\False/\True) (∃x_2:Int,True/\(x_2=x.cls/\True)/\True/\ ∀y_1:Unit,True->ael x_2/\((x.key.size+x.value.size:Nat):Int)<=9223372036854775807/\0+Int.toNat (cpc x_2)<=Int.toNat (cpc x_2)/\cP (Nat.ble (ByteArray.size (x.key++x.value)) (Int.toNat (cpc x_2))) ((∀k:Nat,k<ByteArray.size (x.key++x.value)->al7 x k)/\ ∃x_3:Dl,Hd x_3.ok/\(aek x_3.b x/\(x_3.d.q=0/\x_3.d.n=Int.toNat (cpc x_2))/\True)/\((x_3.d.N=Int.toNat (cpc x_2)/\ ∀q:Nat,q<x_3.d.N->[Value.int .u8 (x_3.d.g q)]=Cs.eff (fun(p:Nat)=>cond (Nat.ble 0 p&&Nat.blt p (0+ByteArray.size (x.key++x.value))) [Value.int .u8 (gG (x.key++x.value) (p-0))] [Value.int .u8 0]) [] q)/\True)/\ ∀y_2:Unit,True->(0:Int)<=28/\al8 x_2/\ ∃x_4:Int,True/\(x_4=x.cls/\True)/\True/\ ∀y_3:Unit,True->I64 (spn x_4-1)/\(∃s:Unit,Hd True/\True/\al6 x x_2/\ahJ x_3 x_2 x)/\(∀s:Unit,Hd True->cP (decide (0<spn x_4-1)) (W9/\Ja/\0<64/\(0:Int)<=1/\Xe/\64<=64/\cP (Nat.ble (x.jD-28) 63) (28+(x.jD-28)<=Int.toNat (cpc x_2)/\(∀k:Nat,k<x.jD-28->alX x k)/\0<=((x.jD-28:Nat):Int)/\(vH x/\vH x/\vH x)/\64<=64/\64<=64/\Xd/\I64 (1:Int)/\ ∃s_1:Nat,vG s_1 x/\x.dJ-s_1<x.dJ+1/\al4 s_1 x/\(64*(s_1+1)=128/\
 ∀q:Nat,q<64*(s_1+1)->[Value.int .u8 (x.enc q)]=Cs.eff (fun(q_1:Nat)=>cond (Nat.blt q_1 64) [Value.int .u8 (x_3.b.kT (fun(k:Nat)=>x_3.d.g (x_3.d.q+k)) x_3.d.n (0+q_1))] (Cs.eff (fun(p:Nat)=>cond (Nat.ble 1 p&&Nat.blt p (1+(x.jD-28))) (Cs.eff (fun(p_1:Nat)=>cond (Nat.ble 0 p_1&&Nat.blt p_1 (0+ByteArray.size (x.key++x.value))) [Value.int .u8 (gG (x.key++x.value) (p_1-0))] [Value.int .u8 0]) [] (28+(p-1))) (Cs.eff (fun(x_5:Nat)=>[Value.int .u8 0]) [(0,[Value.int .u8 2])] p)) [] (0+(q_1-64)))) [] q)/\ahJ x_3 x_2 x) (91<=Int.toNat (cpc x_2)/\(∀k:Nat,k<63->alX x k)/\0<=((63:Nat):Int)/\(63<=x.jD-28/\vH x/\vH x)/\64<=64/\64<=64/\Xd/\I64 (1:Int)/\ ∃s_1:Nat,vG s_1 x/\x.dJ-s_1<x.dJ+1/\al5 s_1 x/\(64*(s_1+1)=128/\ ∀q:Nat,q<64*(s_1+1)->[Value.int .u8 (x.enc q)]=Cs.eff (fun(q_1:Nat)=>cond (Nat.blt q_1 64) [Value.int .u8 (x_3.b.kT (fun(k:Nat)=>x_3.d.g (x_3.d.q+k)) x_3.d.n (0+q_1))] (Cs.eff (fun(p:Nat)=>cond (Nat.ble 1 p&&Nat.blt p 64) (Cs.eff (fun(p_1:Nat)=>cond (Nat.ble 0 p_1&&Nat.blt p_1 (0+ByteArray.size (x.key++x.value))) [Value.int .u8 (gG (x.key++x.value) (p_1-0))] [Value.int .u8 0]) [] (28+(p-1))) (Cs.eff (fun(x_5:Nat)=>[Value.int .u8 0]) [(0,[Value.int .u8 2])] p)) [] (0+(q_1-64)))) [] q)/\ahJ x_3 x_2 x)) (al0 x x_3))/\(∀s:Nat,vG s x->cP (decide ((s:Int)<spn x_4-1)) (W9/\Ja/\0<64/\(0:Int)<=1/\Xe/\64<=64/\cP (Nat.ble (x.jD-28-63*s) 63) (28+63*s+(x.jD-28-63*s)<=Int.toNat (cpc x_2)/\(∀k:Nat,k<x.jD-28-63*s->alW x s k)/\0<=((x.jD-28-63*s:Nat):Int)/\(Xa x s/\
 Xb x s)/\64*(s+1)=64*(s+1)/\64<=64/\(∀k:Nat,k<64->(Nat.beq (List.length (Cs.eff (fun(p:Nat)=>cond (Nat.ble 1 p&&Nat.blt p (1+(x.jD-28-63*s))) (Cs.eff (fun(p_1:Nat)=>cond (Nat.ble 0 p_1&&Nat.blt p_1 (0+ByteArray.size (x.key++x.value))) [Value.int .u8 (gG (x.key++x.value) (p_1-0))] [Value.int .u8 0]) [] (28+63*s+(p-1))) (Cs.eff (fun(x_5:Nat)=>[Value.int .u8 0]) [(0,[Value.int .u8 2])] p)) [] (0+k))) 1&&List.all (Cs.eff (fun(p:Nat)=>cond (Nat.ble 1 p&&Nat.blt p (1+(x.jD-28-63*s))) (Cs.eff (fun(p_1:Nat)=>cond (Nat.ble 0 p_1&&Nat.blt p_1 (0+ByteArray.size (x.key++x.value))) [Value.int .u8 (gG (x.key++x.value) (p_1-0))] [Value.int .u8 0]) [] (28+63*s+(p-1))) (Cs.eff (fun(x_5:Nat)=>[Value.int .u8 0]) [(0,[Value.int .u8 2])] p)) [] (0+k)) Value.oneCell')=true)/\Xc s/\I64 ((s:Int)+1)/\ ∃s_1:Nat,vG s_1 x/\x.dJ-s_1<x.dJ-s/\al2 s_1 s x/\(I9 s_1 s/\ ∀q:Nat,q<64*(s_1+1)->[Value.int .u8 (x.enc q)]=Cs.eff (fun(q_1:Nat)=>cond (Nat.blt q_1 (64*(s+1))) [Value.int .u8 (x.enc q_1)] (Cs.eff (fun(p:Nat)=>cond (Nat.ble 1 p&&Nat.blt p (1+(x.jD-28-63*s))) (Cs.eff (fun(p_1:Nat)=>cond (Nat.ble 0 p_1&&Nat.blt p_1 (0+ByteArray.size (x.key++x.value))) [Value.int .u8 (gG (x.key++x.value) (p_1-0))] [Value.int .u8 0]) [] (28+63*s+(p-1))) (Cs.eff (fun(x_5:Nat)=>[Value.int .u8 0]) [(0,[Value.int .u8 2])] p)) [] (0+(q_1-64*(s+1))))) [] q)/\ahJ x_3 x_2 x) (28+63*s+63<=Int.toNat (cpc x_2)/\(∀k:Nat,k<63->alW x s k)/\0<=((63:Nat):Int)/\(63<=x.jD-28-63*s/\Xb x s)/\64*(s+1)=64*(s+1)/\64<=64/\
 (∀k:Nat,k<64->(Nat.beq (List.length (Cs.eff (fun(p:Nat)=>cond (Nat.ble 1 p&&Nat.blt p 64) (Cs.eff (fun(p_1:Nat)=>cond (Nat.ble 0 p_1&&Nat.blt p_1 (0+ByteArray.size (x.key++x.value))) [Value.int .u8 (gG (x.key++x.value) (p_1-0))] [Value.int .u8 0]) [] (28+63*s+(p-1))) (Cs.eff (fun(x_5:Nat)=>[Value.int .u8 0]) [(0,[Value.int .u8 2])] p)) [] (0+k))) 1&&List.all (Cs.eff (fun(p:Nat)=>cond (Nat.ble 1 p&&Nat.blt p 64) (Cs.eff (fun(p_1:Nat)=>cond (Nat.ble 0 p_1&&Nat.blt p_1 (0+ByteArray.size (x.key++x.value))) [Value.int .u8 (gG (x.key++x.value) (p_1-0))] [Value.int .u8 0]) [] (28+63*s+(p-1))) (Cs.eff (fun(x_5:Nat)=>[Value.int .u8 0]) [(0,[Value.int .u8 2])] p)) [] (0+k)) Value.oneCell')=true)/\Xc s/\I64 ((s:Int)+1)/\ ∃s_1:Nat,vG s_1 x/\x.dJ-s_1<x.dJ-s/\al3 s_1 s x/\(I9 s_1 s/\ ∀q:Nat,q<64*(s_1+1)->[Value.int .u8 (x.enc q)]=Cs.eff (fun(q_1:Nat)=>cond (Nat.blt q_1 (64*(s+1))) [Value.int .u8 (x.enc q_1)] (Cs.eff (fun(p:Nat)=>cond (Nat.ble 1 p&&Nat.blt p 64) (Cs.eff (fun(p_1:Nat)=>cond (Nat.ble 0 p_1&&Nat.blt p_1 (0+ByteArray.size (x.key++x.value))) [Value.int .u8 (gG (x.key++x.value) (p_1-0))] [Value.int .u8 0]) [] (28+63*s+(p-1))) (Cs.eff (fun(x_5:Nat)=>[Value.int .u8 0]) [(0,[Value.int .u8 2])] p)) [] (0+(q_1-64*(s+1))))) [] q)/\ahJ x_3 x_2 x)) (al1 x s))/\True) ((∀k:Nat,k<Int.toNat (cpc x_2)->al7 x k)/\ ∃x_3:Dl,Hd x_3.ok/\(aek x_3.b x/\(x_3.d.q=0/\x_3.d.n=Int.toNat (cpc x_2))/\True)/\((x_3.d.N=Int.toNat (cpc x_2)/\
 ∀q:Nat,q<x_3.d.N->[Value.int .u8 (x_3.d.g q)]=Cs.eff (fun(p:Nat)=>cond (Nat.ble 0 p&&Nat.blt p (0+Int.toNat (cpc x_2))) [Value.int .u8 (gG (x.key++x.value) (p-0))] [Value.int .u8 0]) [] q)/\True)/\ ∀y_2:Unit,True->(0:Int)<=28/\al8 x_2/\ ∃x_4:Int,True/\(x_4=x.cls/\True)/\True/\ ∀y_3:Unit,True->I64 (spn x_4-1)/\(∃s:Unit,Hd True/\True/\al6 x x_2/\ahK x_3 x_2 x)/\(∀s:Unit,Hd True->cP (decide (0<spn x_4-1)) (W9/\Ja/\0<64/\(0:Int)<=1/\Xe/\64<=64/\cP (Nat.ble (x.jD-28) 63) (28+(x.jD-28)<=Int.toNat (cpc x_2)/\(∀k:Nat,k<x.jD-28->alZ x_2 x k)/\0<=((x.jD-28:Nat):Int)/\(vH x/\vH x/\vH x)/\64<=64/\64<=64/\Xd/\I64 (1:Int)/\ ∃s_1:Nat,vG s_1 x/\x.dJ-s_1<x.dJ+1/\al4 s_1 x/\(64*(s_1+1)=128/\ ∀q:Nat,q<64*(s_1+1)->[Value.int .u8 (x.enc q)]=Cs.eff (fun(q_1:Nat)=>cond (Nat.blt q_1 64) [Value.int .u8 (x_3.b.kT (fun(k:Nat)=>x_3.d.g (x_3.d.q+k)) x_3.d.n (0+q_1))] (Cs.eff (fun(p:Nat)=>cond (Nat.ble 1 p&&Nat.blt p (1+(x.jD-28))) (Cs.eff (fun(p_1:Nat)=>cond (Nat.ble 0 p_1&&Nat.blt p_1 (0+Int.toNat (cpc x_2))) [Value.int .u8 (gG (x.key++x.value) (p_1-0))] [Value.int .u8 0]) [] (28+(p-1))) (Cs.eff (fun(x_5:Nat)=>[Value.int .u8 0]) [(0,[Value.int .u8 2])] p)) [] (0+(q_1-64)))) [] q)/\ahK x_3 x_2 x) (91<=Int.toNat (cpc x_2)/\(∀k:Nat,k<63->alZ x_2 x k)/\0<=((63:Nat):Int)/\(63<=x.jD-28/\vH x/\vH x)/\64<=64/\64<=64/\Xd/\I64 (1:Int)/\ ∃s_1:Nat,vG s_1 x/\x.dJ-s_1<x.dJ+1/\al5 s_1 x/\(64*(s_1+1)=128/\
 ∀q:Nat,q<64*(s_1+1)->[Value.int .u8 (x.enc q)]=Cs.eff (fun(q_1:Nat)=>cond (Nat.blt q_1 64) [Value.int .u8 (x_3.b.kT (fun(k:Nat)=>x_3.d.g (x_3.d.q+k)) x_3.d.n (0+q_1))] (Cs.eff (fun(p:Nat)=>cond (Nat.ble 1 p&&Nat.blt p 64) (Cs.eff (fun(p_1:Nat)=>cond (Nat.ble 0 p_1&&Nat.blt p_1 (0+Int.toNat (cpc x_2))) [Value.int .u8 (gG (x.key++x.value) (p_1-0))] [Value.int .u8 0]) [] (28+(p-1))) (Cs.eff (fun(x_5:Nat)=>[Value.int .u8 0]) [(0,[Value.int .u8 2])] p)) [] (0+(q_1-64)))) [] q)/\ahK x_3 x_2 x)) (al0 x x_3))/\(∀s:Nat,vG s x->cP (decide ((s:Int)<spn x_4-1)) (W9/\Ja/\0<64/\(0:Int)<=1/\Xe/\64<=64/\cP (Nat.ble (x.jD-28-63*s) 63) (28+63*s+(x.jD-28-63*s)<=Int.toNat (cpc x_2)/\(∀k:Nat,k<x.jD-28-63*s->alY x_2 x s k)/\0<=((x.jD-28-63*s:Nat):Int)/\(Xa x s/\Xb x s)/\64*(s+1)=64*(s+1)/\64<=64/\(∀k:Nat,k<64->(Nat.beq (List.length (Cs.eff (fun(p:Nat)=>cond (Nat.ble 1 p&&Nat.blt p (1+(x.jD-28-63*s))) (Cs.eff (fun(p_1:Nat)=>cond (Nat.ble 0 p_1&&Nat.blt p_1 (0+Int.toNat (cpc x_2))) [Value.int .u8 (gG (x.key++x.value) (p_1-0))] [Value.int .u8 0]) [] (28+63*s+(p-1))) (Cs.eff (fun(x_5:Nat)=>[Value.int .u8 0]) [(0,[Value.int .u8 2])] p)) [] (0+k))) 1&&List.all (Cs.eff (fun(p:Nat)=>cond (Nat.ble 1 p&&Nat.blt p (1+(x.jD-28-63*s))) (Cs.eff (fun(p_1:Nat)=>cond (Nat.ble 0 p_1&&Nat.blt p_1 (0+Int.toNat (cpc x_2))) [Value.int .u8 (gG (x.key++x.value) (p_1-0))] [Value.int .u8 0]) [] (28+63*s+(p-1))) (Cs.eff (fun(x_5:Nat)=>[Value.int .u8 0]) [(0,[Value.int .u8 2])] p)) [] (0+k)) Value.oneCell')=true)/\
 Xc s/\I64 ((s:Int)+1)/\ ∃s_1:Nat,vG s_1 x/\x.dJ-s_1<x.dJ-s/\al2 s_1 s x/\(I9 s_1 s/\ ∀q:Nat,q<64*(s_1+1)->[Value.int .u8 (x.enc q)]=Cs.eff (fun(q_1:Nat)=>cond (Nat.blt q_1 (64*(s+1))) [Value.int .u8 (x.enc q_1)] (Cs.eff (fun(p:Nat)=>cond (Nat.ble 1 p&&Nat.blt p (1+(x.jD-28-63*s))) (Cs.eff (fun(p_1:Nat)=>cond (Nat.ble 0 p_1&&Nat.blt p_1 (0+Int.toNat (cpc x_2))) [Value.int .u8 (gG (x.key++x.value) (p_1-0))] [Value.int .u8 0]) [] (28+63*s+(p-1))) (Cs.eff (fun(x_5:Nat)=>[Value.int .u8 0]) [(0,[Value.int .u8 2])] p)) [] (0+(q_1-64*(s+1))))) [] q)/\ahK x_3 x_2 x) (28+63*s+63<=Int.toNat (cpc x_2)/\(∀k:Nat,k<63->alY x_2 x s k)/\0<=((63:Nat):Int)/\(63<=x.jD-28-63*s/\Xb x s)/\64*(s+1)=64*(s+1)/\64<=64/\(∀k:Nat,k<64->(Nat.beq (List.length (Cs.eff (fun(p:Nat)=>cond (Nat.ble 1 p&&Nat.blt p 64) (Cs.eff (fun(p_1:Nat)=>cond (Nat.ble 0 p_1&&Nat.blt p_1 (0+Int.toNat (cpc x_2))) [Value.int .u8 (gG (x.key++x.value) (p_1-0))] [Value.int .u8 0]) [] (28+63*s+(p-1))) (Cs.eff (fun(x_5:Nat)=>[Value.int .u8 0]) [(0,[Value.int .u8 2])] p)) [] (0+k))) 1&&List.all (Cs.eff (fun(p:Nat)=>cond (Nat.ble 1 p&&Nat.blt p 64) (Cs.eff (fun(p_1:Nat)=>cond (Nat.ble 0 p_1&&Nat.blt p_1 (0+Int.toNat (cpc x_2))) [Value.int .u8 (gG (x.key++x.value) (p_1-0))] [Value.int .u8 0]) [] (28+63*s+(p-1))) (Cs.eff (fun(x_5:Nat)=>[Value.int .u8 0]) [(0,[Value.int .u8 2])] p)) [] (0+k)) Value.oneCell')=true)/\Xc s/\I64 ((s:Int)+1)/\ ∃s_1:Nat,vG s_1 x/\x.dJ-s_1<x.dJ-s/\al3 s_1 s x/\(I9 s_1 s/\
 ∀q:Nat,q<64*(s_1+1)->[Value.int .u8 (x.enc q)]=Cs.eff (fun(q_1:Nat)=>cond (Nat.blt q_1 (64*(s+1))) [Value.int .u8 (x.enc q_1)] (Cs.eff (fun(p:Nat)=>cond (Nat.ble 1 p&&Nat.blt p 64) (Cs.eff (fun(p_1:Nat)=>cond (Nat.ble 0 p_1&&Nat.blt p_1 (0+Int.toNat (cpc x_2))) [Value.int .u8 (gG (x.key++x.value) (p_1-0))] [Value.int .u8 0]) [] (28+63*s+(p-1))) (Cs.eff (fun(x_5:Nat)=>[Value.int .u8 0]) [(0,[Value.int .u8 2])] p)) [] (0+(q_1-64*(s+1))))) [] q)/\ahK x_3 x_2 x)) (al1 x s))/\True))
theorem aqr(x:dN):auo x=wpF Tryz.prog aum tt (awT x) 200 5 180 (aqp.args x) (hO aqp.k (aqp.os x)) (fun v h'=>fA aqp.k x v h' aqp.outs):=by kernel_rfl
def aa6(x:Int):Prop:=
 ∃x_1:Int,True/\(x_1=x/\True)/\True/\ ∀y:Unit,True->cP (BEq.beq (spn x_1) (0:Int)) (∃y_1:Unit,True/\False/\False/\True) (∃x_2:Int,True/\(x_2=x/\True)/\True/\ ∀y_1:Unit,True->ael x_2/\ ∃x_3:Dl,Hd x_3.ok/\((x_3.b.cls=x/\aei x_3.b)/\(x_3.d.q=0/\x_3.d.n=Int.toNat (cpc x_2))/\True)/\((x_3.d.N=Int.toNat (cpc x_2)/\ ∀q:Nat,q<x_3.d.N->[Value.int .u8 (x_3.d.g q)]=[Value.int .u8 0])/\True)/\ ∀y_2:Unit,True-> ∃y_3:Unit,True/\(0=0/\64=64/\64=64)/\(64=64/\ ∀q:Nat,q<64->[Value.int .u8 (dN.kT (dN.mk x (0:Int) (0:Int) (0:Int) (0:Int) (ByteArray.mk #[]) (ByteArray.mk #[])) (fun(x_4:Nat)=>(0:Int)) (Int.toNat (cpc x)) q)]=[Value.int .u8 (x_3.b.kT (fun(k:Nat)=>x_3.d.g (x_3.d.q+k)) x_3.d.n q)])/\True)
theorem ahL(x:Int):aa6 x=wpF Tryz.prog aum tt (noA x) 200 5 63 (I5.args x) (hO I5.k (I5.os x)) (fun v h'=>fA I5.k x v h' I5.outs):=by kernel_rfl
def ama(x:ED):Prop:=
 (0:Int)<=64/\(0:Int)<=36/\(36<=64/\64<=x.b.n/\x.b.n<=x.b.n)/\x.b.q+36+28<=x.b.N/\(2*(0+28)+1000)*1<=281474976710656/\(∃s:Unit,Hd True/\True/\((64:Int)=64/\(0=0/\28=0+28)/\True)/\(28=28/\ ∀q:Nat,q<28->[Value.int .u8 (x.at_ q)]=[Value.int .u8 (x.b.g (x.b.q+36+(q-0)))])/\True/\NM x.b)/\(∀s:Unit,Hd True->cP (decide (64<(x.b.n:Int))) (I64 (65:Int)/\I64 (128:Int)/\(0:Int)<=128/\(0:Int)<=65/\(65<=128/\128<=x.b.n/\x.b.n<=x.b.n)/\28=28/\x.b.q+65+63<=x.b.N/\(∀k:Nat,k<63->(Nat.beq (List.length [Value.int .u8 (x.b.g (x.b.q+65+k))]) 1&&List.all [Value.int .u8 (x.b.g (x.b.q+65+k))] Value.oneCell')=true)/\(2*(28+63)+1000)*1<=281474976710656/\I64 (128:Int)/\ ∃s_1:Nat,Hd (1<=s_1/\s_1+1<=x.s)/\x.s-s_1<x.s+1/\(((64+64*s_1:Nat):Int)=128/\(0=0/\28+63*s_1=91)/\True)/\(28+63*s_1=91/\ ∀q:Nat,q<28+63*s_1->[Value.int .u8 (x.at_ q)]=Cs.eff (fun(q_1:Nat)=>cond (Nat.blt q_1 28) [Value.int .u8 (x.at_ q_1)] [Value.int .u8 (x.b.g (x.b.q+65+(q_1-28)))]) [] q)/\True/\NM x.b) (28<=28/\(∀k:Nat,k<28->isByte [Value.int .u8 (x.at_ (0+k))]=true)/\ ∃y:Unit,True/\x.str= @ByteArray.mk (@List.toArray UInt8 (List.map (fun(k:Nat)=>UInt8.ofBitVec (@BitVec.ofNat 8 (Int.toNat (x.at_ (0+k))))) (@List.range 28)))/\NM x.b))/\(∀s:Nat,Hd (1<=s/\s+1<=x.s)->cP (decide (((64+64*s:Nat):Int)<(x.b.n:Int))) (I64 (((64+64*s:Nat):Int)+1)/\I64 (((64+64*s:Nat):Int)+64)/\0<=((64+64*s:Nat):Int)+64/\0<=((64+64*s:Nat):Int)+1/\(Int.toNat (((64+64*s:Nat):Int)+1)<=Int.toNat (((64+64*s:Nat):Int)+64)/\
 Int.toNat (((64+64*s:Nat):Int)+64)<=x.b.n/\x.b.n<=x.b.n)/\28+63*s=28+63*s/\x.b.q+Int.toNat (((64+64*s:Nat):Int)+1)+(Int.toNat (((64+64*s:Nat):Int)+64)-Int.toNat (((64+64*s:Nat):Int)+1))<=x.b.N/\(∀k:Nat,k<Int.toNat (((64+64*s:Nat):Int)+64)-Int.toNat (((64+64*s:Nat):Int)+1)->(Nat.beq (List.length [Value.int .u8 (x.b.g (x.b.q+Int.toNat (((64+64*s:Nat):Int)+1)+k))]) 1&&List.all [Value.int .u8 (x.b.g (x.b.q+Int.toNat (((64+64*s:Nat):Int)+1)+k))] Value.oneCell')=true)/\(2*(28+63*s+(Int.toNat (((64+64*s:Nat):Int)+64)-Int.toNat (((64+64*s:Nat):Int)+1)))+1000)*1<=281474976710656/\I64 (((64+64*s:Nat):Int)+64)/\ ∃s_1:Nat,Hd (1<=s_1/\s_1+1<=x.s)/\x.s-s_1<x.s-s/\(((64+64*s_1:Nat):Int)=((64+64*s:Nat):Int)+64/\(0=0/\al9 s_1 s)/\True)/\(al9 s_1 s/\ ∀q:Nat,q<28+63*s_1->[Value.int .u8 (x.at_ q)]=Cs.eff (fun(q_1:Nat)=>cond (Nat.blt q_1 (28+63*s)) [Value.int .u8 (x.at_ q_1)] [Value.int .u8 (x.b.g (x.b.q+Int.toNat (((64+64*s:Nat):Int)+1)+(q_1-(28+63*s))))]) [] q)/\True/\NM x.b) (0+(28+63*s)<=28+63*s/\(∀k:Nat,k<28+63*s->isByte [Value.int .u8 (x.at_ (0+k))]=true)/\ ∃y:Unit,True/\x.str= @ByteArray.mk (@List.toArray UInt8 (List.map (fun(k:Nat)=>UInt8.ofBitVec (@BitVec.ofNat 8 (Int.toNat (x.at_ (0+k))))) (@List.range (28+63*s))))/\NM x.b))/\True
theorem amb(x:ED):ama x=wpF Tryz.prog [] tt (asy x) 200 5 179 (aa5.args x) (hO aa5.k (aa5.os x)) (fun v h'=>fA aa5.k x v h' aa5.outs):=by kernel_rfl
def aup(x:alT):Prop:=
 cP (decide (((64*x.b.dJ:Nat):Int)<64)) (∃y:Unit,Dn x) ((0:Int)<=64/\(0<=64/\64<=64*x.b.dJ/\64*x.b.dJ<=64*x.b.dJ)/\Ja/\0<64*x.b.dJ/\cP (bne (x.g 0) (1:Int)) (∃y:Unit,Dn x) (((0:Int)<=1/\(0:Int)<=62)/\1<64*x.b.dJ/\I64 (x.g 1)/\ ∃x_1:Int,True/\(x_1=x.g 1/\True)/\True/\ ∀y:Unit,True->cP (BEq.beq (spn x_1) (0:Int)) (∃y_1:Unit,Dn x) (((0:Int)<=2/\(0:Int)<=61)/\2<64*x.b.dJ/\cP (decide (x.g 2>(3:Int))) (∃y_1:Unit,Dn x) (((0:Int)<=1/\(0:Int)<=62)/\1<64*x.b.dJ/\I64 (x.g 1)/\((0:Int)<=2/\(0:Int)<=61)/\2<64*x.b.dJ/\I64 (x.g 2)/\ ∃x_2:Int,True/\(x_2=x.g 1/\True)/\True/\ ∀y_1:Unit,True->I64 (spn x_2*64)/\cP (bne ((64*x.b.dJ:Nat):Int) (spn x_2*64)) (∃y_2:Unit,Dn x) (((0:Int)<=3/\4<=((64*x.b.dJ:Nat):Int))/\3<64*x.b.dJ/\I64 (x.g 3)/\ ∃x_3:I4,Bj x_3/\(EF x_3.b x.b/\(x_3.at_:Int)=4/\(x_3.w:Int)=2/\True)/\x9 x_3.b x/\ ∀y_2:Unit,True->((3<64*x.b.dJ/\AV.lit (Value.int .u8 (x.g 3))=AV.lit (Value.int .u8 (x.g 3)))/\True)/\I64 (zu (fun(k:Nat)=>x_3.b.g (x_3.b.q+k)) x_3.at_ x_3.w)/\ ∃x_4:ED,Hd (x_4.b.ok/\x_4.b.n=64*x_4.s/\1<=x_4.s/\x_4.s<=8)/\(EF x_4.b x.b/\True)/\x9 x_4.b x/\ ∀y_3:Unit,True->I64 (x.g 3+zu (fun(k:Nat)=>x_3.b.g (x_3.b.q+k)) x_3.at_ x_3.w)/\cP (decide (x.g 3+zu (fun(k:Nat)=>x_3.b.g (x_3.b.q+k)) x_3.at_ x_3.w>(x_4.str.size:Int))) (∃y_4:Unit,Dn x) (0<=x.g 3/\(0<=Int.toNat (x.g 3)/\Int.toNat (x.g 3)<=x_4.str.size/\x_4.str.size<=x_4.str.size)/\I64 (x.g 3+zu (fun(k:Nat)=>x_3.b.g (x_3.b.q+k)) x_3.at_ x_3.w)/\
 0<=x.g 3+zu (fun(k:Nat)=>x_3.b.g (x_3.b.q+k)) x_3.at_ x_3.w/\0<=x.g 3/\(Int.toNat (x.g 3)<=Int.toNat (x.g 3+zu (fun(k:Nat)=>x_3.b.g (x_3.b.q+k)) x_3.at_ x_3.w)/\Int.toNat (x.g 3+zu (fun(k:Nat)=>x_3.b.g (x_3.b.q+k)) x_3.at_ x_3.w)<=x_4.str.size/\x_4.str.size<=x_4.str.size)/\(∃x_5:I4,Bj x_5/\(EF x_5.b x.b/\(x_5.at_:Int)=8/\NK x_5.w)/\x9 x_5.b x/\ ∀y_4:Unit,True->True/\(∃x_6:I4,Bj x_6/\(EF x_6.b x.b/\(x_6.at_:Int)=16/\NK x_6.w)/\x9 x_6.b x/\ ∀y_5:Unit,True->True/\(∃x_7:I4,Bj x_7/\aej x_7 x.b/\x9 x_7.b x/\ ∀y_6:Unit,True->True/\True/\True/\ ∃x_8:dN,aeg x_8/\((x_8.cls=x.g 1/\x_8.kind=x.g 2/\oZ x_8.id x_5/\oZ x_8.ver x_6/\oZ x_8.epoch x_7/\aeh x_8 x_4 x x_3)/\True)/\True/\(∀y_7:Unit,Hd (x_8.cls=0)->64<=64/\(∀k:Nat,k<64->WZ x_8 k)/\yc x.b/\I7 x/\cP (Bool.not (BEq.beq (ByteArray.toList (@ByteArray.mk (@List.toArray UInt8 (List.map (fun(k:Nat)=>UInt8.ofBitVec (@BitVec.ofNat 8 (Int.toNat (x_8.enc (0+k))))) (@List.range 64))))) (ByteArray.toList (@ByteArray.mk (@List.toArray UInt8 (List.map (fun(k:Nat)=>UInt8.ofBitVec (@BitVec.ofNat 8 (Int.toNat (x.g (0+k))))) (@List.range (64*x.b.dJ)))))))) (∃y_8:Unit,Dn x) (∃y_8:Unit,True/\((x.b.cls=x.g 1/\x.b.kind=x.g 2/\oZ x.b.id x_5/\oZ x.b.ver x_6/\I8 x x_7 x_4 x_3)/\true=true/\True)/\WY x))/\ ∀y_7:Unit,Hd (x_8.cls≠(0:Int))->yc x_8/\aef x_8/\yc x.b/\I7 x/\
 cP (Bool.not (BEq.beq (ByteArray.toList (@ByteArray.mk (@List.toArray UInt8 (List.map (fun(k:Nat)=>UInt8.ofBitVec (@BitVec.ofNat 8 (Int.toNat (x_8.enc (0+k))))) (@List.range (64*x_8.dJ)))))) (ByteArray.toList (@ByteArray.mk (@List.toArray UInt8 (List.map (fun(k:Nat)=>UInt8.ofBitVec (@BitVec.ofNat 8 (Int.toNat (x.g (0+k))))) (@List.range (64*x.b.dJ)))))))) (∃y_8:Unit,Dn x) (∃y_8:Unit,True/\((x.b.cls=x.g 1/\x.b.kind=x.g 2/\oZ x.b.id x_5/\oZ x.b.ver x_6/\I8 x x_7 x_4 x_3)/\true=true/\True)/\WY x))/\True/\ ∃x_7:I4,Bj x_7/\aej x_7 x.b/\x9 x_7.b x/\ ∀y_6:Unit,True->True/\True/\ ∃x_8:dN,aeg x_8/\((x_8.cls=x.g 1/\x_8.kind=x.g 2/\oZ x_8.id x_5/\oZ x_8.ver x_6/\oZ x_8.epoch x_7/\aeh x_8 x_4 x x_3)/\True)/\True/\(∀y_7:Unit,Hd (x_8.cls=0)->64<=64/\(∀k:Nat,k<64->WZ x_8 k)/\yc x.b/\I7 x/\cP (Bool.not (BEq.beq (ByteArray.toList (@ByteArray.mk (@List.toArray UInt8 (List.map (fun(k:Nat)=>UInt8.ofBitVec (@BitVec.ofNat 8 (Int.toNat (x_8.enc (0+k))))) (@List.range 64))))) (ByteArray.toList (@ByteArray.mk (@List.toArray UInt8 (List.map (fun(k:Nat)=>UInt8.ofBitVec (@BitVec.ofNat 8 (Int.toNat (x.g (0+k))))) (@List.range (64*x.b.dJ)))))))) (∃y_8:Unit,Dn x) (∃y_8:Unit,True/\((x.b.cls=x.g 1/\x.b.kind=x.g 2/\oZ x.b.id x_5/\oZ x.b.ver x_6/\I8 x x_7 x_4 x_3)/\true=true/\True)/\WY x))/\ ∀y_7:Unit,Hd (x_8.cls≠(0:Int))->yc x_8/\aef x_8/\yc x.b/\I7 x/\
 cP (Bool.not (BEq.beq (ByteArray.toList (@ByteArray.mk (@List.toArray UInt8 (List.map (fun(k:Nat)=>UInt8.ofBitVec (@BitVec.ofNat 8 (Int.toNat (x_8.enc (0+k))))) (@List.range (64*x_8.dJ)))))) (ByteArray.toList (@ByteArray.mk (@List.toArray UInt8 (List.map (fun(k:Nat)=>UInt8.ofBitVec (@BitVec.ofNat 8 (Int.toNat (x.g (0+k))))) (@List.range (64*x.b.dJ)))))))) (∃y_8:Unit,Dn x) (∃y_8:Unit,True/\((x.b.cls=x.g 1/\x.b.kind=x.g 2/\oZ x.b.id x_5/\oZ x.b.ver x_6/\I8 x x_7 x_4 x_3)/\true=true/\True)/\WY x))/\aun x x_5 x_4 x_3)/\True/\ ∃x_5:I4,Bj x_5/\(EF x_5.b x.b/\(x_5.at_:Int)=8/\NK x_5.w)/\x9 x_5.b x/\ ∀y_4:Unit,True->aun x x_5 x_4 x_3))))))
theorem aqs(x:alT):aup x=wpF Tryz.prog awU tt (noA x) 200 5 121 (aul.args x) (hO aul.k (aul.os x)) (fun v h'=>fA aul.k x v h' aul.outs):=by kernel_rfl
theorem xM{c:Int}(h:spn c≠0):0<=c/\c<=3/\1<=spn c/\spn c<=8/\cpc c=28+63*(spn c-1):=by
 unfold spn at*
 unfold cpc
 grind
theorem amc{n:Int}(h:spn (ned n)≠0):n<=cpc (ned n):=by
 unfold ned spn at*
 unfold cpc
 grind
theorem aa7{b:dN}(h:b.may):((b.key.size+b.value.size:Nat):Int)<=cpc b.cls:=by
 obtain⟨hs,h⟩:=h
 have hc:=xM hs
 rcases h with ⟨_,_,_,_,h1,h2⟩|⟨_,_,_,_,h,_⟩|⟨_,_,_,h,_⟩|⟨_,h,_⟩
 ·rw[h1,h2];show((0:Nat):Int)<=_;omega
 ·rw[<-h];exact amc (by rw[h];exact hs)
 ·rw[<-h];exact amc (by rw[h];exact hs)
 ·rw[h];omega
theorem Xf(x:Int)(hx:0<=x/\x<=3):aa6 x:=by
 have hs:spn x≠0:=by have:=aaT hx;omega
 have hc:=xM hs
 unfold aa6
 simp only[ael,aei]
 simp only[aY,aU,aT,ay,aH,bP,bC,aN,aJ,au,aW,aV,bQ,bF,bG,bH,bT,bf,bJ,aZ,dZ,aG,aK,ah,aj,aA,aC,aB,aF]
 rw[show(spn x==0)=false from beq_eq_false_iff_ne.2 hs,jJ]
 refine⟨by omega,⟨⟨x,0,0,0,0,⟨#[]⟩,⟨#[]⟩⟩,⟨fun _=>0,0,(cpc x).toNat,(cpc x).toNat⟩⟩,?_,⟨⟨rfl,rfl,rfl,rfl,rfl,rfl,rfl⟩,rfl,rfl⟩,⟨rfl,fun q _=>rfl⟩,fun q _=>rfl⟩
 exact⟨⟨show 0+(cpc x).toNat<=(cpc x).toNat by omega,show(cpc x).toNat<1099511627776 by omega,fun _=>⟨show(0:Int)<=0 by decide,show(0:Int)<256 by decide⟩⟩,show 28<=(cpc x).toNat by omega,show(0:Nat)<256 by decide,show(0:Nat)<65536 by decide,hx.1,show x<256 by omega,show(0:Int)<=0 by decide,show(0:Int)<256 by decide,show(0:Int)<=0 by decide,show(0:Int)<18446744073709551616 by decide,show(0:Int)<=0 by decide,show(0:Int)<18446744073709551616 by decide,show(0:Int)<=0 by decide,show(0:Int)<18446744073709551616 by decide⟩
theorem Bl{z:Int}(h:0<=z/\z<256):isByte [Value.int .u8 z]=true:=by
 unfold isByte
 simp only[decide_eq_true h.1,decide_eq_true h.2,Bool.and_self]
theorem aem{x:ED}(h:x.b.ok)(i:Nat):0<=x.at_ i/\x.at_ i<256:=by
 unfold ED.at_
 split<;>exact h.2.2 _
theorem aen{x:ED}{s q:Nat}(h1: ¬q<28+63*s)(h2:q<28+63*(s+1)):x.at_ q=x.b.g (x.b.q+(64*(s+1)+1)+(q-(28+63*s))):=by
 unfold ED.at_
 have e1:(q-28)/63=s:=by omega
 rw[if_neg (by omega),e1]
 congr 1
 omega
theorem aa8(x:ED)(hx:x.b.ok/\x.b.n=64*x.s/\1<=x.s/\x.s<=8):ama x:=by
 obtain⟨ho,hn,h1,h2⟩:=hx
 obtain⟨o1,o2,o3⟩:=id ho
 have t1: ∀s:Nat,(((64+64*s:Nat):Int)+1).toNat=64*(s+1)+1:=fun s=>by omega
 have t2: ∀s:Nat,(((64+64*s:Nat):Int)+64).toNat=64*(s+1)+64:=fun s=>by omega
 unfold ama
 simp only[NM,al9]
 simp only[aY,aU,aT,ay,aH,bP,bC,aN,aJ,au,aW,aV,bQ,bF,bG,bH,bT,bf,bJ,aZ,dZ,aG,aK,ah,aj,aA,aC,aB,aF,t1,t2]
 refine⟨by decide,by decide,⟨by decide,by omega,by omega⟩,by omega,by decide,fun q hq=> ?_,bg (fun h=> ?_) fun h=> ?_,fun s hs=>bg (fun h=> ?_) fun h=> ?_⟩
 ·unfold ED.at_
  rw[if_pos hq];congr 1;omega
 ·have h:=aQ h
  refine⟨by unfold I64;omega,by unfold I64;omega,by decide,by decide,⟨by decide,by omega,by omega⟩,by omega,by decide,by unfold I64;omega,1,by omega,by omega,by omega,by omega,fun q hq=> ?_⟩
  by_cases hq1:q<28
  ·rw[bW.2 hq1];rfl
  ·rw[cO,decide_eq_false hq1,aP]
   exact aen (s:=0) (by omega) (by omega)
 ·have h:=aS h
  have:x.s=1:=by omega
  refine⟨by decide,fun k _=>Bl (aem ho k),?_⟩
  unfold ED.str;rw[this];rfl
 ·have h:=aQ h
  refine⟨by unfold I64;omega,by unfold I64;omega,by omega,by omega,⟨by omega,by omega,by omega⟩,by omega,by omega,by unfold I64;omega,s+1,by omega,by omega,by omega,by omega,fun q hq=> ?_⟩
  by_cases hq1:q<28+63*s
  ·rw[bW.2 hq1];rfl
  ·rw[cO,decide_eq_false hq1,aP]
   exact aen hq1 (by omega)
 ·have h:=aS h
  have:x.s=s+1:=by omega
  refine⟨by omega,fun k _=>Bl (aem ho k),?_⟩
  unfold ED.str;rw[this];rfl
theorem asA{s:ByteArray}{o k n B:Nat}(hk:k<64)(hB:64<=B):(bif Nat.ble 1 k&&Nat.blt k B then [Value.int .u8 (bif Nat.blt (o+(k-1)) n then(gG s (o+(k-1)):Int)else 0)]else Cs.eff (fun _=>[Value.int .u8 0]) [(0,[Value.int .u8 2])] k)=
  [Value.int .u8 (if k=0 then 2 else if o+(k-1)<n then(gG s (o+(k-1)):Int)else 0)]:=by
 rw[IQ]
 simp only[dR,cO,eX,<-Bool.decide_and]
 by_cases h:k=0
 ·subst h;simp
 ·rw[if_pos ⟨by omega,by omega⟩,if_neg h]
theorem QS(x:dN)(t r:Nat)(hr:r<64):x.enc (64*(t+1)+r)=if r=0 then 2 else x.dat (28+63*t+(r-1)):=by
 unfold dN.enc
 rw[if_neg (by omega),show(64*(t+1)+r)%64=r by omega,show(64*(t+1)+r)/64=t+1 by omega,Nat.add_sub_cancel,Nat.mul_comm t 63]
theorem QT(x:dN){t q B o n:Nat}(h1: ¬q<64*(t+1))(h2:q<64*(t+1+1))(hB:64<=B)(ho:o=28+63*t)(hn:n=(x.key++x.value).size):[Value.int .u8 (x.enc q)]=(bif Nat.ble 1 (q-64*(t+1))&&Nat.blt (q-64*(t+1)) B then [Value.int .u8 (bif Nat.blt (o+(q-64*(t+1)-1)) n then(gG (x.key++x.value) (o+(q-64*(t+1)-1)):Int)else 0)]else Cs.eff (fun _=>[Value.int .u8 0]) [(0,[Value.int .u8 2])] (q-64*(t+1))):=by
 rw[asA (by omega) hB,show q=64*(t+1)+(q-64*(t+1)) by omega,QS x t _ (by omega),Nat.add_sub_cancel_left,ho,hn]
 rfl
theorem amd{s:ByteArray}{o k n B:Nat}(hk:k<64)(hB:64<=B):((bif Nat.ble 1 k&&Nat.blt k B then [Value.int .u8 (bif Nat.blt (o+(k-1)) n then(gG s (o+(k-1)):Int)else 0)]else Cs.eff (fun _=>[Value.int .u8 0]) [(0,[Value.int .u8 2])] k).length.beq 1&&(bif Nat.ble 1 k&&Nat.blt k B then [Value.int .u8 (bif Nat.blt (o+(k-1)) n then(gG s (o+(k-1)):Int)else 0)]else Cs.eff (fun _=>[Value.int .u8 0]) [(0,[Value.int .u8 2])] k).all Value.oneCell')=true:=by
 rw[asA hk hB];rfl
theorem QU(x:dN)(k:Nat):0<=x.dat k/\x.dat k<256:=by
 unfold dN.dat
 split
 ·unfold gG
  have:=(((x.key++x.value).data.toList.getD k 0)).toNat_lt
  exact⟨by omega,by omega⟩
 ·exact⟨by decide,by decide⟩
theorem GI{x:dN}(h:x.may):x.key.size<256/\x.value.size<65536/\0<=x.kind/\x.kind<256/\0<=x.id/\x.id<18446744073709551616/\0<=x.ver/\x.ver<18446744073709551616/\0<=x.epoch/\x.epoch<18446744073709551616:=by
 have hC:=aa7 h
 have hc:=xM h.1
 obtain⟨hs,h⟩:=h
 unfold dN.nums dN.num at h
 have e0:ByteArray.size ⟨#[]⟩=0:=rfl
 rcases h with ⟨h0,h1,h2,h3,h4,h5⟩|⟨h0,h1,h2,h3,h4,h5,h6,h7⟩|⟨h0,h1,h2,h3,h5,h6,h7⟩|⟨h0,h1,h2,h5,h6,h7⟩
 ·rw[h4,h5];omega
 ·omega
 ·rw[h1];omega
 ·omega
theorem ahM(x:dN)(hx:x.may/\x.key.size<1099511627776/\x.value.size<1099511627776):auo x:=by
 obtain⟨hm,hk,hv⟩:=hx
 have hM:x.Zi=true:=Bg.2 hm
 have hc:=xM hm.1
 have hC:=aa7 hm
 have hD:=GI hm
 have hsz:(x.key++x.value).size=x.key.size+x.value.size:=ByteArray.size_append
 have hcap:(cpc x.cls).toNat=x.jD:=rfl
 have hb:Nat.ble (x.key++x.value).size x.jD=true:=by rw[Nat.ble_eq,hsz,<-hcap];omega
 have hN:x.jD=28+63*(x.dJ-1):=by unfold dN.jD dN.dJ;omega
 have hS:(x.dJ:Int)=spn x.cls:=by unfold dN.dJ;omega
 have h0:x.cls=0↔x.dJ=1:=by
  have:x.cls=0↔spn x.cls=1:=by unfold spn;grind
  rw[this];omega
 have e1: ∀q,q<64->x.enc q=x.kT x.dat x.jD q:=fun q hq=>if_pos hq
 have hN8:x.dJ<=8/\1<=x.dJ:=by omega
 unfold auo
 simp only[aek,ael,al7,al8,al6,ahJ,W9,Ja,Xe,alX,vH,Xd,vG,al4,al5,al0,alW,Xa,Xb,Xc,al2,I9,al3,al1,ahK,alZ,alY,alU,alV]
 simp only[aY,aU,aT,ay,aH,bP,bC,aN,aJ,au,aW,aV,bQ,bF,bG,bH,bT,bf,bJ,aZ,dZ,aG,aK,ah,aj,aA,aC,aB,aF,hcap]
 refine⟨x,⟨hk,hv⟩,⟨rfl,rfl,rfl,rfl,rfl,rfl,rfl⟩,?_⟩
 rw[hM,Bool.not_true,jJ]
 refine⟨by omega,by omega,by omega,?_⟩
 rw[hb,lJ]
 refine⟨⟨x,⟨x.dat,0,x.jD,x.jD⟩⟩,⟨⟨by show 0+x.jD<=x.jD;omega,by show x.jD<1099511627776;omega,QU x⟩,by show 28<=x.jD;omega,hD.1,hD.2.1,hc.1,by show x.cls<256;omega,hD.2.2⟩,⟨⟨rfl,rfl,rfl,rfl,rfl,rfl,rfl⟩,rfl,rfl⟩,⟨rfl,fun q _=> ?_⟩,?_⟩
 ·simp only[cO,eX];rfl
 ·simp only[ay]
  refine⟨by decide,by omega,by unfold I64;omega,bg (fun h=> ?_) fun h=> ?_,fun s hs=>bg (fun h=> ?_) fun h=> ?_⟩
  ·have h:=aQ h
   refine⟨by decide,by decide,by decide,by decide,by decide,by decide,bg (fun hb=> ?_) fun hb=> ?_⟩
   ·have hb:=Nat.le_of_ble_eq_true hb
    refine⟨by omega,by omega,by omega,by decide,by decide,by decide,by unfold I64;omega,1,by omega,by omega,by omega,by omega,fun q hq=> ?_⟩
    by_cases hq1:q<64
    ·rw[bW.2 hq1,aO,e1 q hq1]
    ·rw[cO,decide_eq_false hq1,aP]
     exact QT x (t:=0) (by omega) (by omega) (by omega) rfl rfl
   ·refine⟨by omega,by omega,⟨by omega,by omega⟩,by decide,by decide,by decide,by unfold I64;omega,1,by omega,by omega,by omega,by omega,fun q hq=> ?_⟩
    by_cases hq1:q<64
    ·rw[bW.2 hq1,aO,e1 q hq1]
    ·rw[cO,decide_eq_false hq1,aP]
     exact QT x (t:=0) (by omega) (by omega) (by omega) rfl rfl
  ·have h:=aS h
   exact .inl ⟨h0.2 (by omega),fun q hq=>e1 q hq⟩
  ·have h:=aQ h
   refine⟨by decide,by decide,by decide,by decide,by decide,by decide,bg (fun hb=> ?_) fun hb=> ?_⟩
   ·have hb:=Nat.le_of_ble_eq_true hb
    refine⟨by omega,by omega,by omega,by decide,fun k hk=>amd hk (by omega),by omega,by unfold I64;omega,s+1,by omega,by omega,by omega,by omega,fun q hq=> ?_⟩
    by_cases hq1:q<64*(s+1)
    ·rw[bW.2 hq1,aO]
    ·rw[cO,decide_eq_false hq1,aP]
     exact QT x hq1 (by omega) (by omega) rfl rfl
   ·refine⟨by omega,by omega,⟨by omega,by omega⟩,by decide,fun k hk=>amd hk (by omega),by omega,by unfold I64;omega,s+1,by omega,by omega,by omega,by omega,fun q hq=> ?_⟩
    by_cases hq1:q<64*(s+1)
    ·rw[bW.2 hq1,aO]
    ·rw[cO,decide_eq_false hq1,aP]
     exact QT x hq1 (by omega) (by omega) rfl rfl
  ·have h:=aS h
   exact .inr ⟨fun e=>by have:=h0.1 e;omega,by omega⟩
theorem aeo{g:Nat->Int}{a:Nat}{v:Int}(h0:0<=v): ∀w,(∀i,i<w->g (a+i)=v/256^i%256)->zu g a w=v%256^w
 |0,_=>by show(0:Int)=v%256^0;rw[Int.pow_zero,Int.emod_one]
 |w+1,h=>by
  simp only[zu]
  rw[aeo h0 w fun i hi=>h i (by omega),h w (by omega),Int.pow_succ]
  have hp:(0:Int)<256^w:=Int.pow_pos (by omega)
  have h1:=Int.emod_add_mul_ediv v (256^w)
  have h2:=Int.emod_add_mul_ediv (v/256^w) 256
  have h3:=Int.emod_add_mul_ediv v (256^w*256)
  have h4:v/(256^w*256)=v/256^w/256:=(Int.ediv_ediv_of_nonneg (Int.le_of_lt hp)).symm
  rw[h4]at h3
  generalize (256:Int)^w=p at*
  have h5:p*(v/p)=p*((v/p)%256)+p*(256*(v/p/256)):=by rw[<-Int.mul_add,h2]
  have h6:p*256*(v/p/256)=p*(256*(v/p/256)):=Int.mul_assoc _ _ _
  have h7:(v/p)%256*p=p*((v/p)%256):=Int.mul_comm _ _
  omega
theorem QV{g:Nat->Int}{a w:Nat}{v:Int}(h0:0<=v)(h1:v<256^w)(h: ∀i,i<w->g (a+i)=v/256^i%256):zu g a w=v:=by
 rw[aeo h0 w h];exact Int.emod_eq_of_lt h0 h1
theorem awV{x:dN}(h:x.may)(k:Nat):0<=x.h32 k/\x.h32 k<256:=by
 have hD:=GI h
 have hc:=xM h.1
 unfold dN.h32
 repeat' split
 all_goals first|exact oG _ _|omega
theorem vI{x:dN}(h:x.may)(k:Nat):0<=x.enc k/\x.enc k<256:=by
 unfold dN.enc
 split
 ·unfold dN.kT
  split
  ·exact awV h k
  ·split
   ·exact oG _ _
   ·exact QU x _
 ·split
  ·exact⟨by decide,by decide⟩
  ·exact QU x _
theorem Jb{x:dN}{k:Nat}(h:k<32):x.enc k=x.h32 k:=by
 unfold dN.enc
 rw[if_pos (by omega)]
 unfold dN.kT
 rw[if_pos h]
theorem auq{x:dN}(h:x.may):zu x.enc 4 2=x.value.size/\zu x.enc 8 8=x.id/\zu x.enc 16 8=x.ver/\zu x.enc 24 8=x.epoch:=by
 have hD:=GI h
 refine⟨QV (by omega) (by omega) fun i hi=> ?_,QV (by omega) (by omega) fun i hi=> ?_,QV (by omega) (by omega) fun i hi=> ?_,QV (by omega) (by omega) fun i hi=> ?_⟩
 all_goals
  rw[Jb (by omega)]
  unfold dN.h32
  repeat rw[if_neg (by omega)]
  rw[if_pos (by omega)]
  congr 2
  congr 1
  omega
theorem ahN(n:Nat)(f:Nat->UInt8):(mkStr n f).size=n:=by
 show(((List.range n).map f).toArray).size=n
 simp
theorem Xg{n a b:Nat}{f:Nat->UInt8}{s:ByteArray}(h1:b=a+s.size)(h2:b<=n)(h: ∀i (hi:i<s.size),f (a+i)=s.data[i]):(mkStr n f).extract a b=s:=by
 have e:((mkStr n f).extract a b).data=s.data:=by
  rw[ByteArray.data_extract]
  refine Array.ext ?_ fun i h3 h4=> ?_
  ·show((List.map f (List.range n)).toArray.extract a b).size=s.size
   simp;omega
  ·show((List.map f (List.range n)).toArray.extract a b)[i]=_
   rw[<-h i h4]
   simp
 cases s;cases h':(mkStr n f).extract a b;rw[h']at e;cases e;rfl
theorem ahO(x:dN)(i:Nat)(hi:i<(x.key++x.value).size):UInt8.ofNat (x.dat i).toNat=(x.key++x.value).data[i]:=by
 unfold dN.dat
 rw[if_pos hi]
 unfold gG
 rw[au,List.getD_eq_getElem?_getD,Array.getElem?_toList]
 have e:(x.key++x.value).data[i]? =some (x.key++x.value).data[i]:=Array.getElem?_eq_getElem hi
 rw[e,Option.getD_some]
 exact UInt8.ofNat_toNat
theorem awW{x:dN}{s:Nat}(i:Nat):(ED.mk ⟨x.enc,0,64*s,64*s⟩ s).at_ i=x.dat i:=by
 unfold ED.at_
 simp only[ay]
 split
 ·rename_i h
  unfold dN.enc
  rw[if_pos (by omega)]
  unfold dN.kT
  rw[if_neg (by omega),if_neg (by omega)]
  congr 1;omega
 ·rename_i h
  rw[show 64*((i-28)/63+1)+1+(i-28)%63=64*((i-28)/63+1)+(1+(i-28)%63) by omega,QS x _ _ (by omega),if_neg (by omega)]
  congr 1;omega
theorem ahP(x:alT)(hx:x.b.may/\x.b.key.size<1099511627776/\x.b.value.size<1099511627776/\ ∀k,k<64*x.b.dJ->x.g k=x.b.enc k):aup x:=by
 obtain⟨hm,hk,hv,hg⟩:=hx
 have hc:=xM hm.1
 have hC:=aa7 hm
 have hD:=GI hm
 have hE:=auq hm
 have hS:(x.b.dJ:Int)=spn x.b.cls:=by unfold dN.dJ;omega
 have g0:x.g 0=1:=by rw[hg 0 (by omega),Jb (by omega)];rfl
 have g1:x.g 1=x.b.cls:=by rw[hg 1 (by omega),Jb (by omega)];rfl
 have g2:x.g 2=x.b.kind:=by rw[hg 2 (by omega),Jb (by omega)];rfl
 have g3:x.g 3=x.b.key.size:=by rw[hg 3 (by omega),Jb (by omega)];rfl
 have hB:Bys.ok ⟨x.b.enc,0,64*x.b.dJ,64*x.b.dJ⟩:=⟨by simp,by show 64*x.b.dJ<_;omega,vI hm⟩
 have hkd:x.b.kind<=3:=by
  have:=hm.2
  omega
 unfold aup
 simp only[Dn,Ja,Bj,EF,x9,NK,aej,aeg,oZ,aeh,WZ,yc,I7,I8,WY,aef,aun,aei]
 simp only[aY,aU,aT,ay,aH,bP,bC,aN,aJ,au,aW,aV,bQ,bF,bG,bH,bT,bf,bJ,aZ,dZ,aG,aK,ah,aj,aA,aC,aB,aF,g0,g1,g2,g3]
 refine bg (fun h=>absurd (aQ h) (by omega)) fun _=>⟨by decide,⟨by decide,by omega,by omega⟩,by decide,by omega,bg (fun h=>absurd h (by decide)) fun _=>⟨by decide,by omega,by unfold I64;omega,bg (fun h=>absurd (beq_iff_eq.1 h) hm.1) fun _=>⟨by decide,by omega,bg (fun h=>absurd (aQ h) (by omega)) fun _=>⟨by decide,by omega,by unfold I64;omega,by decide,by omega,by unfold I64;omega,by unfold I64;omega,bg (fun h=>absurd (bne_iff_ne.1 h) (by omega)) fun _=>⟨⟨by decide,by omega⟩,by omega,by unfold I64;omega,
  ⟨⟨x.b.enc,0,64*x.b.dJ,64*x.b.dJ⟩,4,2⟩,⟨hB,by show 4+2<=64*x.b.dJ;omega,by show 1<=2;decide,by show 2<=8;decide⟩,⟨⟨rfl,rfl⟩,rfl,rfl⟩,⟨rfl,fun q hq=>(hg q hq).symm⟩,by omega,?_⟩⟩⟩⟩⟩
 simp only[ay,hE]
 refine⟨by unfold I64;omega,⟨⟨x.b.enc,0,64*x.b.dJ,64*x.b.dJ⟩,x.b.dJ⟩,⟨hB,rfl,by show 1<=x.b.dJ;omega,by show x.b.dJ<=8;omega⟩,⟨rfl,rfl⟩,⟨rfl,fun q hq=>(hg q hq).symm⟩,?_⟩
 have hsz:(x.b.key++x.b.value).size=x.b.key.size+x.b.value.size:=ByteArray.size_append
 have hstr: ∀i (hi:i<(x.b.key++x.b.value).size),UInt8.ofNat ((ED.mk ⟨x.b.enc,0,64*x.b.dJ,64*x.b.dJ⟩ x.b.dJ).at_ i).toNat=(x.b.key++x.b.value).data[i]:=fun i hi=>by rw[awW];exact ahO x.b i hi
 have s1:(ED.mk ⟨x.b.enc,0,64*x.b.dJ,64*x.b.dJ⟩ x.b.dJ).str.size=28+63*(x.b.dJ-1):=ahN _ _
 have s2:(ED.mk ⟨x.b.enc,0,64*x.b.dJ,64*x.b.dJ⟩ x.b.dJ).str.extract 0 x.b.key.size=x.b.key:=Xg (by omega) (by show x.b.key.size<=28+63*(x.b.dJ-1);omega) fun i hi=>by
  rw[hstr (0+i) (by omega)]
  simp only[ay,ByteArray.data_append]
  exact Array.getElem_append_left hi
 have s3:(ED.mk ⟨x.b.enc,0,64*x.b.dJ,64*x.b.dJ⟩ x.b.dJ).str.extract x.b.key.size ((x.b.key.size:Int)+(x.b.value.size:Int)).toNat=x.b.value:=Xg (by omega) (by show((x.b.key.size:Int)+(x.b.value.size:Int)).toNat<=28+63*(x.b.dJ-1);omega) fun i hi=>by
  rw[hstr (x.b.key.size+i) (by omega)]
  simp only[ByteArray.data_append]
  have:x.b.key.data.size=x.b.key.size:=rfl
  rw[Array.getElem_append_right (by omega)]
  congr 1
  omega
 rw[s2,s3,s1]
 have hget: ∀a,a+8<=64->(I4.mk ⟨x.b.enc,0,64*x.b.dJ,64*x.b.dJ⟩ a 8).b.ok/\a+8<=64*x.b.dJ/\1<=8/\8<=8:=fun a ha=>⟨hB,by omega,by decide,by decide⟩
 refine⟨by unfold I64;omega,bg (fun h=>absurd (aQ h) (by omega)) fun _=>⟨by omega,by omega,by unfold I64;omega,by omega,by omega,by omega,
  ⟨⟨x.b.enc,0,64*x.b.dJ,64*x.b.dJ⟩,8,8⟩,hget 8 (by decide),⟨⟨rfl,rfl⟩,rfl,rfl⟩,⟨rfl,fun q hq=>(hg q hq).symm⟩,
  ⟨⟨x.b.enc,0,64*x.b.dJ,64*x.b.dJ⟩,16,8⟩,hget 16 (by decide),⟨⟨rfl,rfl⟩,rfl,rfl⟩,⟨rfl,fun q hq=>(hg q hq).symm⟩,
  ⟨⟨x.b.enc,0,64*x.b.dJ,64*x.b.dJ⟩,24,8⟩,hget 24 (by decide),⟨⟨rfl,rfl⟩,rfl,rfl⟩,⟨rfl,fun q hq=>(hg q hq).symm⟩,?_⟩⟩
 simp only[ay,hE]
 refine⟨x.b,⟨hm,hk,hv⟩,⟨rfl,rfl,rfl,rfl,rfl,rfl,rfl⟩,?_⟩
 have hb: ∀k,k<64*x.b.dJ->isByte [Value.int .u8 (x.g k)]=true:=fun k hk=>by rw[hg k hk];exact Bl (vI hm k)
 have he: ∀k,isByte [Value.int .u8 (x.b.enc k)]=true:=fun k=>Bl (vI hm k)
 have hq: ∀n,n=64*x.b.dJ->(!(ByteArray.toList ⟨(List.map (fun k=>(⟨BitVec.ofNat 8 (x.b.enc k).toNat⟩:UInt8)) (List.range n)).toArray⟩==ByteArray.toList ⟨(List.map (fun k=>(⟨BitVec.ofNat 8 (x.g k).toNat⟩:UInt8)) (List.range (64*x.b.dJ))).toArray⟩))=false:=fun n hn=>by
  subst hn
  rw[Bool.not_eq_false',NJ]
  congr 2
  exact List.map_congr_left fun k hk=>by rw[hg k (List.mem_range.1 hk)]
 have h1:x.b.cls=0->64=64*x.b.dJ:=fun h=>by
  have:spn x.b.cls=1:=by rw[h];rfl
  omega
 refine⟨fun h=>⟨aX _,fun k _=>he k,aX _,hb,?_⟩,fun h=>⟨aX _,fun k _=>he k,aX _,hb,?_⟩⟩
 ·rw[hq 64 (h1 h),jJ]
  exact⟨trivial,trivial,trivial,trivial,trivial⟩
 ·rw[hq _ rfl,jJ]
  exact⟨trivial,trivial,trivial,trivial,trivial⟩
theorem aer:fJ Tryz.prog aum:= .cons (bU mX) (.cons (bU asq) (.cons (bU asx) (.cons (bU auk) .nil)))
theorem ame:bZ Tryz.prog 180 aqp:=gB dB mixed aer awT 200 5 (fun _=>rfl) (fun _=>⟨fun _=>rfl,fun _=>rfl,trivial⟩) fun x hx=>Eq.mp (aqr x) (ahM x (aY.1 hx))
theorem aqt:bZ Tryz.prog 63 I5:=dV dB mixed aer noA 200 5 (fun _=>rfl) (fun _=>rfl) fun x hx=>Eq.mp (ahL x) (Xf x (aY.1 hx))
theorem aur:bZ Tryz.prog 179 aa5:=dV dB mixed .nil asy 200 5 (fun _=>rfl) (fun _=>rfl) fun x hx=>Eq.mp (amb x) (aa8 x (aY.1 hx))
theorem aqu:fJ Tryz.prog awU:= .cons (bU mX) (.cons (bU awS) (.cons (bU aur) (.cons (bU ame) .nil)))
theorem awX:bZ Tryz.prog 121 aul:=dV dB mixed aqu noA 200 5 (fun _=>rfl) (fun _=>rfl) fun x hx=>Eq.mp (aqs x) (ahP x (aY.1 hx))
def lT:List dw:= .cells 172 (.av [.mp 1,.mp 2,.mp 3,.mp 4,.mp 5,.mp 6,.mp 7,.mp 8])::List.replicate 8 (.map [] 0)
def ahQ:jR:=nG Unit (fun _=>[.ptr 0 0]) 1 (fun _=>[.m lT]) (fun _=>Hd True) (fun _=>fO) 1 (fun _=>[.m lT])
def aus:Prop:=True/\True/\True/\True/\True/\True/\True/\True/\True
def amf(x:Unit):Prop:=
 ((0:Int)<=0/\(0:Int)<=7)/\I64 (1:Int)/\((0:Int)<=1/\(0:Int)<=6)/\I64 (2:Int)/\((0:Int)<=2/\(0:Int)<=5)/\I64 (3:Int)/\((0:Int)<=3/\(0:Int)<=4)/\I64 (4:Int)/\((0:Int)<=4/\(0:Int)<=3)/\I64 (5:Int)/\((0:Int)<=5/\(0:Int)<=2)/\I64 (6:Int)/\((0:Int)<=6/\(0:Int)<=1)/\I64 (7:Int)/\((0:Int)<=7/\(0:Int)<=0)/\I64 (8:Int)/\((0:Int)<=0/\(0:Int)<=255)/\I64 (0:Int)/\I64 (0:Int)/\I64 (0:Int)/\I64 (1:Int)/\ ∃y:Unit,True/\Value.slice none 0 0=Value.slice none 0 0/\aus/\aus
theorem amg(x:Unit):amf x=wpF Tryz.prog tV tt (noA x) 200 5 68 (ahQ.args x) (hO 9 (dO 1 (ahQ.l x))) (fun v h'=>dA 1 x v h' ahQ.outs):=by kernel_rfl
theorem aa9(x:Unit):amf x:=by
 unfold amf
 simp only[aus]
 simp only[aY,aU,aT,ay,aH,bP,bC,aN,aJ,au,aW,aV,bQ,bF,bG,bH,bT,bf,bJ,aZ,dZ,aG,aK,ah,aj,aA,aC,aB,aF,I64]
 omega
theorem amh:bZ Tryz.prog 68 ahQ.ctr:=dK dB mixed fC 9 noA 200 5 (fun _=>⟨rfl,rfl,rfl,rfl⟩) fun x _=>Eq.mp (amg x) (aa9 x)
end Go.Proofs.YtenfleoejgjklaaGreat
end
section
namespace Go.Proofs.YtenfleoejgjklaaGreat
open Go
theorem disable(w:World):(callFunc 268 #[]).run Tryz.prog w= .ok (.value (.tuple #[])) w:=run_call_mark0 Tryz.func268 (by kernel_rfl) (by kernel_rfl) (by kernel_rfl) .disable (by kernel_rfl) w
theorem enable(w:World):(callFunc 270 #[]).run Tryz.prog w= .ok (.value (.tuple #[])) w:=run_call_mark0 Tryz.func270 (by kernel_rfl) (by kernel_rfl) (by kernel_rfl) .enable (by kernel_rfl) w
theorem acquire(a:Addr)(w:World):(callFunc 271 #[.pointer (some a)]).run Tryz.prog w= .ok (.value (.tuple #[])) w:=run_call_marked Tryz.func271 (by kernel_rfl) (by kernel_rfl) (by kernel_rfl) .acquire (by kernel_rfl) a w
theorem releaseMerge(a:Addr)(w:World):(callFunc 273 #[.pointer (some a)]).run Tryz.prog w= .ok (.value (.tuple #[])) w:=run_call_marked Tryz.func273 (by kernel_rfl) (by kernel_rfl) (by kernel_rfl) .releaseMerge (by kernel_rfl) a w
set_option maxRecDepth 100000 in
set_option maxHeartbeats 1600000 in
theorem ilock_free(a:Addr)(w:World)(hc:w.cell? a=some (.int .i32 0))(hz:w.frozen? a=false):
  Calls Tryz.prog 237 #[.pointer (some a)] w fun e w'=>e= .returned (.tuple #[])/\w'=w.setCell a (.int .i32 1):=by
 have hd:=disable
 have he:=enable
 have ha:=acquire
 have hcas:=run_call_cas_hit (P:=Tryz.prog) Tryz.func269 (by kernel_rfl) (by kernel_rfl) (by kernel_rfl) .i32 (by kernel_rfl) (y:=1) hc hz
 have hc':(w.setCell a (.int .i32 1)).cell? a=some (.int .i32 1):=World.cell?_setCell_same w a _ hc
 have hcv:=run_convert_to_unsafe (P:=Tryz.prog) (src:=368) (dst:=372) Tryz.underlying368 Tryz.underlying372 (by kernel_rfl) hc'
 go_enter Tryz.func237,Tryz.ntmps237
 go_wp2
 all_goals first|exact⟨rfl,rfl⟩|(first|go_end0|(simp only[Exit.inBlock,Exit.then];refine bodyPost_ret (results_none rfl _ _ _) rfl ?_)|refine bodyPost_ret (results_none rfl _ _ _) rfl ?_)
 all_goals exact⟨rfl,rfl⟩
set_option maxRecDepth 100000 in
set_option maxHeartbeats 1600000 in
theorem lock_free(a:Addr)(w:World)(hc:w.cell? a=some (.int .i32 0))(hz:w.frozen? a=false):
  Calls Tryz.prog 194 #[.pointer (some a)] w fun e w'=>e= .returned (.tuple #[])/\w'=w.setCell a (.int .i32 1):=by
 go_enter Tryz.func194,Tryz.ntmps194
 go_wp2_with (go_at_call 237;refine(ilock_free a w hc hz).mono ?_;rintro e w' ⟨rfl,rfl⟩)
 all_goals first|exact⟨rfl,rfl⟩|(go_wp2;go_end0;exact⟨rfl,rfl⟩)|(go_end0;exact⟨rfl,rfl⟩)
set_option maxRecDepth 100000 in
set_option maxHeartbeats 1600000 in
theorem store_deferred(a:Addr)(x:Value)(u:FrameMode)(w:World)(hc:w.cell? a=some x)(hz:w.frozen? a=false):
  CallsD Tryz.prog 196 #[.pointer (some a),.bool true] u w fun e u' w'=>u'=u/\(e= .returned (.tuple #[])/\w'=w.drew.setCell a (.int .u32 1)):=by
 have hc':w.drew.cell? a=some x:=by go_simp
 have hz':w.drew.frozen? a=false:=by go_simp
 have hst:=run_call_store (P:=Tryz.prog) Tryz.func239 (by kernel_rfl) (by kernel_rfl) (by kernel_rfl) (by kernel_rfl) (k:= .u32) (y:=1) hc' hz'
 go_enter_d Tryz.func196,Tryz.ntmps196
 go_wp2
 go_region_calls
 all_goals (go_end0;exact⟨rfl,rfl⟩)
set_option maxRecDepth 100000 in
set_option maxHeartbeats 1600000 in
theorem iunlock(a:Addr)(w:World)(hc:w.cell? a=some (.int .i32 1))(hz:w.frozen? a=false):
  Calls Tryz.prog 238 #[.pointer (some a)] w fun e w'=>e= .returned (.tuple #[])/\w'=w.setCell a (.int .i32 0):=by
 have hd:=disable
 have he:=enable
 have hr:=releaseMerge
 have hadd:=run_call_add (P:=Tryz.prog) Tryz.func274 (by kernel_rfl) (by kernel_rfl) (by kernel_rfl) .i32 (by kernel_rfl) (y:= -1) (s:=0) hc hz (by simp[go_sem];rfl)
 have hcv:=run_convert_to_unsafe (P:=Tryz.prog) (src:=368) (dst:=372) Tryz.underlying368 Tryz.underlying372 (by kernel_rfl) hc
 go_enter Tryz.func238,Tryz.ntmps238
 go_wp2
 all_goals first|exact⟨rfl,rfl⟩|go_end0
 all_goals first|exact⟨rfl,rfl⟩|go_wp2
 all_goals first|exact⟨rfl,rfl⟩|go_end0
 all_goals first|exact⟨rfl,rfl⟩
set_option maxRecDepth 100000 in
set_option maxHeartbeats 1600000 in
theorem unlock_deferred(a:Addr)(u:FrameMode)(w:World)(hc:w.cell? a=some (.int .i32 1))(hz:w.frozen? a=false):
  CallsD Tryz.prog 195 #[.pointer (some a)] u w fun e u' w'=>u'=u/\(e= .returned (.tuple #[])/\w'=w.setCell a (.int .i32 0)):=by
 go_enter_d Tryz.func195,Tryz.ntmps195
 go_wp2_with (go_at_call 238;refine(iunlock a w hc hz).mono ?_;rintro e w' ⟨rfl,rfl⟩)
 all_goals first|exact⟨rfl,rfl⟩|(go_wp2;go_end0;exact⟨rfl,rfl⟩)|(go_end0;exact⟨rfl,rfl⟩)
set_option maxRecDepth 100000 in
set_option maxHeartbeats 1600000 in
theorem slow_any(b off:Nat)(g:FuncId)(fa ca:Array Value)(w:World)(R:World->Prop)(hc:SE.zQ Tryz.prog g)
  (h0:w.cell? ⟨b,off,none⟩=some (.int .u32 0)) (h1:w.cell? ⟨b,off+1,none⟩=some (.int .i32 0)) (f0:w.frozen? ⟨b,off,none⟩=false) (f1:w.frozen? ⟨b,off+1,none⟩=false)
  (hf:Calls Tryz.prog g (fa++ca) (w.setCell ⟨b,off+1,none⟩ (.int .i32 1)) fun e w'=>(∃u,e= .returned u)/\w'.cell? ⟨b,off,none⟩=some (.int .u32 0)/\w'.frozen? ⟨b,off,none⟩=false/\
   w'.cell? ⟨b,off+1,none⟩=some (.int .i32 1)/\w'.frozen? ⟨b,off+1,none⟩=false/\R w'):
  Calls Tryz.prog 148 #[.pointer (some ⟨b,off,none⟩),.func (.func g) fa ca] w fun e w'=>e= .returned (.tuple #[])/\ ∃w2,R w2/\
   w'=(w2.drew.setCell ⟨b,off,none⟩ (.int .u32 1)).setCell ⟨b,off+1,none⟩ (.int .i32 0):=by
 have hl:=run_call_load (P:=Tryz.prog) Tryz.func193 (by kernel_rfl) (by kernel_rfl) (by kernel_rfl) .u32 (by kernel_rfl) (w:=w.setCell ⟨b,off+1,none⟩ (.int .i32 1)) (a:=⟨b,off,none⟩) (x:=0) ((World.cell?_setCell_other _ ⟨b,off+1,none⟩ ⟨b,off,none⟩ _ (by simp)).trans h0)
 have hnot: ∀(x:Bool) (w:World),(Op.unary .not (.bool x)).run Tryz.prog w= .ok (.bool (!x)) w:=fun _ _=>rfl
 have hrun:=SE.Ei hc
 go_enter_defers Tryz.func148,Tryz.ntmps148
 go_wp2_with (go_at_call 194;refine(lock_free ⟨b,off+1,none⟩ _ (by go_simp) (by go_simp)).mono ?_;rintro e w' ⟨rfl,rfl⟩)
 go_wp2
 refine hf.mono ?_
 rintro e w' ⟨⟨u,rfl⟩,c0,z0,c1,z1,hR⟩
 go_wp2
 refine leaves_cons (f:=196) (args:= #[.pointer (some ⟨b,off,none⟩),.bool true]) (by simp) (by simp[go_sem]) ?_
 refine(store_deferred ⟨b,off,none⟩ (.int .u32 0) .returning _ c0 z0).mono ?_
 rintro e u' w'' ⟨rfl,rfl,rfl⟩
 refine leaves_cons (f:=195) (args:= #[.pointer (some ⟨b,off+1,none⟩)]) (by simp[settle]) (by simp[go_sem]) ?_
 refine(unlock_deferred ⟨b,off+1,none⟩ _ _ ?_ ?_).mono ?_
 ·refine(World.cell?_setCell_other _ ⟨b,off,none⟩ ⟨b,off+1,none⟩ _ (by simp)).trans ?_
  rw[World.cell?_drew];exact c1
 ·simp[z1]
 rintro e u' w'' ⟨rfl,rfl,rfl⟩
 simp[Leaves,settle,results,Tryz.results148]
 exact⟨w',hR,rfl⟩
end Go.Proofs.YtenfleoejgjklaaGreat
end
section
namespace Go.Proofs.YtenfleoejgjklaaGreat
open Go SE
def ahR(k:IntKind)(z:Int)(x:Option AV):Bool:=match x with
 |some (.lit (.int k' z'))=>decide (k'=k)&&decide (z'=z)
 |_=>false
theorem aqv{k:IntKind}{z:Int}{x:Option AV}(h:ahR k z x=true):x=some (.lit (.int k z)):=by
 unfold ahR at h
 split at h
 ·simp only[aI,decide_eq_true_eq]at h
  obtain⟨rfl,rfl⟩:=h;rfl
 ·cases h
def QW(i o:Nat)(K:AV->Heap->Prop)(h2:Heap):Prop:=
 bif ahR .u32 0 (cellAt h2 i o)&&ahR .i32 1 (cellAt h2 i (o+1))&&(setCell h2 i (o+1) (.lit (.int .i32 0))).isSome then(match setCell h2 i o (.lit (.int .u32 1))with
  |some h3=>match setCell h3 i (o+1) (.lit (.int .i32 0))with
   |some h4=>K (.tup []) h4
   |none=>False
  |none=>False)else False
def aut(tbl:jY):WTr:=fun args h K=>match args with
 |[.ptr i o,.fn (.func g) first cap]=>bif ahR .u32 0 (cellAt h i o)&&ahR .i32 0 (cellAt h i (o+1))&&(setCell h i o (.lit (.int .u32 1))).isSome then(match setCell h i (o+1) (.lit (.int .i32 1))with
  |some h1=>wpF Tryz.prog tbl tt (fun _ _ _ _=>[]) 200 5 g (first++cap) h1 (fun _ h2=>QW i o K h2)
  |none=>False)else False
 |_=>False
theorem QX{h:Heap}{ρ:Ren}{T:Nat->Prop}{w:World}(hR:Rel h ρ T w){i o:Nat}{b:SE.Loc}{k:IntKind}{z:Int}(hb:ρ i=some b)(hc:ahR k z (cellAt h i o)=true):w.cell? ⟨b.blk,b.base+o,none⟩=some (.int k z):=by
 obtain⟨b',hb',y,hy,hr⟩:=hR.cell (aqv hc)
 obtain rfl:b'=b:=Option.some.inj (hb'.symm.trans hb)
 simp only[bV]at hr
 subst hr;exact hy
theorem Xh{h h':Heap}{i o:Nat}{k:IntKind}{z:Int}(hs:setCell h i o (.lit (.int k z))=some h'):apS h i o k z (fun x=>x=h'):=by unfold apS;rw[hs]
theorem aqw{tbl:jY}(ht:fJ Tryz.prog tbl)(args:List AV)(h:Heap)(K:AV->Heap->Prop)(hq:aut tbl args h K):Sp Tryz.prog 148 args h K:=by
 unfold aut at hq
 split at hq
 ·rename_i i o g first cap
  cases hc:(ahR .u32 0 (cellAt h i o)&&ahR .i32 0 (cellAt h i (o+1))&&(setCell h i o (.lit (.int .u32 1))).isSome)<;>rw[hc]at hq
  ·exact hq.elim
  ·simp only[aO]at hq
   simp only[aI]at hc
   obtain⟨⟨c0,c1⟩,c2⟩:=hc
   split at hq
   ·rename_i h1 hs1
    have hsp:=xY dB mixed ht _ _ _ _ _ _ _ hq
    refine⟨⟨_,Tryz.func148,by kernel_rfl,by kernel_rfl⟩,fun ρ T w vs hR hl=> ?_⟩
    simp only[eP]at hl
    obtain⟨u0,_,hvs,hu0,u1,_,rfl,hu1,rfl⟩:=hl
    simp only[bV]at hu0 hu1
    obtain⟨b,hb,rfl⟩:=hu0
    obtain⟨fa,ca,rfl,hfa,hca⟩:=hu1
    have hvs':=vs2 hvs
    rw[hvs']
    have e1:b.base+(o+1)=b.base+o+1:=by omega
    obtain⟨h1',f1,R1,n1,K1,rfl⟩:=qJ (P:=Tryz.prog) hR (Xh hs1) hb
    have f0:w.frozen? ⟨b.blk,b.base+o,none⟩=false:=by
     obtain⟨h5,hs5⟩:=Option.isSome_iff_exists.1 c2
     exact hR.aku hs5 hb
    have g0:=QX hR hb c0
    have g1:=QX hR hb c1
    rw[e1]at g1 f1
    refine(slow_any b.blk (b.base+o) g fa ca w (fun w2=> ∃ρ2 h2,(∀j,j<h.next->ρ2 j=ρ j)/\h.next<=h2.next/\Rel h2 ρ2 T w2/\Keeps T w w2/\QW i o K h2) hsp.1 g0 g1 f0 f1 ?_).mono ?_
    ·refine(hsp.2 ρ T _ (fa++ca) (by rw[<-e1];exact R1) (by rw[Array.toList_append];exact hfa.append hca)).mono ?_
     rintro e w2 ⟨ρ2,v3,u,h2,q1,q2,q3,q4,rfl,q5,hq⟩
     have hi:i<h1'.next:=by
      rcases Nat.lt_or_ge i h1'.next with hlt|hge
      ·exact hlt
      ·obtain⟨_,_,_,_,r4,_⟩:=R1
       rw[r4 i hge]at hb;cases hb
     have hb2:ρ2 i=some b:=(q1 i hi).trans hb
     have hq0:=hq
     unfold QW at hq
     cases hc2:(ahR .u32 0 (cellAt h2 i o)&&ahR .i32 1 (cellAt h2 i (o+1))&&(setCell h2 i (o+1) (.lit (.int .i32 0))).isSome)<;>rw[hc2]at hq
     ·exact hq.elim
     ·simp only[aO]at hq
      simp only[aI]at hc2
      obtain⟨⟨d0,d1⟩,d2⟩:=hc2
      split at hq
      ·rename_i h3 hs3
       obtain⟨h5,hs5⟩:=Option.isSome_iff_exists.1 d2
       obtain⟨_,z1,_⟩:=qJ (P:=Tryz.prog) q3 (Xh hs5) hb2
       obtain⟨_,z0,_⟩:=qJ (P:=Tryz.prog) q3 (Xh hs3) hb2
       have m0:=QX q3 hb2 d0
       have m1:=QX q3 hb2 d1
       rw[e1]at m1 z1
       exact⟨⟨u,rfl⟩,m0,z0,m1,z1,ρ2,h2,fun j hj=>q1 j (by rw[n1];exact hj),by rw[<-n1];exact q2,q3,(by rw[e1]at K1;exact K1.trans q5),hq0⟩
      ·exact hq.elim
    ·rintro e w' ⟨rfl,w2,⟨ρ2,h2,q1,q2,q3,q5,hq⟩,rfl⟩
     have hi:i<h.next:=by
      rcases Nat.lt_or_ge i h.next with hlt|hge
      ·exact hlt
      ·obtain⟨_,_,_,_,r4,_⟩:=hR
       rw[r4 i hge]at hb;cases hb
     have hb2:ρ2 i=some b:=(q1 i hi).trans hb
     unfold QW at hq
     cases hc2:(ahR .u32 0 (cellAt h2 i o)&&ahR .i32 1 (cellAt h2 i (o+1))&&(setCell h2 i (o+1) (.lit (.int .i32 0))).isSome)<;>rw[hc2]at hq
     ·exact hq.elim
     ·simp only[aO]at hq
      split at hq
      ·rename_i h3 hs3
       split at hq
       ·rename_i h4 hs4
        obtain⟨h3',_,R3,n3,K3,rfl⟩:=qJ (P:=Tryz.prog) q3.drew (Xh hs3) hb2
        obtain⟨h4',_,R4,n4,K4,rfl⟩:=qJ (P:=Tryz.prog) R3 (Xh hs4) hb2
        rw[e1]at R4 K4
        exact⟨ρ2,_,_,_,q1,by omega,R4,by simp only[bV];exact⟨_,rfl,.nil⟩,rfl,((q5.trans (Keeps.drew T w2)).trans K3).trans K4,hq⟩
       ·exact hq.elim
      ·exact hq.elim
   ·exact hq.elim
 ·exact hq.elim
def ahS(n:Nat)(k:Nat):Int:=if k=0 then 4 else if k=1 then 70 else if k=2 then 85 else if k=3 then 83 else if k=4 then 69 else(n:Int)/256^(k-5)%256
noncomputable def pq(n:Nat)(k:Nat):Int:=if k<9 then ahS n k else if k<13 then pV 0 (ahS n) 9/256^(k-9)%256 else 0
noncomputable def Jc:Ctr:=det Nat (fun n=>[i64 n]) 0 (fun _=>[]) (fun n=>Hd (10<=n/\n<=258)) (fun _=> .tup [.slE 0 0 1 64 64,i64 0]) 1 (fun n=>[.cells 312 (rowB (pq n) 64)])
def dS.wide(d:dS)(k:Int):Prop:=d.st+k<1099511627776/\d.fl+k<1099511627776/\d.fe+k<1099511627776
noncomputable def Jd:jR:={X:=dS,args:=fun _=>[.ptr 0 0],k:=1,l:=fun d=>[.m d.os],pre:=fun d=>Hd (d.ok/\10<=d.n/\d.wide 10),outs:=[
 {Y:=dS,post:=fun d d'=>Hd (d'.ok/\d'.n=d.n/\d'.st=d.st+2/\d'.fl=d.fl+2/\d'.fe=d.fe+1),ret:=fun _ _=>i64 0,m:=1,l:=fun _ d'=>[.m d'.os]}]}
noncomputable def awY:jY:=[(149,eG Jc),(150,eG En),(62,eG Es),(105,eG Eo),(106,eG Ep)]
def auu(a:xK)(b:Nat):Prop:=(Nat.beq (List.length [Value.int .u8 (a.res (0+b))]) 1&&List.all [Value.int .u8 (a.res (0+b))] Value.oneCell')=true
def aqx(a:dS)(b:dS):Prop:=a.fe=b.fe/\a.ba=b.ba/\a.cu=b.cu/\True
def auv(a:dS)(b:Qu):Prop:=((0=0/\a.n=b.d.n/\a.n=b.d.n)/\a.st=b.d.st/\a.fl=ite (b.k<b.d.n) (b.d.fl+1) b.d.fl/\aqx a b.d)/\(a.n*193=b.d.n*193/\ ∀q:Nat,q<a.n*193->Cs.eff (iL a) [] q=Cs.eff (iL (b.d.flush b.k)) [] q)/\True
def aqy(a:xK):Prop:= ∀k:Nat,k<a.b.n->auu a k
def aqz(a:xK):Prop:= ∀k:Nat,k<64->auu a k
def Lc:Prop:=0<=64/\64<=64/\64<=64
def ami:Prop:=(0=0/\64=64/\64=64)/\(0:Int)=0/\True
def amj(a:dS)(b:pW):Prop:=a.n*193=b.d.n*193/\ ∀q:Nat,q<a.n*193->Cs.eff (iL a) [] q=Cs.eff (iL (b.d.store b.k b.a b.b.n (fun(q_1:Nat)=>b.b.g (b.b.q+q_1)))) [] q
def amk(a:xK)(b: ∀a:Nat,Int)(c:Nat):Prop:=(a.b.q=0/\a.b.n=64/\a.c=64)/\(a.at_:Int)=9/\(a.w:Int)=4/\a.v=IntKind.wrap .u64 (pV (0:Int) b c)/\True
def aml(a:dS)(b:dS):Prop:=(0=0/\a.n=b.n/\a.n=b.n)/\a.st=b.st+1/\a.fl=b.fl/\aqx a b
def amm:Prop:= ∃y:Unit,True/\(False/\(0:Int)=2/\True)/\False/\True
def abb(x:Nat):Prop:=
 cP (decide ((x:Int)<10)) amm (cP (decide ((x:Int)>(258:Int))) amm (∃x_1:xK,Hd x_1.ok/\((x_1.b.q=0/\x_1.b.n=9/\x_1.c=9)/\(x_1.at_:Int)=5/\(x_1.w:Int)=4/\x_1.v=IntKind.wrap .u64 (x:Int)/\True)/\((x_1.b.N=9/\ ∀q:Nat,q<x_1.b.N->[Value.int .u8 (x_1.b.g q)]=[List.getD [Value.int .u8 4,Value.int .u8 70,Value.int .u8 85,Value.int .u8 83,Value.int .u8 69,Value.int .u8 0,Value.int .u8 0,Value.int .u8 0,Value.int .u8 0] q (@Inhabited.default Value @instInhabitedValue)])/\True)/\ ∀y:Unit,True->Lc/\64<=64/\cP (Nat.ble x_1.b.n 64) (0+x_1.b.n<=x_1.b.n/\aqy x_1/\Lc/\0+x_1.b.n<=x_1.b.n/\ ∃n:Nat,∃g: ∀a:Nat,Int,x_1.b.n=n/\n<1099511627776/\(∀k:Nat,k<n->[Value.int .u8 (x_1.res (0+k))]=[Value.int .u8 (g k)])/\(∀k:Nat,0<=g k/\g k<256)/\True/\ ∃x_2:xK,Hd x_2.ok/\amk x_2 g n/\((x_2.b.N=64/\ ∀q:Nat,q<x_2.b.N->[Value.int .u8 (x_2.b.g q)]=Cs.eff (fun(p:Nat)=>cond (Nat.ble 0 p&&Nat.blt p (0+x_1.b.n)) [Value.int .u8 (x_1.res (0+(p-0)))] [Value.int .u8 0]) [] q)/\True)/\ ∀y_1:Unit,True->True/\Lc/\64<=64/\cP (Nat.ble x_2.b.n 64) (0+x_2.b.n<=x_2.b.n/\aqy x_2/\
 (∀k:Nat,k<64->(Nat.beq (List.length (Cs.eff (fun(p:Nat)=>cond (Nat.ble 0 p&&Nat.blt p (0+x_2.b.n)) [Value.int .u8 (x_2.res (0+(p-0)))] (Cs.eff (fun(p_1:Nat)=>cond (Nat.ble 0 p_1&&Nat.blt p_1 (0+x_1.b.n)) [Value.int .u8 (x_1.res (0+(p_1-0)))] [Value.int .u8 0]) [] p)) [] k)) 1&&List.all (Cs.eff (fun(p:Nat)=>cond (Nat.ble 0 p&&Nat.blt p (0+x_2.b.n)) [Value.int .u8 (x_2.res (0+(p-0)))] (Cs.eff (fun(p_1:Nat)=>cond (Nat.ble 0 p_1&&Nat.blt p_1 (0+x_1.b.n)) [Value.int .u8 (x_1.res (0+(p_1-0)))] [Value.int .u8 0]) [] p)) [] k) Value.oneCell')=true)/\(∀k:Nat,k<64->(Nat.beq (List.length (Cs.eff (Cs.eff (fun(p:Nat)=>cond (Nat.ble 0 p&&Nat.blt p (0+x_2.b.n)) [Value.int .u8 (x_2.res (0+(p-0)))] (Cs.eff (fun(p_1:Nat)=>cond (Nat.ble 0 p_1&&Nat.blt p_1 (0+x_1.b.n)) [Value.int .u8 (x_1.res (0+(p_1-0)))] [Value.int .u8 0]) [] p)) []) [] k)) 1&&List.all (Cs.eff (Cs.eff (fun(p:Nat)=>cond (Nat.ble 0 p&&Nat.blt p (0+x_2.b.n)) [Value.int .u8 (x_2.res (0+(p-0)))] (Cs.eff (fun(p_1:Nat)=>cond (Nat.ble 0 p_1&&Nat.blt p_1 (0+x_1.b.n)) [Value.int .u8 (x_1.res (0+(p_1-0)))] [Value.int .u8 0]) [] p)) []) [] k) Value.oneCell')=true)/\
 (∀k:Nat,k<64->(Nat.beq (List.length (Cs.eff (Cs.eff (Cs.eff (fun(p:Nat)=>cond (Nat.ble 0 p&&Nat.blt p (0+x_2.b.n)) [Value.int .u8 (x_2.res (0+(p-0)))] (Cs.eff (fun(p_1:Nat)=>cond (Nat.ble 0 p_1&&Nat.blt p_1 (0+x_1.b.n)) [Value.int .u8 (x_1.res (0+(p_1-0)))] [Value.int .u8 0]) [] p)) []) []) [] k)) 1&&List.all (Cs.eff (Cs.eff (Cs.eff (fun(p:Nat)=>cond (Nat.ble 0 p&&Nat.blt p (0+x_2.b.n)) [Value.int .u8 (x_2.res (0+(p-0)))] (Cs.eff (fun(p_1:Nat)=>cond (Nat.ble 0 p_1&&Nat.blt p_1 (0+x_1.b.n)) [Value.int .u8 (x_1.res (0+(p_1-0)))] [Value.int .u8 0]) [] p)) []) []) [] k) Value.oneCell')=true)/\Lc/\ ∃y_2:Unit,True/\ami/\(64=64/\ ∀q:Nat,q<64->[Value.int .u8 (pq x q)]=Cs.eff (Cs.eff (Cs.eff (Cs.eff (fun(p:Nat)=>cond (Nat.ble 0 p&&Nat.blt p (0+x_2.b.n)) [Value.int .u8 (x_2.res (0+(p-0)))] (Cs.eff (fun(p_1:Nat)=>cond (Nat.ble 0 p_1&&Nat.blt p_1 (0+x_1.b.n)) [Value.int .u8 (x_1.res (0+(p_1-0)))] [Value.int .u8 0]) [] p)) []) []) []) [] q)/\True) (64<=x_2.b.n/\aqz x_2/\(∀k:Nat,k<64->(Nat.beq (List.length (Cs.eff (fun(p:Nat)=>cond (Nat.ble 0 p&&Nat.blt p 64) [Value.int .u8 (x_2.res (0+(p-0)))] (Cs.eff (fun(p_1:Nat)=>cond (Nat.ble 0 p_1&&Nat.blt p_1 (0+x_1.b.n)) [Value.int .u8 (x_1.res (0+(p_1-0)))] [Value.int .u8 0]) [] p)) [] k)) 1&&List.all (Cs.eff (fun(p:Nat)=>cond (Nat.ble 0 p&&Nat.blt p 64) [Value.int .u8 (x_2.res (0+(p-0)))] (Cs.eff (fun(p_1:Nat)=>cond (Nat.ble 0 p_1&&Nat.blt p_1 (0+x_1.b.n)) [Value.int .u8 (x_1.res (0+(p_1-0)))] [Value.int .u8 0]) [] p)) [] k) Value.oneCell')=true)/\
 (∀k:Nat,k<64->(Nat.beq (List.length (Cs.eff (Cs.eff (fun(p:Nat)=>cond (Nat.ble 0 p&&Nat.blt p 64) [Value.int .u8 (x_2.res (0+(p-0)))] (Cs.eff (fun(p_1:Nat)=>cond (Nat.ble 0 p_1&&Nat.blt p_1 (0+x_1.b.n)) [Value.int .u8 (x_1.res (0+(p_1-0)))] [Value.int .u8 0]) [] p)) []) [] k)) 1&&List.all (Cs.eff (Cs.eff (fun(p:Nat)=>cond (Nat.ble 0 p&&Nat.blt p 64) [Value.int .u8 (x_2.res (0+(p-0)))] (Cs.eff (fun(p_1:Nat)=>cond (Nat.ble 0 p_1&&Nat.blt p_1 (0+x_1.b.n)) [Value.int .u8 (x_1.res (0+(p_1-0)))] [Value.int .u8 0]) [] p)) []) [] k) Value.oneCell')=true)/\(∀k:Nat,k<64->(Nat.beq (List.length (Cs.eff (Cs.eff (Cs.eff (fun(p:Nat)=>cond (Nat.ble 0 p&&Nat.blt p 64) [Value.int .u8 (x_2.res (0+(p-0)))] (Cs.eff (fun(p_1:Nat)=>cond (Nat.ble 0 p_1&&Nat.blt p_1 (0+x_1.b.n)) [Value.int .u8 (x_1.res (0+(p_1-0)))] [Value.int .u8 0]) [] p)) []) []) [] k)) 1&&List.all (Cs.eff (Cs.eff (Cs.eff (fun(p:Nat)=>cond (Nat.ble 0 p&&Nat.blt p 64) [Value.int .u8 (x_2.res (0+(p-0)))] (Cs.eff (fun(p_1:Nat)=>cond (Nat.ble 0 p_1&&Nat.blt p_1 (0+x_1.b.n)) [Value.int .u8 (x_1.res (0+(p_1-0)))] [Value.int .u8 0]) [] p)) []) []) [] k) Value.oneCell')=true)/\Lc/\ ∃y_2:Unit,True/\ami/\(64=64/\ ∀q:Nat,q<64->[Value.int .u8 (pq x q)]=Cs.eff (Cs.eff (Cs.eff (Cs.eff (fun(p:Nat)=>cond (Nat.ble 0 p&&Nat.blt p 64) [Value.int .u8 (x_2.res (0+(p-0)))] (Cs.eff (fun(p_1:Nat)=>cond (Nat.ble 0 p_1&&Nat.blt p_1 (0+x_1.b.n)) [Value.int .u8 (x_1.res (0+(p_1-0)))] [Value.int .u8 0]) [] p)) []) []) []) [] q)/\True)) (64<=x_1.b.n/\aqz x_1/\Lc/\0+x_1.b.n<=x_1.b.n/\ ∃n:Nat,∃g: ∀a:Nat,Int,x_1.b.n=n/\n<1099511627776/\
 (∀k:Nat,k<n->[Value.int .u8 (x_1.res (0+k))]=[Value.int .u8 (g k)])/\(∀k:Nat,0<=g k/\g k<256)/\True/\ ∃x_2:xK,Hd x_2.ok/\amk x_2 g n/\((x_2.b.N=64/\ ∀q:Nat,q<x_2.b.N->[Value.int .u8 (x_2.b.g q)]=Cs.eff (fun(p:Nat)=>cond (Nat.ble 0 p&&Nat.blt p 64) [Value.int .u8 (x_1.res (0+(p-0)))] [Value.int .u8 0]) [] q)/\True)/\ ∀y_1:Unit,True->True/\Lc/\64<=64/\cP (Nat.ble x_2.b.n 64) (0+x_2.b.n<=x_2.b.n/\aqy x_2/\(∀k:Nat,k<64->(Nat.beq (List.length (Cs.eff (fun(p:Nat)=>cond (Nat.ble 0 p&&Nat.blt p (0+x_2.b.n)) [Value.int .u8 (x_2.res (0+(p-0)))] (Cs.eff (fun(p_1:Nat)=>cond (Nat.ble 0 p_1&&Nat.blt p_1 64) [Value.int .u8 (x_1.res (0+(p_1-0)))] [Value.int .u8 0]) [] p)) [] k)) 1&&List.all (Cs.eff (fun(p:Nat)=>cond (Nat.ble 0 p&&Nat.blt p (0+x_2.b.n)) [Value.int .u8 (x_2.res (0+(p-0)))] (Cs.eff (fun(p_1:Nat)=>cond (Nat.ble 0 p_1&&Nat.blt p_1 64) [Value.int .u8 (x_1.res (0+(p_1-0)))] [Value.int .u8 0]) [] p)) [] k) Value.oneCell')=true)/\(∀k:Nat,k<64->(Nat.beq (List.length (Cs.eff (Cs.eff (fun(p:Nat)=>cond (Nat.ble 0 p&&Nat.blt p (0+x_2.b.n)) [Value.int .u8 (x_2.res (0+(p-0)))] (Cs.eff (fun(p_1:Nat)=>cond (Nat.ble 0 p_1&&Nat.blt p_1 64) [Value.int .u8 (x_1.res (0+(p_1-0)))] [Value.int .u8 0]) [] p)) []) [] k)) 1&&List.all (Cs.eff (Cs.eff (fun(p:Nat)=>cond (Nat.ble 0 p&&Nat.blt p (0+x_2.b.n)) [Value.int .u8 (x_2.res (0+(p-0)))] (Cs.eff (fun(p_1:Nat)=>cond (Nat.ble 0 p_1&&Nat.blt p_1 64) [Value.int .u8 (x_1.res (0+(p_1-0)))] [Value.int .u8 0]) [] p)) []) [] k) Value.oneCell')=true)/\
 (∀k:Nat,k<64->(Nat.beq (List.length (Cs.eff (Cs.eff (Cs.eff (fun(p:Nat)=>cond (Nat.ble 0 p&&Nat.blt p (0+x_2.b.n)) [Value.int .u8 (x_2.res (0+(p-0)))] (Cs.eff (fun(p_1:Nat)=>cond (Nat.ble 0 p_1&&Nat.blt p_1 64) [Value.int .u8 (x_1.res (0+(p_1-0)))] [Value.int .u8 0]) [] p)) []) []) [] k)) 1&&List.all (Cs.eff (Cs.eff (Cs.eff (fun(p:Nat)=>cond (Nat.ble 0 p&&Nat.blt p (0+x_2.b.n)) [Value.int .u8 (x_2.res (0+(p-0)))] (Cs.eff (fun(p_1:Nat)=>cond (Nat.ble 0 p_1&&Nat.blt p_1 64) [Value.int .u8 (x_1.res (0+(p_1-0)))] [Value.int .u8 0]) [] p)) []) []) [] k) Value.oneCell')=true)/\Lc/\ ∃y_2:Unit,True/\ami/\(64=64/\ ∀q:Nat,q<64->[Value.int .u8 (pq x q)]=Cs.eff (Cs.eff (Cs.eff (Cs.eff (fun(p:Nat)=>cond (Nat.ble 0 p&&Nat.blt p (0+x_2.b.n)) [Value.int .u8 (x_2.res (0+(p-0)))] (Cs.eff (fun(p_1:Nat)=>cond (Nat.ble 0 p_1&&Nat.blt p_1 64) [Value.int .u8 (x_1.res (0+(p_1-0)))] [Value.int .u8 0]) [] p)) []) []) []) [] q)/\True) (64<=x_2.b.n/\aqz x_2/\(∀k:Nat,k<64->(Nat.beq (List.length (Cs.eff (fun(p:Nat)=>cond (Nat.ble 0 p&&Nat.blt p 64) [Value.int .u8 (x_2.res (0+(p-0)))] (Cs.eff (fun(p_1:Nat)=>cond (Nat.ble 0 p_1&&Nat.blt p_1 64) [Value.int .u8 (x_1.res (0+(p_1-0)))] [Value.int .u8 0]) [] p)) [] k)) 1&&List.all (Cs.eff (fun(p:Nat)=>cond (Nat.ble 0 p&&Nat.blt p 64) [Value.int .u8 (x_2.res (0+(p-0)))] (Cs.eff (fun(p_1:Nat)=>cond (Nat.ble 0 p_1&&Nat.blt p_1 64) [Value.int .u8 (x_1.res (0+(p_1-0)))] [Value.int .u8 0]) [] p)) [] k) Value.oneCell')=true)/\
 (∀k:Nat,k<64->(Nat.beq (List.length (Cs.eff (Cs.eff (fun(p:Nat)=>cond (Nat.ble 0 p&&Nat.blt p 64) [Value.int .u8 (x_2.res (0+(p-0)))] (Cs.eff (fun(p_1:Nat)=>cond (Nat.ble 0 p_1&&Nat.blt p_1 64) [Value.int .u8 (x_1.res (0+(p_1-0)))] [Value.int .u8 0]) [] p)) []) [] k)) 1&&List.all (Cs.eff (Cs.eff (fun(p:Nat)=>cond (Nat.ble 0 p&&Nat.blt p 64) [Value.int .u8 (x_2.res (0+(p-0)))] (Cs.eff (fun(p_1:Nat)=>cond (Nat.ble 0 p_1&&Nat.blt p_1 64) [Value.int .u8 (x_1.res (0+(p_1-0)))] [Value.int .u8 0]) [] p)) []) [] k) Value.oneCell')=true)/\(∀k:Nat,k<64->(Nat.beq (List.length (Cs.eff (Cs.eff (Cs.eff (fun(p:Nat)=>cond (Nat.ble 0 p&&Nat.blt p 64) [Value.int .u8 (x_2.res (0+(p-0)))] (Cs.eff (fun(p_1:Nat)=>cond (Nat.ble 0 p_1&&Nat.blt p_1 64) [Value.int .u8 (x_1.res (0+(p_1-0)))] [Value.int .u8 0]) [] p)) []) []) [] k)) 1&&List.all (Cs.eff (Cs.eff (Cs.eff (fun(p:Nat)=>cond (Nat.ble 0 p&&Nat.blt p 64) [Value.int .u8 (x_2.res (0+(p-0)))] (Cs.eff (fun(p_1:Nat)=>cond (Nat.ble 0 p_1&&Nat.blt p_1 64) [Value.int .u8 (x_1.res (0+(p_1-0)))] [Value.int .u8 0]) [] p)) []) []) [] k) Value.oneCell')=true)/\Lc/\ ∃y_2:Unit,True/\ami/\(64=64/\ ∀q:Nat,q<64->[Value.int .u8 (pq x q)]=Cs.eff (Cs.eff (Cs.eff (Cs.eff (fun(p:Nat)=>cond (Nat.ble 0 p&&Nat.blt p 64) [Value.int .u8 (x_2.res (0+(p-0)))] (Cs.eff (fun(p_1:Nat)=>cond (Nat.ble 0 p_1&&Nat.blt p_1 64) [Value.int .u8 (x_1.res (0+(p_1-0)))] [Value.int .u8 0]) [] p)) []) []) []) [] q)/\True))))
theorem ahT(x:Nat):abb x=wpF Tryz.prog tblK tt (noA x) 200 5 149 (Jc.args x) (hO Jc.k (Jc.os x)) (fun v h'=>fA Jc.k x v h' Jc.outs):=by kernel_rfl
def QY(x:dS):Prop:=
 ∃x_1:Nat,Hd (10<=x_1/\x_1<=258)/\((x_1:Int)=(x.n:Int)/\True)/\True/\ ∀y:Unit,True-> ∃x_2:pW,Hd (x_2.d.ok/\x_2.k<x_2.d.n/\x_2.b.ok/\x_2.a+x_2.b.n<=64)/\(0=0/\(x_2.k:Int)=0/\(x_2.a:Int)=0/\(x_2.b.q=0/\x_2.b.n=64)/\True)/\(((0=0/\x_2.d.n=x.n/\x_2.d.n=x.n)/\x_2.d.st=x.st/\x_2.d.fl=x.fl/\aqx x_2.d x)/\(x_2.d.n*193=x.n*193/\ ∀q:Nat,q<x_2.d.n*193->Cs.eff (iL x_2.d) [] q=Cs.eff (iL x) [] q)/\(x_2.b.N=64/\ ∀q:Nat,q<x_2.b.N->[Value.int .u8 (x_2.b.g q)]=[Value.int .u8 (pq x_1 q)])/\True)/\ ∀y_1:Unit,True-> ∃x_3:Int,Hd (0<=x_3/\x_3<18446744073709551616)/\(x_3=0/\True)/\True/\ ∀y_2:Unit,True-> ∃x_4:pW,Hd (x_4.d.ok/\x_4.k<x_4.d.n/\x_4.b.ok/\x_4.a+x_4.b.n<=64)/\(0=0/\(x_4.k:Int)=1/\(x_4.a:Int)=0/\(x_4.b.q=0/\x_4.b.n=64)/\True)/\(aml x_4.d x_2.d/\amj x_4.d x_2/\(x_4.b.N=64/\ ∀q:Nat,q<x_4.b.N->[Value.int .u8 (x_4.b.g q)]=[Value.int .u8 (jw x_3 q)])/\True)/\ ∀y_3:Unit,True-> ∃x_5:Qu,Hd (x_5.d.ok/\x_5.k<258)/\(0=0/\(x_5.k:Int)=0/\True)/\(aml x_5.d x_4.d/\amj x_5.d x_4/\True)/\ ∀y_4:Unit,True-> ∃x_6:Qu,Hd (x_6.d.ok/\x_6.k<258)/\(0=0/\(x_6.k:Int)=1/\True)/\auv x_6.d x_5/\ ∀y_5:Unit,True-> ∃x_7:dS,Hd x_7.ok/\(0=0/\True)/\auv x_7 x_6/\ ∀y_6:Unit,True-> ∃y_7:dS,Hd (y_7.ok/\y_7.n=x.n/\y_7.st=x.st+2/\y_7.fl=x.fl+2/\y_7.fe=x.fe+1)/\(0:Int)=0/\((0=0/\y_7.n=x_7.n/\y_7.n=x_7.n)/\y_7.st=x_7.st/\y_7.fl=x_7.fl/\y_7.fe=x_7.fe+1/\y_7.ba=x_7.ba/\y_7.cu=x_7.cu/\True)/\(y_7.n*193=x_7.n*193/\ ∀q:Nat,q<y_7.n*193->Cs.eff (iL y_7) [] q=Cs.eff (iL x_7.fence) [] q)/\True
theorem abd(x:dS):QY x=wpF Tryz.prog awY tt (noA x) 200 5 90 (Jd.args x) (hO 2 (dO 1 (Jd.l x))) (fun v h'=>dA 1 x v h' Jd.outs):=by kernel_rfl
theorem Xi(v:Nat)(hv:10<=v/\v<=258):abb v:=by
 have hw:IntKind.u64.wrap (v:Int)=v:=jZ (by omega) (by omega)
 let b0:Bys:=⟨fun k=>if k=0 then 4 else if k=1 then 70 else if k=2 then 85 else if k=3 then 83 else if k=4 then 69 else 0,0,9,9⟩
 let x1:xK:=⟨b0,5,4,v,9⟩
 have ok1:x1.ok:=⟨⟨by simp[x1,b0],by simp[x1,b0],fun k=>by simp only[x1,b0];grind⟩,by simp[x1,b0],by simp[x1],by simp[x1],by show(0:Int)<=v;omega,by show(v:Int)<256^4;omega⟩
 have r1: ∀k,k<9->x1.res k=ahS v k:=fun k hk=>by
  simp only[xK.res,qX,ahS,x1,b0]
  by_cases h:k<5
  ·rw[if_neg (by omega),ay];grind
  ·rw[if_pos (by omega)];grind
 have u1: ∀k,0<=x1.res k/\x1.res k<256:=C9 (fun k=>ok1.1.2.2 _) _ _ _
 let b1:Bys:=⟨fun k=>if k<9 then x1.res k else 0,0,64,64⟩
 let x2:xK:=⟨b1,9,4,pV 0 x1.res 9,64⟩
 have c1:pV 0 x1.res 9=pV 0 (ahS v) 9:=CZ r1
 have hU:=adz 0 x1.res 9
 have ok2:x2.ok:=⟨⟨by simp[x2,b1],by simp[x2,b1],fun k=>by
  show 0<=(if k<9 then x1.res k else 0)/\(if k<9 then x1.res k else 0)<256
  split
  ·exact u1 k
  ·exact⟨by omega,by omega⟩⟩,by simp[x2,b1],by simp[x2],by simp[x2],hU.1,hU.2⟩
 have w64:IntKind.u64.wrap (pV 0 x1.res 9)=pV 0 x1.res 9:=jZ hU.1 (by have:=hU.2;omega)
 have nb:x1.b.n=9:=rfl
 have nb2:x2.b.n=64:=rfl
 have ble9:Nat.ble 9 64=true:=rfl
 have atN:Nat.ble 64 64=true:=rfl
 unfold abb
 simp only[amm,Lc,aqy,amk,ami,aqz,auu]
 simp only[aY,aU,aT,ay,aH,bP,bC,aN,aJ,au,aW,aV,bQ,bF,bG,bH,bT,bf,bJ,aZ,dZ,aG,aK,ah,aj,aA,aC,aB,aF,hw]
 refine bg (fun h=>absurd (aQ h) (by omega)) fun _=>bg (fun h=>absurd (aQ h) (by omega)) fun _=> ?_
 refine⟨x1,ok1,⟨⟨rfl,rfl,rfl⟩,rfl,rfl,rfl⟩,⟨rfl,fun q hq=> ?_⟩,by omega,by omega,?_⟩
 ·have hq:q<9:=hq
  match q,hq with
  |0,_|1,_|2,_|3,_|4,_|5,_|6,_|7,_|8,_=>rfl
 simp only[nb,ble9,cP,bQ,bF,bG,bH,bT,bf,bJ,aZ,dZ,aG,aK,ah,aj,aA,aC,aB,aF,aJ,aT]
 refine⟨by omega,by omega,by omega,9,x1.res,rfl,by omega,fun _ _=>rfl,u1,x2,ok2,⟨⟨rfl,rfl,rfl⟩,rfl,rfl,w64.symm⟩,⟨rfl,fun q hq=> ?_⟩,by omega,by omega,?_⟩
 ·show(if q<9 then x1.res q else 0)=_
  rw[cO,eX]
 simp only[nb2,atN,cP,bQ,bF,bG,bH,bT,bf,bJ,aZ,dZ,aG,aK,ah,aj,aA,aC,aB,aF,aJ,aT]
 refine⟨by omega,by omega,fun q hq=> ?_⟩
 simp[bW.2 hq]
 show pq v q=qX (fun k=>if 0+k<9 then x1.res (0+k)else 0) 9 4 (pV 0 x1.res 9) q
 simp only[pq,qX,c1,ay]
 by_cases h:q<9
 ·rw[if_pos h,if_neg (by omega),if_pos h,r1 q h]
 ·by_cases h2:q<13
  ·rw[if_neg h,if_pos h2,if_pos (by omega)]
  ·rw[if_neg h,if_neg h2,if_neg (by omega),if_neg h]
theorem Xj{v:Nat}(hv:v<=258)(k:Nat):0<=pq v k/\pq v k<256:=by
 unfold pq ahS
 repeat' split
 all_goals first|exact oG _ _|omega
theorem dS.Dp{d:dS}(h:d.ok)(k:Nat)(hf:d.fl+1<1099511627776):(d.flush k).ok:=by
 obtain⟨h1,h2,h3,h4,h5,h6⟩:=h
 refine⟨h1,fun p=> ?_,h3,?_,h5,h6⟩
 ·simp only[dS.flush];split<;>exact h2 _
 ·unfold small at*;simp only[dS.flush];split<;>omega
theorem dS.NP{d:dS}(h:d.ok)(hf:d.fe+1<1099511627776):d.fence.ok:=by
 obtain⟨h1,h2,h3,h4,h5,h6⟩:=h
 refine⟨h1,fun p=> ?_,h3,h4,?_,h6⟩
 ·simp only[dS.fence,dS.jF];split<;>exact h2 _
 ·unfold small at*;simp only[dS.fence,dS.jF];omega
theorem dS.kY{d:dS}(h:d.ok)(k a n:Nat){g:Nat->Int}(hg: ∀q,0<=g q/\g q<256)(hf:d.st+1<1099511627776):(d.store k a n g).ok:=by
 obtain⟨h1,h2,h3,h4,h5,h6⟩:=h
 refine⟨h1,fun p=> ?_,?_,h4,h5,h6⟩
 ·simp only[dS.store]
  split
  ·exact hg _
  ·exact h2 _
 ·unfold small at*;simp only[dS.store];omega
theorem QZ(x:dS)(hx:x.ok/\10<=x.n/\x.wide 10):QY x:=by
 obtain⟨ho,hn,w1,w2,w3⟩:=hx
 have hn2:=ho.1
 let s1:=x.store 0 0 64 (pq x.n)
 let s2:=s1.store 1 0 64 (jw 0)
 let f1:=s2.flush 0
 let f2:=f1.flush 1
 have o1:s1.ok:=dS.kY ho _ _ _ (Xj (by omega)) (by omega)
 have o2:s2.ok:=dS.kY o1 _ _ _ (Au 0) (by show x.st+1+1<_;omega)
 have o3:f1.ok:=dS.Dp o2 0 (by show x.fl+1<_;omega)
 have e3:f1.fl=x.fl+1:=if_pos (by show 0<x.n;omega)
 have o4:f2.ok:=dS.Dp o3 1 (by rw[e3];omega)
 have e4:f2.fl=x.fl+2:=(if_pos (show 1<x.n by omega)).trans (by rw[e3];omega)
 have o5:f2.fence.ok:=dS.NP o4 (by show x.fe+1<_;omega)
 have z1:(x.store 0 0 64 fun q=>pq x.n (0+q))=s1:=by simp only[ay];rfl
 have z2:(s1.store 1 0 64 fun q=>jw 0 (0+q))=s2:=by simp only[ay];rfl
 unfold QY
 simp only[aqx,aml,amj,auv]
 simp only[aY,aU,aT,ay,aH,bP,bC,aN,aJ,au,aW,aV,bQ,bF,bG,bH,bT,bf,bJ,aZ,dZ,aG,aK,ah,aj,aA,aC,aB,aF]
 refine⟨x.n,⟨hn,hn2⟩,rfl,⟨x,0,0,⟨pq x.n,0,64,64⟩⟩,⟨ho,by show 0<x.n;omega,⟨by simp,by simp,Xj hn2⟩,by simp⟩,⟨rfl,rfl,rfl,rfl⟩,⟨⟨rfl,rfl,rfl,rfl,rfl,rfl⟩,⟨rfl,fun q _=>rfl⟩,rfl,fun q _=>rfl⟩,
  0,⟨by decide,by decide⟩,rfl,⟨s1,1,0,⟨jw 0,0,64,64⟩⟩,⟨o1,by show 1<x.n;omega,⟨by simp,by simp,Au 0⟩,by simp⟩,⟨rfl,rfl,rfl,rfl⟩,⟨⟨rfl,rfl,rfl,rfl,rfl,rfl⟩,⟨rfl,fun q _=> ?_⟩,rfl,fun q _=>rfl⟩,
  ⟨s2,0⟩,⟨o2,show 0<258 by decide⟩,rfl,⟨⟨rfl,rfl,rfl,rfl,rfl,rfl⟩,rfl,fun q _=> ?_⟩,⟨f1,1⟩,⟨o3,show 1<258 by decide⟩,rfl,⟨⟨rfl,rfl,rfl,rfl,rfl,rfl⟩,rfl,fun q _=>rfl⟩,f2,o4,⟨⟨rfl,rfl,rfl,rfl,rfl,rfl⟩,rfl,fun q _=>rfl⟩,f2.fence,⟨o5,rfl,by show x.st+1+1=x.st+2;omega,e4,rfl⟩,⟨rfl,rfl,rfl,rfl,rfl,rfl⟩,rfl,fun q _=>rfl⟩
 ·show iL s1 q=iL (x.store 0 0 64 fun q=>pq x.n (0+q)) q
  rw[z1]
 ·show iL s2 q=iL (s1.store 1 0 64 fun q=>jw 0 (0+q)) q
  rw[z2]
theorem aqA:bZ Tryz.prog 149 Jc:=dV dB mixed akL noA 200 5 (fun _=>rfl) (fun _=>rfl) fun x hx=>Eq.mp (ahT x) (Xi x (aY.1 hx))
theorem aqB:fJ Tryz.prog awY:= .cons (bU aqA) (.cons (bU adB) (.cons (bU adK) (.cons (bU adI) (.cons (bU adJ) .nil))))
theorem amn:bZ Tryz.prog 90 Jd.ctr:=dK dB mixed aqB 2 noA 200 5 (fun _=>⟨rfl,rfl,rfl,rfl⟩) fun x hx=>Eq.mp (abd x) (QZ x (aY.1 hx))
noncomputable def amo:jR:=nG Nat (fun n=>[i64 n]) 0 (fun _=>[]) (fun n=>Hd (1<=n/\n<=258)) (fun _=> .tup [.ptr 0 0,i64 0]) 1 (fun n=>[.m (xZ n).os])
def amq:jR:=nG Nat (fun t=>[i64 t]) 0 (fun _=>[]) (fun t=>Hd (1<=t/\t<=4)) (fun _=> .tup [.ptr 0 0,i64 0]) 1 (fun t=>[.m (aqh t).os])
def amr:jR:=nG (Nat×Int) (fun p=>[i64 p.1,u64 p.2]) 0 (fun _=>[]) (fun p=>Hd (1<=p.1/\p.1<=4/\0<=p.2/\p.2<=1152921504606846976)) (fun _=> .tup [.ptr 0 0,i64 0]) 1 (fun p=>[.m ((adM p.1 p.2).os 0)])
noncomputable def ams:jR:=nG Nat (fun n=>[i64 n]) 0 (fun _=>[]) (fun n=>Hd (1<=n/\n<=32)) (fun _=> .tup [.ptr 0 0,i64 0]) 1 (fun n=>[.m (iJ n n).os])
def amu:jR:=nG Unit (fun _=>[]) 0 (fun _=>[]) (fun _=>Hd True) (fun _=> .ptr 0 0) 1 (fun _=>[.m lT])
noncomputable def Xk:jR:=nG dS (fun _=>[.ptr 0 0]) 1 (fun d=>[.m d.os]) (fun d=>Hd d.ok) (fun d=>i64 d.n) 1 (fun d=>[.m d.os])
def aes:iV:=⟨true,0,fun _=>⟨0,0,0,0,0⟩⟩
def aqC:ZLn:=⟨0,0,0,0,fun _=>qO⟩
def amv:jR:=nG Unit (fun _=>[]) 0 (fun _=>[]) (fun _=>Hd True) (fun _=> .ptr 0 0) 1 (fun _=>[.m aes.os])
def amw:jR:=nG Unit (fun _=>[]) 0 (fun _=>[]) (fun _=>Hd True) (fun _=> .ptr 0 0) 1 (fun _=>[.m aqC.os])
def FK:Prop:= ∃y:Unit,True/\(False/\(0:Int)=2/\True)/\False/\False/\True
def Xl:Prop:=0=0/\(0:Int)=0/\True
def Ld(a:Nat):Prop:=0=0/\a=a/\a=a
def auw:Prop:=258=258/\ ∀q:Nat,q<258->[Value.bool false]=[Value.bool false]
def auy:Prop:=True/\True/\True/\True/\True/\True/\True/\True/\True
def abe(x:Nat):Prop:=
 cP (decide ((x:Int)<1)) FK (cP (decide ((x:Int)>(258:Int))) FK ((0<=(x:Int)/\(x:Int)<=(x:Int)/\193*(x:Int)<=281474976710656/\(x:Int)<4611686018427387904)/\ ∃y:Unit,True/\Xl/\(Ld x/\(0:Int)=0/\(0:Int)=0/\(0:Int)=0/\(0:Int)=0/\(0:Int)=0/\True)/\(x*193=x*193/\ ∀q:Nat,∀j:Nat,q<x->j<193-> ∃v:Value,getElem? (List.replicate 192 (Value.int .u8 0)++[Value.bool false]) j=some v/\Cs.eff (iL (xZ x)) [] (q*193+j)=[v])/\True))
theorem ahU(x:Nat):abe x=wpF Tryz.prog [] tt (noA x) 200 5 48 (amo.args x) (hO 0 (dO 0 (amo.l x))) (fun v h'=>dA 0 x v h' amo.outs):=by kernel_rfl
def abf(x:Nat):Prop:=
 cP (decide ((x:Int)<1)) FK (cP (decide ((x:Int)>(4:Int))) FK ((0<=(x:Int)/\(x:Int)<=(x:Int)/\8*(x:Int)<=281474976710656/\(x:Int)<4611686018427387904)/\ ∃y:Unit,True/\Xl/\((1:Int)=1/\Ld x/\True)/\(x=x/\ ∀q:Nat,q<x->[Value.int .u64 0]=[Value.int .u64 0])/\True))
theorem ahV(x:Nat):abf x=wpF Tryz.prog tV tt (noA x) 200 5 79 (amq.args x) (hO 0 (dO 0 (amq.l x))) (fun v h'=>dA 0 x v h' amq.outs):=by kernel_rfl
def abg(x:Nat×Int):Prop:=
 cP (decide ((x.1:Int)<1)) FK (cP (decide ((x.1:Int)>(4:Int))) FK (cP (decide (x.2>(1152921504606846976:Int))) (∃y:Unit,True/\(False/\(0:Int)=10/\True)/\False/\False/\True) ((0<=(x.1:Int)/\(x.1:Int)<=(x.1:Int)/\8*(x.1:Int)<=281474976710656/\(x.1:Int)<4611686018427387904)/\ ∃y:Unit,True/\Xl/\((x.2+1=IntKind.wrap .u64 (x.2+1)/\x.2=x.2/\(0:Int)=0/\(0=0/\x.1=x.1/\x.1=x.1)/\True)/\auw/\auw/\Value.nilFunc=Value.nilFunc/\True)/\(x.1=x.1/\ ∀q:Nat,q<x.1->[Value.int .i64 0]=[Value.int .i64 0])/\True)))
theorem ahW(x:Nat×Int):abg x=wpF Tryz.prog tV tt (noA x) 200 5 81 (amr.args x) (hO 0 (dO 0 (amr.l x))) (fun v h'=>dA 0 x v h' amr.outs):=by kernel_rfl
def abh(x:Nat):Prop:=
 cP (decide ((x:Int)<1)) FK (I64 (256:Int)/\((8:Int)=0->False)/\I64 (32:Int)/\cP (decide ((x:Int)>(32:Int))) FK ((0<=(x:Int)/\(x:Int)<=(x:Int)/\24*(x:Int)<=281474976710656/\(x:Int)<4611686018427387904)/\(∃s:Nat,s<=x/\True/\((s:Int)=0/\True)/\(Ld x/\True)/\(x*10=x*10/\ ∀q:Nat,∀j:Nat,q<x->j<10-> ∃v:Value,getElem? [Value.int .i64 0,Value.bool false,Value.bool false,Value.bool false,Value.bool false,Value.bool false,Value.bool false,Value.bool false,Value.bool false,Value.int .i64 0] j=some v/\Cs.eff (iU (iJ x s)) [] (q*10+j)=[v])/\True)/\(∀s:Nat,s<=x->cP (decide ((s:Int)<(x:Int))) ((0<=(s:Int)/\(s:Int)<(x:Int))/\(0+s)*10+0<x*10/\I64 ((s:Int)+1)/\ ∃s_1:Nat,s_1<=x/\x-s_1<x-s/\((s_1:Int)=(s:Int)+1/\True)/\(Ld x/\True)/\(x*10=x*10/\ ∀q:Nat,q<x*10->Cs.eff (iU (iJ x s_1)) [] q=Cs.eff (iU (iJ x s)) [((0+s)*10+0,[Value.int .i64 (-(1:Int))])] q)/\True) (∃y:Unit,True/\Xl/\(Ld x/\True)/\(x*10=x*10/\ ∀q:Nat,q<x*10->Cs.eff (iU (iJ x x)) [] q=Cs.eff (iU (iJ x s)) [] q)/\True))/\True))
theorem ahX(x:Nat):abh x=wpF Tryz.prog [] tt (asr x) 200 5 82 (ams.args x) (hO 0 (dO 0 (ams.l x))) (fun v h'=>dA 0 x v h' ams.outs):=by kernel_rfl
def abj(x:Unit):Prop:=
 ((0:Int)<=0/\(0:Int)<=7)/\I64 (1:Int)/\((0:Int)<=1/\(0:Int)<=6)/\I64 (2:Int)/\((0:Int)<=2/\(0:Int)<=5)/\I64 (3:Int)/\((0:Int)<=3/\(0:Int)<=4)/\I64 (4:Int)/\((0:Int)<=4/\(0:Int)<=3)/\I64 (5:Int)/\((0:Int)<=5/\(0:Int)<=2)/\I64 (6:Int)/\((0:Int)<=6/\(0:Int)<=1)/\I64 (7:Int)/\((0:Int)<=7/\(0:Int)<=0)/\I64 (8:Int)/\ ∃y:Unit,True/\0=0/\auy/\auy
theorem ahY(x:Unit):abj x=wpF Tryz.prog tV tt (noA x) 200 5 85 (amu.args x) (hO 0 (dO 0 (amu.l x))) (fun v h'=>dA 0 x v h' amu.outs):=by kernel_rfl
def abk(x:dS):Prop:=
 ∃y:Unit,True/\(x.n:Int)=(x.n:Int)/\(Ld x.n/\x.st=x.st/\x.fl=x.fl/\x.fe=x.fe/\x.ba=x.ba/\x.cu=x.cu/\True)/\(x.n*193=x.n*193/\ ∀q:Nat,q<x.n*193->Cs.eff (iL x) [] q=Cs.eff (iL x) [] q)/\True
theorem ahZ(x:dS):abk x=wpF Tryz.prog tV tt (noA x) 200 5 80 (Xk.args x) (hO 2 (dO 1 (Xk.l x))) (fun v h'=>dA 1 x v h' Xk.outs):=by kernel_rfl
def amx(x:Unit):Prop:=
 ∃y:Unit,True/\0=0/\(Value.slice none 0 0=Value.slice none 0 0/\True)/\True
theorem amy(x:Unit):amx x=wpF Tryz.prog [] tt (noA x) 200 5 84 (amv.args x) (hO 0 (dO 0 (amv.l x))) (fun v h'=>dA 0 x v h' amv.outs):=by kernel_rfl
def amA(x:Unit):Prop:=
 ∃y:Unit,True/\0=0/\(Value.slice none 0 0=Value.slice none 0 0/\(0:Int)=0/\(0:Int)=0/\True)/\True
theorem amB(x:Unit):amA x=wpF Tryz.prog [] tt (noA x) 200 5 87 (amw.args x) (hO 0 (dO 0 (amw.l x))) (fun v h'=>dA 0 x v h' amw.outs):=by kernel_rfl
theorem Xm(x:Nat)(hx:1<=x/\x<=258):abe x:=by
 have h:=aan x hx
 unfold akR at h
 simp only[adH,qm,nC]at h
 unfold abe
 simp only[FK,Xl,Ld]
 simp only[aY,aU,aT,ay,aH,bP,bC,aN,aJ,au,aW,aV,bQ,bF,bG,bH,bT,bf,bJ,aZ,dZ,aG,aK,ah,aj,aA,aC,aB,aF]at h ⊢
 exact h
theorem Xn(x:Nat)(hx:1<=x/\x<=4):abf x:=by
 have h:=aaR x hx
 unfold alx at h
 simp only[ad1,nH]at h
 unfold abf
 simp only[FK,Xl,Ld]
 simp only[aY,aU,aT,ay,aH,bP,bC,aN,aJ,au,aW,aV,bQ,bF,bG,bH,bT,bf,bJ,aZ,dZ,aG,aK,ah,aj,aA,aC,aB,aF]at h ⊢
 exact h
theorem Xo(x:Nat×Int)(hx:1<=x.1/\x.1<=4/\0<=x.2/\x.2<=1152921504606846976):abg x:=by
 have h:=aau x hx
 unfold akV at h
 simp only[adR,Nw,Eu]at h
 unfold abg
 simp only[FK,Xl,auw]
 simp only[aY,aU,aT,ay,aH,bP,bC,aN,aJ,au,aW,aV,bQ,bF,bG,bH,bT,bf,bJ,aZ,dZ,aG,aK,ah,aj,aA,aC,aB,aF]at h ⊢
 exact h
theorem Xp(x:Nat)(hx:1<=x/\x<=32):abh x:=by
 have h:=aaH x hx
 unfold alc at h
 simp only[adX,qp,AP]at h
 unfold abh
 simp only[FK,Ld,Xl]
 simp only[aY,aU,aT,ay,aH,bP,bC,aN,aJ,au,aW,aV,bQ,bF,bG,bH,bT,bf,bJ,aZ,dZ,aG,aK,ah,aj,aA,aC,aB,aF]at h ⊢
 exact h
theorem Xq(x:Unit):abj x:=by
 unfold abj
 simp only[auy]
 simp only[aY,aU,aT,ay,aH,bP,bC,aN,aJ,au,aW,aV,bQ,bF,bG,bH,bT,bf,bJ,aZ,dZ,aG,aK,ah,aj,aA,aC,aB,aF,I64]
 omega
theorem Xr(x:dS)(_:x.ok):abk x:=by
 unfold abk
 simp only[Ld]
 simp only[aY,aU,aT,ay,aH,bP,bC,aN,aJ,au,aW,aV,bQ,bF,bG,bH,bT,bf,bJ,aZ,dZ,aG,aK,ah,aj,aA,aC,aB,aF]
theorem aqD:bZ Tryz.prog 48 amo.ctr:=dK dB mixed .nil 0 noA 200 5 (fun _=>⟨rfl,rfl,rfl,rfl⟩) fun x hx=>Eq.mp (ahU x) (Xm x (aY.1 hx))
theorem aqE:bZ Tryz.prog 79 amq.ctr:=dK dB mixed fC 0 noA 200 5 (fun _=>⟨rfl,rfl,rfl,rfl⟩) fun x hx=>Eq.mp (ahV x) (Xn x (aY.1 hx))
theorem aqF:bZ Tryz.prog 81 amr.ctr:=dK dB mixed fC 0 noA 200 5 (fun _=>⟨rfl,rfl,rfl,rfl⟩) fun x hx=>Eq.mp (ahW x) (Xo x (aY.1 hx))
theorem aqG:bZ Tryz.prog 82 ams.ctr:=dK dB mixed .nil 0 asr 200 5 (fun _=>⟨rfl,rfl,rfl,rfl⟩) fun x hx=>Eq.mp (ahX x) (Xp x (aY.1 hx))
theorem aqH:bZ Tryz.prog 85 amu.ctr:=dK dB mixed fC 0 noA 200 5 (fun _=>⟨rfl,rfl,rfl,rfl⟩) fun x _=>Eq.mp (ahY x) (Xq x)
theorem aqI:bZ Tryz.prog 80 Xk.ctr:=dK dB mixed fC 2 noA 200 5 (fun _=>⟨rfl,rfl,rfl,rfl⟩) fun x hx=>Eq.mp (ahZ x) (Xr x (aY.1 hx))
theorem abl(x:Unit):amx x:=by
 unfold amx
 simp only[aY,aU,aT,ay,aH,bP,bC,aN,aJ,au,aW,aV,bQ,bF,bG,bH,bT,bf,bJ,aZ,dZ,aG,aK,ah,aj,aA,aC,aB,aF]
theorem aqJ:bZ Tryz.prog 84 amv.ctr:=dK dB mixed .nil 0 noA 200 5 (fun _=>⟨rfl,rfl,rfl,rfl⟩) fun x _=>Eq.mp (amy x) (abl x)
theorem abm(x:Unit):amA x:=by
 unfold amA
 simp only[aY,aU,aT,ay,aH,bP,bC,aN,aJ,au,aW,aV,bQ,bF,bG,bH,bT,bf,bJ,aZ,dZ,aG,aK,ah,aj,aA,aC,aB,aF]
theorem aqK:bZ Tryz.prog 87 amw.ctr:=dK dB mixed .nil 0 noA 200 5 (fun _=>⟨rfl,rfl,rfl,rfl⟩) fun x _=>Eq.mp (amB x) (abm x)
structure fZ where
 kind:Int
 key:ByteArray
 value:ByteArray
 id:Int
 ver:Int
 epoch:Int
 group:Int
def fZ.cs(e:fZ):List Value:=[.int .i64 e.kind,.string e.key,.string e.value,.int .u64 e.id,.int .u64 e.ver,.int .u64 e.epoch,.int .i64 e.group]
structure dF where
 d:dS
 p:dI
 r:ZRd
 c:fD
 b:iV
 l:ZLn
 id:Int
 ver:Int
 n:Nat
 e:Nat->fZ
namespace dF
def str(a:dF)(ef:AV):dw:= .cells 113 (.av [.ptr 1 0,.ptr 3 0,.ptr 4 0,.ptr 5 0,.ptr 6 0,.ptr 7 0,.ptr 8 0,.ptr 9 0,u64 a.id,u64 a.ver,ef])
noncomputable def parts(a:dF):List dw:=[.cells 145 (.av [.ptr 2 0,u32 1,.lit (.int .i32 0),u32 0]),.abs (bK a.d.os),.abs (bK a.p.os),.abs (bK a.r.os),.abs (bK (a.c.os 0)),.abs (bK a.b.os),.abs (bK lT),.cells 255 (.av [fO,fO,fO,fO]),.abs (bK a.l.os)]
noncomputable def osN(a:dF):List dw:=a.str fO::a.parts
noncomputable def osP(a:dF):List dw:=a.str (.slW 10 0 7 a.n)::(a.parts++[.room 95 (.row 7 a.n (fun i=>(a.e i).cs) [])])
noncomputable def os(a:dF):List dw:=bif Nat.beq a.n 0 then a.osN else a.osP
end dF
noncomputable def ru(n t:Nat)(d:dS):dF:=⟨d,iJ ((n-2)/8) ((n-2)/8),aqh t,adM t 0,aes,aqC,0,0,0,fun _=>⟨0,⟨#[]⟩,⟨#[]⟩,0,0,0,0⟩⟩
structure auz where
 n:Nat
 t:Nat
noncomputable def ah0:jR:={X:=auz,args:=fun x=>[i64 x.n,i64 x.t],k:=0,l:=fun _=>[],pre:=fun x=>Hd (10<=x.n/\x.n<=258/\1<=x.t/\x.t<=4),outs:=[
 {Y:=dS,post:=fun x d=>Hd (d.ok/\d.n=x.n/\d.st=2/\d.fl=2/\d.fe=1),ret:=fun _ _=> .tup [.ptr 0 0,i64 0],m:=1,l:=fun x d=>[.m (ru x.n x.t d).osN]}]}
noncomputable def awZ:jY:=[(90,eG Jd.ctr)]
noncomputable def aw0:jY:=tV++[(48,eG amo.ctr),(79,eG amq.ctr),(80,eG Xk.ctr),(81,eG amr.ctr),(82,eG ams.ctr),(85,eG amu.ctr),(84,eG amv.ctr),(87,eG amw.ctr),(148,aut awZ)]
def ah1:Prop:=Value.slice none 0 0=Value.slice none 0 0
def auA(a:auz)(b:Nat)(c:Nat)(d:Prod Nat Int):Prop:=bK (dI.os (iJ ((a.n-2)/8) ((a.n-2)/8)))=bK (dI.os (iJ b b))/\bK (ZRd.os (aqh a.t))=bK (ZRd.os (aqh c))/\bK (fD.os (adM a.t (0:Int)) 0)=bK (fD.os (adM d.1 d.2) 0)/\bK aes.os=bK aes.os/\bK lT=bK lT/\(ah1/\ah1/\ah1/\ah1/\True)/\bK aqC.os=bK aqC.os/\True
def auB:Prop:=0=0/\0=0/\0=0/\0=0/\0=0/\0=0/\0=0/\0=0/\(0:Int)=0/\(0:Int)=0/\ah1/\True
def aqL(a:dS)(b:Nat):Prop:=Hd (a.ok/\a.n=b/\a.st=2/\a.fl=2/\a.fe=1)
def amC(x:auz):Prop:=
 ∃x_1:Nat,Hd (1<=x_1/\x_1<=258)/\((x_1:Int)=(x.n:Int)/\True)/\True/\ ∀y:Unit,True-> ∃x_2:Nat,Hd (1<=x_2/\x_2<=4)/\((x_2:Int)=(x.t:Int)/\True)/\True/\ ∀y_1:Unit,True-> ∃x_3:dS,Hd x_3.ok/\(0=0/\True)/\(bK x_3.os=bK (dS.os (xZ x_1))/\True)/\ ∀y_2:Unit,True->cP (decide ((x_3.n:Int)<10)) (∃y_3:dS,aqL y_3 x.n/\(False/\(0:Int)=2/\True)/\False/\False/\False/\False/\False/\False/\False/\False/\False/\False/\True) (∃x_4:Prod Nat Int,Hd (1<=x_4.1/\x_4.1<=4/\0<=x_4.2/\x_4.2<=1152921504606846976)/\((x_4.1:Int)=(x.t:Int)/\x_4.2=0/\True)/\True/\ ∀y_3:Unit,True-> ∃x_5:dS,Hd x_5.ok/\(0=0/\True)/\(bK x_5.os=bK x_3.os/\True)/\ ∀y_4:Unit,True->cP (decide ((x_5.n:Int)<10)) (∃x_6:Nat,Hd (1<=x_6/\x_6<=32)/\((x_6:Int)=0/\True)/\True/\ ∀y_5:Unit,True-> ∃x_7:Unit,Hd True/\True/\True/\ ∀y_6:Unit,True-> ∃x_8:Unit,Hd True/\True/\True/\ ∀y_7:Unit,True-> ∃x_9:Unit,Hd True/\True/\True/\ ∀y_8:Unit,True-> ∃FM:dS,Hd (FM.ok/\10<=FM.n/\FM.wide (10:Int))/\(0=0/\True)/\(bK FM.os=bK x_5.os/\True)/\ ∀y_9:dS,Hd (y_9.ok/\y_9.n=FM.n/\y_9.st=FM.st+2/\y_9.fl=FM.fl+2/\y_9.fe=FM.fe+1)-> ∃avO:dS,aqL avO x.n/\(0=0/\(0:Int)=0/\True)/\auB/\(0=0/\(1:Int)=1/\(0:Int)=0/\(0:Int)=0/\True)/\bK avO.os=bK y_9.os/\auA x x_6 x_2 x_4) (I64 (G5 (x_5.n:Int) (258:Int)-2)/\((8:Int)=0->False)/\I64 (Int.tdiv (G5 (x_5.n:Int) (258:Int)-2) (8:Int))/\ ∃x_6:Nat,Hd (1<=x_6/\x_6<=32)/\((x_6:Int)=Int.tdiv (G5 (x_5.n:Int) (258:Int)-2) (8:Int)/\True)/\True/\
 ∀y_5:Unit,True-> ∃x_7:Unit,Hd True/\True/\True/\ ∀y_6:Unit,True-> ∃x_8:Unit,Hd True/\True/\True/\ ∀y_7:Unit,True-> ∃x_9:Unit,Hd True/\True/\True/\ ∀y_8:Unit,True-> ∃FM:dS,Hd (FM.ok/\10<=FM.n/\FM.wide (10:Int))/\(0=0/\True)/\(bK FM.os=bK x_5.os/\True)/\ ∀y_9:dS,Hd (y_9.ok/\y_9.n=FM.n/\y_9.st=FM.st+2/\y_9.fl=FM.fl+2/\y_9.fe=FM.fe+1)-> ∃avO:dS,aqL avO x.n/\(0=0/\(0:Int)=0/\True)/\auB/\(0=0/\(1:Int)=1/\(0:Int)=0/\(0:Int)=0/\True)/\bK avO.os=bK y_9.os/\auA x x_6 x_2 x_4))
theorem amD(x:auz):amC x=wpF Tryz.prog aw0 tt (noA x) 200 5 13 (ah0.args x) (hO 0 (dO 0 (ah0.l x))) (fun v h'=>dA 0 x v h' ah0.outs):=by kernel_rfl
theorem abn(n:Nat)(h:n<=258):(xZ n).ok:=⟨h,fun _=>⟨Int.le_refl 0,(by decide:(0:Int)<256)⟩,⟨Int.le_refl 0,(by decide:(0:Int)<1099511627776)⟩,⟨Int.le_refl 0,(by decide:(0:Int)<1099511627776)⟩,⟨Int.le_refl 0,(by decide:(0:Int)<1099511627776)⟩,
 ⟨Int.le_refl 0,(by decide:(0:Int)<1099511627776)⟩,⟨Int.le_refl 0,(by decide:(0:Int)<1099511627776)⟩⟩
theorem abo(x:auz)(hx:10<=x.n/\x.n<=258/\1<=x.t/\x.t<=4):amC x:=by
 unfold amC
 simp only[aqL,auB,auA,ah1]
 simp only[aY,aU,aT,ay,aH,bP,bC,aN,aJ,au,aW,aV,bQ,bF,bG,bH,bT,bf,bJ,aZ,dZ,aG,aK,ah,aj,aA,aC,aB,aF]
 have h1:=abn x.n hx.2.1
 have hm:G5 (x.n:Int) 258=x.n:=by unfold G5;omega
 have hd:((x.n:Int)-2).tdiv 8=(((x.n-2)/8:Nat):Int):=by
  rw[show(x.n:Int)-2=((x.n-2:Nat):Int) by omega]
  exact(Int.ofNat_tdiv (x.n-2) 8).symm
 refine⟨x.n,⟨by omega,by omega⟩,rfl,x.t,⟨by omega,by omega⟩,rfl,xZ x.n,h1,rfl,bg (fun h=>absurd (aQ h) (by show¬((x.n:Int)<10);omega)) fun _=>⟨(x.t,0),⟨by show 1<=x.t;omega,by show x.t<=4;omega,Int.le_refl 0,show(0:Int)<=1152921504606846976 by decide⟩,⟨rfl,rfl⟩,xZ x.n,h1,rfl,bg (fun h=>absurd (aQ h) (by show¬((x.n:Int)<10);omega)) fun _=> ?_⟩⟩
 show I64 (G5 (x.n:Int) 258-2)/\_
 rw[show G5 ((xZ x.n).n:Int) 258=x.n from hm,hd]
 refine⟨by show I64 (G5 (x.n:Int) 258-2);rw[hm];unfold I64;omega,by omega,by unfold I64;omega,(x.n-2)/8,by omega,rfl,xZ x.n,⟨h1,by show 10<=x.n;omega,⟨show(0:Int)+10<1099511627776 by decide,show(0:Int)+10<1099511627776 by decide,show(0:Int)+10<1099511627776 by decide⟩⟩,rfl,fun y hy=>⟨y,⟨hy.1,hy.2.1,hy.2.2.1,hy.2.2.2.1,hy.2.2.2.2⟩,rfl,rfl,rfl,rfl⟩⟩
theorem aqM:fJ Tryz.prog awZ:= .cons (bU amn) .nil
theorem aqN:fJ Tryz.prog aw0:= .append fC (.cons (bU aqD) (.cons (bU aqE) (.cons (bU aqI) (.cons (bU aqF) (.cons (bU aqG) (.cons (bU aqH) (.cons (bU aqJ) (.cons (bU aqK) (.cons (fun _ _ _ hq=>aqw aqM _ _ _ hq) .nil)))))))))
theorem amE:bZ Tryz.prog 13 ah0.ctr:=dK dB mixed aqN 0 noA 200 5 (fun _=>⟨rfl,rfl,rfl,rfl⟩) fun x hx=>Eq.mp (amD x) (abo x (aY.1 hx))
def abp(p r c b t l d:AV):dw:= .ro (.av [d,p,r,c,b,t,.any,l,.any,.any,.any])
structure rC where
 b:iV
 l:ZLn
 k:Int
def rC.inL(x:rC):Prop:= ∃i,i<x.l.n/\(x.l.get i).line=x.k
def rC.inB(x:rC):Prop:= ∃i,i<x.b.n/\((x.b.e i).line=x.k\/(x.b.e i).anti=x.k)
noncomputable def rC.os(x:rC):List dw:=[abp .any .any .any (.ptr 1 0) (.ptr 2 0) (.ptr 3 0) .any,.abs (bK x.b.os),.abs (bK lT),.abs (bK x.l.os)]
noncomputable def abq:Ctr:={X:=rC,args:=fun x=>[.ptr 0 0,i64 x.k],k:=4,os:=rC.os,pre:=fun x=>Hd (x.b.ok/\x.l.ok/\x.l.n<1099511627776),outs:=[
 {Y:=Unit,post:=fun x _=>Hd (x.inL\/x.inB),ret:=fun _ _=>boo true,m:=4,os:=fun x _=>x.os},
 {Y:=Unit,post:=fun x _=>Hd (¬x.inL/\ ¬x.inB),ret:=fun _ _=>boo false,m:=4,os:=fun x _=>x.os}]}
def asB(x:rC):FuncId->tK:=fun f=>bif Nat.beq f 247 then(fun b _ _=>bif Nat.beq b 0 then [
 {σ:=Nat,fr:=fun i=>[(21,i64 i)],ob:=fun _=>[],inv:=fun i=>Hd (i<=x.l.n/\ ∀j,j<i->(x.l.get j).line≠x.k),meas:=fun i=>x.l.n-i}]else bif Nat.beq b 2 then [
 {σ:=Nat,fr:=fun i=>[(36,i64 i)],ob:=fun _=>[],inv:=fun i=>Hd (i<=x.b.n/\ ∀j,j<i->(x.b.e j).line≠x.k/\(x.b.e j).anti≠x.k),meas:=fun i=>x.b.n-i}]else [])else fun _ _ _=>[]
noncomputable def aw1:jY:=[(68,eG ahQ.ctr),(70,eG QO.ctr),(278,eG alI.ctr)]
def NQ:Prop:=bK lT=bK lT
def amF:Prop:=True/\True/\True/\0=0/\0=0/\True/\0=0/\True/\True/\True/\True
def aeu(a:ZLn)(b:iV):Prop:=bK a.os=bK a.os/\NQ/\bK b.os=bK b.os/\(True/\amF)/\True
def ah2(a:ZLn)(b:iV):Prop:=(a.n=a.n/\ ∀q:Nat,q<a.n->[Value.string (dM.key (a.get q)),Value.int .u64 (dM.id (a.get q)),Value.int .u64 (dM.ver (a.get q)),Value.int .i64 (dM.line (a.get q)),Value.int .i64 (dM.cls (a.get q))]=[Value.string (dM.key (a.get q)),Value.int .u64 (dM.id (a.get q)),Value.int .u64 (dM.ver (a.get q)),Value.int .i64 (dM.line (a.get q)),Value.int .i64 (dM.cls (a.get q))])/\aeu a b
def ah3(a:ZLn)(b:iV):Prop:=(0+a.n=0+a.n/\ ∀q:Nat,q<0+a.n->[Value.string (dM.key (a.get (0+(q-0)))),Value.int .u64 (dM.id (a.get (0+(q-0)))),Value.int .u64 (dM.ver (a.get (0+(q-0)))),Value.int .i64 (dM.line (a.get (0+(q-0)))),Value.int .i64 (dM.cls (a.get (0+(q-0))))]=[Value.string (dM.key (a.get (0+(q-0)))),Value.int .u64 (dM.id (a.get (0+(q-0)))),Value.int .u64 (dM.ver (a.get (0+(q-0)))),Value.int .i64 (dM.line (a.get (0+(q-0)))),Value.int .i64 (dM.cls (a.get (0+(q-0))))])/\ah2 a b
def amG(a:rC)(b:iV)(c:ZLn):Prop:=(True/\amF)/\bK a.b.os=bK b.os/\NQ/\bK a.l.os=bK c.os/\True
def ah4(a:iV):Prop:=a.n=a.n/\ ∀q:Nat,q<a.n->[Value.int .i64 (iF.line (a.e q)),Value.int .i64 (iF.cls (a.e q)),Value.int .u64 (iF.r (a.e q)),Value.int .u64 (iF.d (a.e q)),Value.int .i64 (iF.anti (a.e q))]=[Value.int .i64 (iF.line (a.e q)),Value.int .i64 (iF.cls (a.e q)),Value.int .u64 (iF.r (a.e q)),Value.int .u64 (iF.d (a.e q)),Value.int .i64 (iF.anti (a.e q))]
def qx(a:Nat)(b:rC):Prop:=Hd (a<=b.b.n/\ ∀j:Nat,j<a->iF.line (b.b.e j)≠b.k/\iF.anti (b.b.e j)≠b.k)
def Xt(a:rC)(b:iV)(c:ZLn):Prop:=(∃y_3:Unit,Hd (a.inL\/a.inB)/\true=false/\amG a b c)\/ ∃y_3:Unit,Hd (Not a.inL/\Not a.inB)/\false=false/\amG a b c
def Je(a:rC)(b:iV)(c:ZLn):Prop:=(∃y_3:Unit,Hd (a.inL\/a.inB)/\true=true/\amG a b c)\/ ∃y_3:Unit,Hd (Not a.inL/\Not a.inB)/\false=true/\amG a b c
def aev(a:rC)(b:iV)(c:ZLn):Prop:=(∀s_1:Nat,qx s_1 a->Xt a b c)/\True
def EG(a:Nat)(b:rC):Prop:=Hd (a<=b.l.n/\ ∀j:Nat,j<a->dM.line (b.l.get j)≠b.k)
def amH(a:Nat)(b:ZLn)(c:iV):Prop:=True/\((a:Int)=0/\True)/\aeu b c
def amI(a:iV)(b:ZLn):Prop:=ah4 a/\aeu b a
def amJ(x:rC):Prop:=
 ∃x_1:Unit,Hd True/\(0=0/\True)/\(NQ/\True)/\ ∀y:Unit,True->(AV.ptr 3 0=AV.ptr 3 0/\True)/\ ∃x_2:ZLn,Hd x_2.ok/\(0=0/\True)/\(bK x_2.os=bK x.l.os/\True)/\(∀y_1:Unit,Hd (x_2.n=0)->True/\True/\(∃s:Nat,EG s x/\amH s x_2 x.b)/\(∀s:Nat,EG s x-> ∃x_3:iV,Hd x_3.ok/\(0=0/\True)/\(bK x_3.os=bK x.b.os/\True)/\(∀y_2:Unit,Hd (x_3.n=0)->(∃s_1:Nat,qx s_1 x/\amH s_1 x_2 x_3)/\aev x x_3 x_2)/\ ∀y_2:Unit,Hd True->(∃s_1:Nat,qx s_1 x/\True/\((s_1:Int)=0/\True)/\amI x_3 x_2)/\(∀s_1:Nat,qx s_1 x->cP (decide ((s_1:Int)<(x_3.n:Int))) ((0<=(s_1:Int)/\(s_1:Int)<(x_3.n:Int))/\0+s_1<x_3.n/\cP (BEq.beq (iF.line (x_3.e (0+s_1))) x.k) (Je x x_3 x_2) (cP (BEq.beq (iF.anti (x_3.e (0+s_1))) x.k) (Je x x_3 x_2) (I64 ((s_1:Int)+1)/\ ∃s_2:Nat,qx s_2 x/\x.b.n-s_2<x.b.n-s_1/\((s_2:Int)=(s_1:Int)+1/\True)/\amI x_3 x_2))) (Xt x x_3 x_2))/\True)/\True)/\ ∀y_1:Unit,Hd (x_2.n≠0)->True/\0+x_2.n<=x_2.n/\cP (Nat.beq x_2.n 0) (True/\(∃s:Nat,EG s x/\True/\((s:Int)=0/\True)/\ah2 x_2 x.b)/\(∀s:Nat,EG s x-> ∃x_3:iV,Hd x_3.ok/\(0=0/\True)/\(bK x_3.os=bK x.b.os/\True)/\(∀y_2:Unit,Hd (x_3.n=0)->(∃s_1:Nat,qx s_1 x/\True/\((s_1:Int)=0/\True)/\ah2 x_2 x_3)/\aev x x_3 x_2)/\ ∀y_2:Unit,Hd True->(∃s_1:Nat,qx s_1 x/\True/\((s_1:Int)=0/\True)/\ah4 x_3/\ah2 x_2 x_3)/\(∀s_1:Nat,qx s_1 x->cP (decide ((s_1:Int)<(x_3.n:Int))) ((0<=(s_1:Int)/\(s_1:Int)<(x_3.n:Int))/\0+s_1<x_3.n/\
 cP (BEq.beq (iF.line (x_3.e (0+s_1))) x.k) (Je x x_3 x_2) (cP (BEq.beq (iF.anti (x_3.e (0+s_1))) x.k) (Je x x_3 x_2) (I64 ((s_1:Int)+1)/\ ∃s_2:Nat,qx s_2 x/\x.b.n-s_2<x.b.n-s_1/\((s_2:Int)=(s_1:Int)+1/\True)/\ah4 x_3/\ah2 x_2 x_3))) (Xt x x_3 x_2))/\True)/\True) ((2*(0+x_2.n)+1000)*48<=281474976710656/\True/\(∃s:Nat,EG s x/\True/\((s:Int)=0/\True)/\ah3 x_2 x.b)/\(∀s:Nat,EG s x->cP (decide ((s:Int)<((0+x_2.n:Nat):Int))) ((0<=(s:Int)/\(s:Int)<((0+x_2.n:Nat):Int))/\0+s<0+x_2.n/\cP (BEq.beq (dM.line (x_2.get (0+(0+s-0)))) x.k) ((∃y_2:Unit,Hd (x.inL\/x.inB)/\true=true/\(True/\amF)/\bK x.b.os=bK x.b.os/\NQ/\bK x.l.os=bK x_2.os/\True)\/ ∃y_2:Unit,Hd (Not x.inL/\Not x.inB)/\false=true/\(True/\amF)/\bK x.b.os=bK x.b.os/\NQ/\bK x.l.os=bK x_2.os/\True) (I64 ((s:Int)+1)/\ ∃s_1:Nat,EG s_1 x/\x.l.n-s_1<x.l.n-s/\((s_1:Int)=(s:Int)+1/\True)/\ah3 x_2 x.b)) (∃x_3:iV,Hd x_3.ok/\(0=0/\True)/\(bK x_3.os=bK x.b.os/\True)/\(∀y_2:Unit,Hd (x_3.n=0)->(∃s_1:Nat,qx s_1 x/\True/\((s_1:Int)=0/\True)/\ah3 x_2 x_3)/\aev x x_3 x_2)/\ ∀y_2:Unit,Hd True->(∃s_1:Nat,qx s_1 x/\True/\((s_1:Int)=0/\True)/\ah4 x_3/\ah3 x_2 x_3)/\(∀s_1:Nat,qx s_1 x->cP (decide ((s_1:Int)<(x_3.n:Int))) ((0<=(s_1:Int)/\(s_1:Int)<(x_3.n:Int))/\0+s_1<x_3.n/\cP (BEq.beq (iF.line (x_3.e (0+s_1))) x.k) (Je x x_3 x_2) (cP (BEq.beq (iF.anti (x_3.e (0+s_1))) x.k) (Je x x_3 x_2) (I64 ((s_1:Int)+1)/\ ∃s_2:Nat,qx s_2 x/\x.b.n-s_2<x.b.n-s_1/\((s_2:Int)=(s_1:Int)+1/\
 True)/\ah4 x_3/\ah3 x_2 x_3))) (Xt x x_3 x_2))/\True))/\True)
theorem amK(x:rC):amJ x=wpF Tryz.prog aw1 tt (asB x) 200 5 247 (abq.args x) (hO abq.k (abq.os x)) (fun v h'=>fA abq.k x v h' abq.outs):=by kernel_rfl
theorem abr(x:rC)(hx:x.b.ok/\x.l.ok/\x.l.n<1099511627776):amJ x:=by
 obtain⟨hb,hl,hln⟩:=hx
 have hbn:=hb.1
 unfold amJ
 simp only[NQ,EG,amH,qx,aev,amI,Je,Xt,ah2,ah4,ah3,amF,aeu,amG]
 simp only[aY,aU,aT,ay,aH,bP,bC,aN,aJ,au,aW,aV,bQ,bF,bG,bH,bT,bf,bJ,aZ,dZ,aG,aK,ah,aj,aA,aC,aB,aF]
 refine⟨x.l,hl,rfl,fun h0=>⟨⟨0,⟨Nat.zero_le _,fun j hj=>absurd hj (Nat.not_lt_zero j)⟩,rfl⟩,fun s hs=> ?_⟩,fun h0=>⟨aX _,bg (fun hz=> ?_) fun _=>⟨by omega,⟨0,⟨Nat.zero_le _,fun j hj=>absurd hj (Nat.not_lt_zero j)⟩,rfl⟩,fun s hs=>bg (fun h=> ?_) fun h=> ?_⟩⟩⟩
 ·have hL: ¬x.inL:=fun⟨i,hi,_⟩=>by omega
  refine⟨x.b,hb,rfl,fun h0=>⟨⟨0,⟨Nat.zero_le _,fun j hj=>absurd hj (Nat.not_lt_zero j)⟩,rfl⟩,fun s1 hs1=>Or.inr ⟨⟨hL,fun⟨i,hi,_⟩=>by omega⟩,rfl,rfl⟩⟩,⟨0,⟨Nat.zero_le _,fun j hj=>absurd hj (Nat.not_lt_zero j)⟩,rfl⟩,fun s1 hs1=>bg (fun h=> ?_) fun h=> ?_⟩
  ·have h':s1<x.b.n:=by have:=aQ h;omega
   refine⟨⟨by omega,by omega⟩,h',bg (fun e=>Or.inl ⟨Or.inr ⟨s1,h',Or.inl (beq_iff_eq.1 e)⟩,rfl,rfl⟩) fun e=>bg (fun e2=>Or.inl ⟨Or.inr ⟨s1,h',Or.inr (beq_iff_eq.1 e2)⟩,rfl,rfl⟩) fun e2=>⟨by unfold I64;omega,s1+1,⟨by omega,fun j hj=> ?_⟩,by omega,by omega⟩⟩
   by_cases hjs:j=s1
   ·subst hjs;exact⟨beq_eq_false_iff_ne.1 e,beq_eq_false_iff_ne.1 e2⟩
   ·exact hs1.2 j (by omega)
  ·have h': ¬s1<x.b.n:=by have:=aS h;omega
   exact Or.inr ⟨⟨hL,fun⟨i,hi,hh⟩=>hh.elim (hs1.2 i (by omega)).1 (hs1.2 i (by omega)).2⟩,rfl,rfl⟩
 ·exact absurd (ak hz) h0
 ·have h':s<x.l.n:=by have:=aQ h;omega
  refine⟨⟨by omega,by omega⟩,h',bg (fun e=>Or.inl ⟨Or.inl ⟨s,h',beq_iff_eq.1 e⟩,rfl⟩) fun e=>⟨by unfold I64;omega,s+1,⟨by omega,fun j hj=> ?_⟩,by omega,by omega⟩⟩
  by_cases hjs:j=s
  ·subst hjs;exact beq_eq_false_iff_ne.1 e
  ·exact hs.2 j (by omega)
 ·have h': ¬s<x.l.n:=by have:=aS h;omega
  have hL: ¬x.inL:=fun⟨i,hi,hh⟩=>hs.2 i (by omega) hh
  refine⟨x.b,hb,rfl,fun h0=>⟨⟨0,⟨Nat.zero_le _,fun j hj=>absurd hj (Nat.not_lt_zero j)⟩,rfl⟩,fun s1 hs1=>Or.inr ⟨⟨hL,fun⟨i,hi,_⟩=>by omega⟩,rfl,rfl⟩⟩,⟨0,⟨Nat.zero_le _,fun j hj=>absurd hj (Nat.not_lt_zero j)⟩,rfl⟩,fun s1 hs1=>bg (fun h=> ?_) fun h=> ?_⟩
  ·have h':s1<x.b.n:=by have:=aQ h;omega
   refine⟨⟨by omega,by omega⟩,h',bg (fun e=>Or.inl ⟨Or.inr ⟨s1,h',Or.inl (beq_iff_eq.1 e)⟩,rfl,rfl⟩) fun e=>bg (fun e2=>Or.inl ⟨Or.inr ⟨s1,h',Or.inr (beq_iff_eq.1 e2)⟩,rfl,rfl⟩) fun e2=>⟨by unfold I64;omega,s1+1,⟨by omega,fun j hj=> ?_⟩,by omega,by omega⟩⟩
   by_cases hjs:j=s1
   ·subst hjs;exact⟨beq_eq_false_iff_ne.1 e,beq_eq_false_iff_ne.1 e2⟩
   ·exact hs1.2 j (by omega)
  ·have h': ¬s1<x.b.n:=by have:=aS h;omega
   exact Or.inr ⟨⟨hL,fun⟨i,hi,hh⟩=>hh.elim (hs1.2 i (by omega)).1 (hs1.2 i (by omega)).2⟩,rfl,rfl⟩
theorem aqO:fJ Tryz.prog aw1:= .cons (bU amh) (.cons (bU NI) (.cons (bU alK) .nil))
theorem auC:bZ Tryz.prog 247 abq:=gB dB mixed aqO asB 200 5 (fun _=>rfl) (fun _=>⟨fun _=>rfl,fun _=>rfl,trivial⟩) fun x hx=>Eq.mp (amK x) (abr x (aY.1 hx))
def fD.notes(c:fD)(t:Nat)(l:Int):Nat->fD
 |0=>c
 |i+1=>(c.notes t l i).note t (l+i)
structure gX where
 a:dF
 t:Nat
 e:Int
 v:ByteArray
 key:ByteArray
 had:Bool
 old:dM
 k:Nat
 c:Int
namespace gX
def av(x:gX)(kind:Int):AV:= .agg [i64 kind,.lit (.string x.key),.lit (.string x.v),boo x.had,.lit (.string x.old.key),u64 x.old.id,u64 x.old.ver,i64 x.old.line,i64 x.old.cls,i64 x.k,i64 x.c]
def blk(x:gX):dN:=⟨x.c,2,x.a.id+1,x.a.ver+1,x.e,⟨#[]⟩,x.v⟩
def eff(x:gX):fZ:=⟨3,⟨#[]⟩,x.v,x.a.id+1,x.a.ver+1,x.e,x.a.ver+1⟩
noncomputable def enq(x:gX):dF:={x.a with d:=x.a.d.store x.k 0 64 x.blk.enc,c:=x.a.c.notes x.t x.k x.blk.dJ,l:=x.a.l.push ⟨⟨#[]⟩,x.a.id+1,x.a.ver+1,x.k,x.c⟩,id:=x.a.id+1,ver:=x.a.ver+1,n:=x.a.n+1,e:=fun i=>if i=x.a.n then x.eff else x.a.e i}
def ok(x:gX):Prop:=x.a.d.ok/\x.a.c.ok/\x.a.l.ok/\x.t<x.a.c.t/\x.k<x.a.d.n/\x.blk.may/\x.v.size<1099511627776/\0<=x.a.id/\0<=x.a.ver/\x.a.n<1099511627776/\x.a.d.n<=258
end gX
def gX.okE(x:gX):Prop:=x.ok/\x.a.p.ok/\x.a.b.ok/\x.a.l.n<1099511627776/\x.a.c.now=x.e/\x.a.ver<1152921504606846976/\x.a.id<1152921504606846976/\(¬rC.inL ⟨x.a.b,x.a.l,x.k⟩)/\ ¬rC.inB ⟨x.a.b,x.a.l,x.k⟩
def gX.inP(x:gX)(i j:Nat):Prop:=i<x.a.p.n/\0<=x.a.p.cls i/\j<dI.many (x.a.p.cls i)/\x.a.p.tk i j=true/\(x.k:Int)=2+i*8+j*spn (x.a.p.cls i)/\x.a.p.cls i=x.c
noncomputable def gX.lst(x:gX)(kind:Int):dw:= .ro (.av [i64 kind,.lit (.string x.key),.lit (.string x.v),boo false,.lit (.string x.old.key),u64 x.old.id,u64 x.old.ver,i64 x.old.line,i64 x.old.cls,i64 x.k,i64 x.c])
noncomputable def Bo(z:Bool):jR:=nG gX (fun x=>[.ptr 0 0,i64 x.t,u64 x.e,.sl 1 0 1 1]) 2 (fun x=>[.m (bif z then x.a.osN else x.a.osP),.o (x.lst 4)]) (fun x=>Hd (x.okE/\(∃i j,x.inP i j)/\(z=true->x.a.n=0))) (fun _=> .tup [.slW 2 0 1 1,i64 0]) 3 (fun x=>[.m x.enq.osP,.o (x.lst 4),.o (.room 4 (.row 1 1 (fun _=>[.bool false]) []))])
noncomputable def abt:Ctr:=det gX (fun x=>[.ptr 0 0,.sl 5 0 1 1]) 6 (fun x=>[abp (.ptr 1 0) .any .any (.ptr 2 0) (.ptr 3 0) (.ptr 4 0) .any,.abs (bK x.a.p.os),.abs (bK x.a.b.os),.abs (bK lT),.abs (bK x.a.l.os),x.lst 4]) (fun x=>Hd (x.okE/\ ∃i j,x.inP i j)) (fun _=>boo true) 6 (fun x=>[abp (.ptr 1 0) .any .any (.ptr 2 0) (.ptr 3 0) (.ptr 4 0) .any,.abs (bK x.a.p.os),.abs (bK x.a.b.os),.abs (bK lT),.abs (bK x.a.l.os),x.lst 4])
noncomputable def auD:jY:=[(246,eG ofP.ctr),(247,eG abq)]
noncomputable def aqP(x:gX):FuncId->tK:=fun f=>bif Nat.beq f 210 then(fun b _ _=>bif Nat.beq b 0 then [
 {σ:=Nat,fr:=fun i=>[(67,i64 i)],ob:=fun i=>[(6,some (.abs (bK ((x.a.c.notes x.t x.k i).os 0))))],inv:=fun i=>Hd (i<=x.blk.dJ),meas:=fun i=>x.blk.dJ-i}]else [])else fun _ _ _=>[]
def auE(a:gX):Prop:=((4:Int)=4/\a.key=a.key/\a.v=a.v/\false=false/\a.old.key=a.old.key/\a.old.id=a.old.id/\a.old.ver=a.old.ver/\a.old.line=a.old.line/\a.old.cls=a.old.cls/\(a.k:Int)=(a.k:Int)/\a.c=a.c/\True)/\True
def auF:Prop:=True/\True/\0=0/\0=0/\True/\0=0/\True/\True/\True/\True
def amL:Prop:=True/\0=0/\auF
def auG(a:gX)(b:dI)(c:rC):Prop:=amL/\bK a.a.p.os=bK b.os/\bK a.a.b.os=bK c.b.os/\bK lT=bK lT/\bK a.a.l.os=bK c.l.os/\auE a
def amM(x:gX):Prop:=
 ((0:Int)<=0/\(0:Int)<=0)/\ ∃x_1:gY,Hd x_1.ok/\(0=0/\x_1.line=(x.k:Int)/\True)/\(bK x_1.p.os=bK x.a.p.os/\True)/\ ∀y:Unit,True->True/\cP (bne (x_1.p.cls x_1.i) x.c) (∃y_1:Unit,True/\true=false/\amL/\bK x.a.p.os=bK x_1.p.os/\bK x.a.b.os=bK x.a.b.os/\bK lT=bK lT/\bK x.a.l.os=bK x.a.l.os/\auE x) (∃x_2:rC,Hd (x_2.b.ok/\x_2.l.ok/\x_2.l.n<1099511627776)/\(0=0/\x_2.k=(x.k:Int)/\True)/\((True/\True/\auF)/\bK x_2.b.os=bK x.a.b.os/\bK lT=bK lT/\bK x_2.l.os=bK x.a.l.os/\True)/\(∀y_1:Unit,Hd (x_2.inL\/x_2.inB)-> ∃y_2:Unit,True/\true=false/\auG x x_1.p x_2)/\ ∀y_1:Unit,Hd (Not x_2.inL/\Not x_2.inB)->I64 (1:Int)/\ ∃y_2:Unit,True/\true=true/\auG x x_1.p x_2)
theorem amN(x:gX):amM x=wpF Tryz.prog auD tt (noA x) 200 6 207 (abt.args x) (hO abt.k (abt.os x)) (fun v h'=>fA abt.k x v h' abt.outs):=by kernel_rfl
theorem abu(x:gX)(hx:x.okE/\ ∃i j,x.inP i j):amM x:=by
 obtain⟨⟨⟨_,_,hl,_⟩,hp,hb,hln,_,_,_,hL,hB⟩,i,j,h1,h2,h3,h4,h5,h6⟩:=hx
 unfold amM
 simp only[amL,auE,auF,auG]
 simp only[aY,aU,aT,ay,aH,bP,bC,aN,aJ,au,aW,aV,bQ,bF,bG,bH,bT,bf,bJ,aZ,dZ,aG,aK,ah,aj,aA,aC,aB,aF]
 refine⟨by decide,⟨x.a.p,i,j⟩,⟨hp,h1,h2,h3,h4⟩,h5.symm,rfl,?_⟩
 refine bg (fun h=>absurd h6 (bne_iff_ne.1 h)) fun _=>⟨⟨x.a.b,x.a.l,x.k⟩,⟨hb,hl,hln⟩,rfl,⟨rfl,rfl⟩,fun h=>absurd h (not_or.2 ⟨hL,hB⟩),fun _=>⟨by unfold I64;omega,rfl,rfl,rfl⟩⟩
theorem aew:fJ Tryz.prog auD:= .cons (bU of_ok) (.cons (bU auC) .nil)
theorem auH:bZ Tryz.prog 207 abt:=dV dB mixed aew noA 200 6 (fun _=>rfl) (fun _=>rfl) fun x hx=>Eq.mp (amN x) (abu x (aY.1 hx))
noncomputable def vJ:Ctr:=det gX (fun _=>[.sl 0 0 1 1]) 1 (fun x=>[x.lst 4]) (fun _=>Hd True) (fun _=>boo true) 1 (fun x=>[x.lst 4])
noncomputable def abv:Ctr:=det gX (fun x=>[.ptr 0 0,.sl 1 0 1 1,u64 x.e]) 2 (fun x=>[.ro (.av [.any,.any,.any,.any,.any,.any,.any,.any,u64 x.a.id,u64 x.a.ver,.any]),x.lst 4]) (fun x=>Hd x.okE) (fun _=>i64 0) 2 (fun x=>[.ro (.av [.any,.any,.any,.any,.any,.any,.any,.any,u64 x.a.id,u64 x.a.ver,.any]),x.lst 4])
noncomputable def auI:jY:=tV++[(229,eG asw)]
def aqQ(a:gX):Prop:=((4:Int)=4/\a.key=a.key/\a.v=a.v/\false=false/\a.old.key=a.old.key/\a.old.id=a.old.id/\a.old.ver=a.old.ver/\a.old.line=a.old.line/\a.old.cls=a.old.cls/\(a.k:Int)=(a.k:Int)/\a.c=a.c/\True)/\True
def ah5(a:gX):Prop:=(True/\True/\True/\True/\True/\True/\True/\True/\a.a.id=a.a.id/\a.a.ver=a.a.ver/\True/\True)/\aqQ a
def Q5(x:gX):Prop:=
 ((0:Int)<=0/\(0:Int)<=0)/\I64 (1:Int)/\ ∃y:Unit,True/\true=true/\aqQ x
theorem abw(x:gX):Q5 x=wpF Tryz.prog [] tt (noA x) 200 6 205 (vJ.args x) (hO vJ.k (vJ.os x)) (fun v h'=>fA vJ.k x v h' vJ.outs):=by kernel_rfl
def amO(x:gX):Prop:=
 True/\True/\((0:Int)<=0/\(0:Int)<=0)/\(AV.lit (Value.string x.v)=AV.lit (Value.string x.v)/\True)/\True/\ ∃x_1:dN,Hd (x_1.key.size<1099511627776/\x_1.value.size<1099511627776)/\((x_1.cls=x.c/\x_1.kind=2/\x_1.id=1/\x_1.ver=1/\x_1.epoch=x.e/\x_1.key=ByteArray.mk #[]/\x_1.value=x.v/\True)/\True)/\True/\ ∀y:Unit,True->cP (Bool.not x_1.Zi) (∃y_1:Unit,True/\(0:Int)=3/\ah5 x) (cP (bne x.c x.c) (∃y_1:Unit,True/\(0:Int)=3/\ah5 x) (cP (decide (IntKind.wrap .u64 (x.a.ver+1)>(2305843009213693952:Int))) (I64 (1:Int)/\ ∃y_1:Unit,True/\(0:Int)=10/\ah5 x) (I64 (1:Int)/\cP (decide (IntKind.wrap .u64 (x.a.id+1)>(2305843009213693952:Int))) (∃y_1:Unit,True/\(0:Int)=10/\ah5 x) (∃y_1:Unit,True/\(0:Int)=0/\ah5 x))))
theorem amP(x:gX):amO x=wpF Tryz.prog auI tt (noA x) 200 6 208 (abv.args x) (hO abv.k (abv.os x)) (fun v h'=>fA abv.k x v h' abv.outs):=by kernel_rfl
theorem Q7(x:gX):Q5 x:=by
 unfold Q5
 simp only[aqQ]
 simp only[aY,aU,aT,ay,aH,bP,bC,aN,aJ,au,aW,aV,bQ,bF,bG,bH,bT,bf,bJ,aZ,dZ,aG,aK,ah,aj,aA,aC,aB,aF,I64]
 omega
theorem abx(x:gX)(hx:x.okE):amO x:=by
 obtain⟨⟨_,_,_,_,_,hm,hv,hi,hw,_⟩,_,_,_,_,h1,h2,_⟩:=hx
 unfold amO
 simp only[ah5,aqQ]
 simp only[aY,aU,aT,ay,aH,bP,bC,aN,aJ,au,aW,aV,bQ,bF,bG,bH,bT,bf,bJ,aZ,dZ,aG,aK,ah,aj,aA,aC,aB,aF]
 have hq:dN.may ⟨x.c,2,1,1,x.e,⟨#[]⟩,x.v⟩:=by
  obtain⟨a,b⟩:=hm
  refine⟨a,?_⟩
  simp only[gX.blk]at b
  rcases b with ⟨b,_⟩|⟨b,_⟩|⟨_,b1,b2,b3,_,_,b4⟩|⟨b,_⟩
  ·exact absurd b (by decide)
  ·exact absurd b (by decide)
  ·exact .inr (.inr (.inl ⟨rfl,rfl,b2,b3,⟨show(1:Int)<=1 by decide,show(1:Int)<=2305843009213693952 by decide⟩,⟨show(1:Int)<=1 by decide,show(1:Int)<=2305843009213693952 by decide⟩,b4⟩))
  ·exact absurd b (by decide)
 have w1:IntKind.u64.wrap (x.a.ver+1)=x.a.ver+1:=jZ (by omega) (by omega)
 have w2:IntKind.u64.wrap (x.a.id+1)=x.a.id+1:=jZ (by omega) (by omega)
 rw[w1,w2]
 refine⟨by decide,⟨x.c,2,1,1,x.e,⟨#[]⟩,x.v⟩,⟨by show 0<1099511627776;decide,hv⟩,⟨rfl,rfl,rfl,rfl,rfl,rfl,rfl⟩,?_⟩
 rw[Bg.2 hq,Bool.not_true,jJ,bne_self_eq_false,jJ]
 exact bg (fun h=>absurd (aQ h) (by omega)) fun _=>⟨by unfold I64;omega,bg (fun h=>absurd (aQ h) (by omega)) fun _=>trivial⟩
theorem aex:fJ Tryz.prog auI:= .append fC (.cons (bU asx) .nil)
theorem auJ:bZ Tryz.prog 208 abv:=dV dB mixed aex noA 200 6 (fun _=>rfl) (fun _=>rfl) fun x hx=>Eq.mp (amP x) (abx x (aY.1 hx))
theorem Xu:bZ Tryz.prog 205 vJ:=dV dB mixed .nil noA 200 6 (fun _=>rfl) (fun _=>rfl) fun x _=>Eq.mp (abw x) (Q7 x)
theorem GK{P:Program}{f:FuncId}{X:Type}{args:X->List AV}{pre:X->Prop}{ret:X->AV}(hC:bZ P f (det X args 0 (fun _=>[]) pre ret 0 (fun _=>[])))(x:X)(hp:pre x)(h:Heap)(ha:(args x).all mG=true)(hr:mG (ret x)=true){K:AV->Heap->Prop}(hK:K (ret x) h):Sp P f (args x) h K:=
 (adt h (aac hC x hp) (fun _ _ hv=>hv) ha hr).mono fun _ _ hh=>by obtain⟨rfl,rfl⟩:=hh;exact hK
def ah6:WTr:=fun args h K=>match args with
 |[.lit (.int .i64 c)]=>K (i64 (spn c)) h
 |_=>False
theorem GL(args:List AV)(h:Heap)(K:AV->Heap->Prop)(hq:ah6 args h K):Sp Tryz.prog 113 args h K:=by
 unfold ah6 at hq
 split at hq
 ·exact GK mX _ trivial h rfl rfl hq
 ·exact hq.elim
namespace gX
def aqR(x:gX):dN:=⟨0,3,x.old.id,x.a.ver+1,x.e,⟨#[]⟩,⟨#[]⟩⟩
def asC(x:gX):fZ:=⟨4,⟨#[]⟩,⟨#[]⟩,x.old.id,x.a.ver+1,x.e,x.a.ver+1⟩
def aby(x:gX):iF:=⟨x.old.line,x.old.cls,x.a.r.now,x.e,x.k⟩
noncomputable def deq(x:gX):dF:={x.a with d:=x.a.d.store x.k 0 64 x.aqR.enc,c:=x.a.c.notes x.t x.k 1,l:=x.a.l.pop,ver:=x.a.ver+1,b:=x.a.b.put x.aby,n:=x.a.n+1,e:=fun i=>if i=x.a.n then x.asC else x.a.e i}
def okD(x:gX):Prop:=x.a.d.ok/\x.a.c.ok/\x.a.l.ok/\x.t<x.a.c.t/\x.k<x.a.d.n/\x.aqR.may/\0<=x.a.ver/\x.a.n<1099511627776/\x.a.d.n<=258/\x.a.p.ok/\x.a.b.ok/\x.a.r.ok/\x.a.l.n<1099511627776/\x.a.l.n≠0/\x.old=x.a.l.head/\x.a.c.now=x.e/\x.a.ver<1152921504606846976/\x.c=0/\x.aby.may/\(¬rC.inL ⟨x.a.b,x.a.l,x.k⟩)/\ ¬rC.inB ⟨x.a.b,x.a.l,x.k⟩
noncomputable def ao1(x:gX):dw:= .ro (.av [i64 5,.lit (.string x.key),.lit (.string x.v),boo true,.lit (.string x.old.key),u64 x.old.id,u64 x.old.ver,i64 x.old.line,i64 x.old.cls,i64 x.k,i64 x.c])
end gX
noncomputable def qy:Ctr:=det gX (fun _=>[.sl 0 0 1 1]) 1 (fun x=>[x.ao1]) (fun _=>Hd True) (fun _=>boo true) 1 (fun x=>[x.ao1])
noncomputable def Jf:Ctr:=det gX (fun x=>[.ptr 0 0,.sl 1 0 1 1,u64 x.e]) 2 (fun x=>[.ro (.av [.any,.any,.any,.any,.any,.any,.any,.any,u64 x.a.id,u64 x.a.ver,.any]),x.ao1]) (fun x=>Hd (x.okD/\0<=x.a.id/\x.a.id<1152921504606846976)) (fun _=>i64 0) 2 (fun x=>[.ro (.av [.any,.any,.any,.any,.any,.any,.any,.any,u64 x.a.id,u64 x.a.ver,.any]),x.ao1])
noncomputable def Jg:Ctr:=det gX (fun x=>[.ptr 0 0,.sl 5 0 1 1]) 6 (fun x=>[abp (.ptr 1 0) .any .any (.ptr 2 0) (.ptr 3 0) (.ptr 4 0) .any,.abs (bK x.a.p.os),.abs (bK x.a.b.os),.abs (bK lT),.abs (bK x.a.l.os),x.ao1]) (fun x=>Hd (x.okD/\ ∃i j,x.inP i j)) (fun _=>boo true) 6 (fun x=>[abp (.ptr 1 0) .any .any (.ptr 2 0) (.ptr 3 0) (.ptr 4 0) .any,.abs (bK x.a.p.os),.abs (bK x.a.b.os),.abs (bK lT),.abs (bK x.a.l.os),x.ao1])
noncomputable def aw2:Ctr:=det dN (fun b=>[b.av]) 0 (fun _=>[]) (fun b=>Hd (b.may/\b.key.size<1099511627776/\b.value.size<1099511627776/\b.cls=0)) (fun _=> .tup [.slE 0 0 1 64 64,i64 0]) 1 (fun b=>[.cells 5 (rowB b.enc 64)])
theorem auK:bZ Tryz.prog 180 aw2:=qw fun b hb=>by
 have hb:=aY.1 hb
 refine⟨aqp,ame,rfl,b,aY.2 ⟨hb.1,hb.2.1,hb.2.2.1⟩,rfl,rfl,fun v h' hh=> ?_⟩
 rcases qY hh with ⟨y,h0,h1,h2⟩|⟨y,h0,h1,h2⟩
 ·exact fK ⟨(),trivial,h1,h2⟩
 ·exact absurd hb.2.2.2 (aY.1 h0)
noncomputable def Xv:jR:=nG gX (fun x=>[.ptr 0 0,i64 x.t,u64 x.e,.sl 1 0 1 1]) 2 (fun x=>[.m x.a.osP,.o x.ao1]) (fun x=>Hd (x.okD/\(∃i j,x.inP i j)/\0<=x.a.id/\x.a.id<1152921504606846976)) (fun _=> .tup [.slW 2 0 1 1,i64 0]) 3 (fun x=>[.m x.deq.osP,.o x.ao1,.o (.room 4 (.row 1 1 (fun _=>[.bool true]) []))])
noncomputable def aw3:jY:=tV++[(113,ah6),(180,eG aw2),(62,eG IC.ctr),(64,eG (ahq 0).ctr),(255,eG aeb.ctr),(154,eG vC.ctr),(66,eG alH.ctr),(67,eG awK.ctr),(205,eG qy),(207,eG Jg),(208,eG Jf),(204,eG (Wq 0).ctr),(45,eG (QC 0).ctr)]
def Q8(a:gX):Prop:=(5:Int)=5/\a.key=a.key/\a.v=a.v/\true=true/\a.old.key=a.old.key/\a.old.id=a.old.id/\a.old.ver=a.old.ver/\a.old.line=a.old.line/\a.old.cls=a.old.cls/\(a.k:Int)=(a.k:Int)/\a.c=a.c/\True
def ah7(a:gX):Prop:=(True/\True/\True/\True/\True/\True/\True/\True/\a.a.id=a.a.id/\a.a.ver=a.a.ver/\True/\True)/\Q8 a/\True
def aey(a:gX)(b:gX):Prop:=((5:Int)=5/\a.key=b.key/\a.v=b.v/\true=true/\a.old.key=b.old.key/\a.old.id=b.old.id/\a.old.ver=b.old.ver/\a.old.line=b.old.line/\a.old.cls=b.old.cls/\(a.k:Int)=(b.k:Int)/\a.c=b.c/\True)/\True
def aez:Prop:=True/\True/\0=0/\0=0/\True/\0=0/\True/\True/\True/\True
def Xw:Prop:=True/\0=0/\aez
def Bq:Prop:=(0:Int)<=0/\(0:Int)<=0
def Xx:Prop:=Value.slice none 0 0=Value.slice none 0 0
def Jh:Prop:=bK lT=bK lT
def amQ(a:gX)(b:dI)(c:rC):Prop:=Xw/\bK a.a.p.os=bK b.os/\bK a.a.b.os=bK c.b.os/\Jh/\bK a.a.l.os=bK c.l.os/\Q8 a/\True
def Ji(x:gX):Prop:=
 Bq/\I64 (1:Int)/\ ∃y:Unit,True/\true=true/\Q8 x/\True
theorem Xy(x:gX):Ji x=wpF Tryz.prog [] tt (noA x) 200 6 205 (qy.args x) (hO qy.k (qy.os x)) (fun v h'=>fA qy.k x v h' qy.outs):=by kernel_rfl
def abz(x:gX):Prop:=
 True/\True/\Bq/\ ∃x_1:dN,Hd (x_1.key.size<1099511627776/\x_1.value.size<1099511627776)/\((x_1.cls=0/\x_1.kind=3/\x_1.id=1/\x_1.ver=1/\x_1.epoch=x.e/\x_1.key=ByteArray.mk #[]/\x_1.value=ByteArray.mk #[]/\True)/\True)/\True/\ ∀y:Unit,True->cP (Bool.not x_1.Zi) (∃y_1:Unit,True/\(0:Int)=3/\ah7 x) (cP (bne (0:Int) x.c) (∃y_1:Unit,True/\(0:Int)=3/\ah7 x) (cP (decide (IntKind.wrap .u64 (x.a.ver+1)>(2305843009213693952:Int))) (I64 (1:Int)/\ ∃y_1:Unit,True/\(0:Int)=10/\ah7 x) (I64 (1:Int)/\cP (decide (x.a.id>(2305843009213693952:Int))) (∃y_1:Unit,True/\(0:Int)=10/\ah7 x) (∃y_1:Unit,True/\(0:Int)=0/\ah7 x))))
theorem ah8(x:gX):abz x=wpF Tryz.prog auI tt (noA x) 200 6 208 (Jf.args x) (hO Jf.k (Jf.os x)) (fun v h'=>fA Jf.k x v h' Jf.outs):=by kernel_rfl
def abA(x:gX):Prop:=
 Bq/\ ∃x_1:gY,Hd x_1.ok/\(0=0/\x_1.line=(x.k:Int)/\True)/\(bK x_1.p.os=bK x.a.p.os/\True)/\ ∀y:Unit,True->True/\cP (bne (x_1.p.cls x_1.i) x.c) (∃y_1:Unit,True/\true=false/\Xw/\bK x.a.p.os=bK x_1.p.os/\bK x.a.b.os=bK x.a.b.os/\Jh/\bK x.a.l.os=bK x.a.l.os/\Q8 x/\True) (∃x_2:rC,Hd (x_2.b.ok/\x_2.l.ok/\x_2.l.n<1099511627776)/\(0=0/\x_2.k=(x.k:Int)/\True)/\((True/\True/\aez)/\bK x_2.b.os=bK x.a.b.os/\Jh/\bK x_2.l.os=bK x.a.l.os/\True)/\(∀y_1:Unit,Hd (x_2.inL\/x_2.inB)-> ∃y_2:Unit,True/\true=false/\amQ x x_1.p x_2)/\ ∀y_1:Unit,Hd (Not x_2.inL/\Not x_2.inB)->I64 (1:Int)/\ ∃y_2:Unit,True/\true=true/\amQ x x_1.p x_2)
theorem ah9(x:gX):abA x=wpF Tryz.prog auD tt (noA x) 200 6 207 (Jg.args x) (hO Jg.k (Jg.os x)) (fun v h'=>fA Jg.k x v h' Jg.outs):=by kernel_rfl
def amR(x:gX):Prop:=
 ∃x_1:fD,Hd x_1.ok/\(0=0/\True)/\(bK (x_1.os 0)=bK (x.a.c.os 0)/\True)/\ ∀y:Unit,True->cP (decide ((x.t:Int)>=(x_1.t:Int))) (∃y_1:Unit,True/\False) (∃x_2:gX,Hd True/\((0=0/\1=1/\1=1)/\True)/\aey x_2 x/\ ∀y_1:Unit,True-> ∃x_3:fD,Hd x_3.ok/\(0=0/\True)/\(bK (x_3.os 0)=bK (x_1.os 0)/\True)/\ ∀y_2:Unit,True->cP (bne x_3.now x.e) (∃y_3:Unit,True/\False) (Bq/\ ∃x_4:ZLn,Hd x_4.ok/\(0=0/\True)/\(bK x_4.os=bK x.a.l.os/\True)/\ ∀y_3:Unit,True->cP (decide (x_4.n≠0)) (cP (Bool.not (BEq.beq (ByteArray.toList x_4.head.key) (ByteArray.toList x.old.key)&&(BEq.beq x_4.head.id x.old.id&&(BEq.beq x_4.head.ver x.old.ver&&(BEq.beq x_4.head.line x.old.line&&(BEq.beq x_4.head.cls x.old.cls&&true)))))) (∃y_4:Unit,True/\False) (I64 (1:Int)/\ ∃x_5:gX,Hd (x_5.okD/\ ∃i:Nat,∃j:Nat,x_5.inP i j)/\(0=0/\(0=0/\1=1/\1=1)/\True)/\(Xw/\bK x_5.a.p.os=bK x.a.p.os/\bK x_5.a.b.os=bK x.a.b.os/\Jh/\bK x_5.a.l.os=bK x_4.os/\aey x_5 x)/\ ∀y_4:Unit,True-> ∃x_6:gX,Hd (x_6.okD/\0<=x_6.a.id/\x_6.a.id<1152921504606846976)/\(0=0/\(0=0/\1=1/\1=1)/\x_6.e=x.e/\True)/\((True/\True/\True/\True/\True/\True/\True/\True/\x_6.a.id=x.a.id/\x_6.a.ver=x.a.ver/\True/\True)/\aey x_6 x)/\ ∀y_5:Unit,True->Bq/\1002<=281474976710656/\ ∃x_7:dN,Hd (x_7.may/\x_7.key.size<1099511627776/\x_7.value.size<1099511627776/\x_7.cls=0)/\((x_7.cls=0/\x_7.kind=3/\x_7.id=x.old.id/\x_7.ver=IntKind.wrap .u64 (x.a.ver+1)/\x_7.epoch=x.e/\x_7.key=ByteArray.mk #[]/\x_7.value=ByteArray.mk #[]/\True)/\True)/\True/\ ∀y_6:Unit,True->(0:Int)<=64/\(0<=64/\64<=64/\
 64<=64)/\(AV.lit (Value.int .i64 (x.k:Int))=AV.lit (Value.int .i64 (x.k:Int))/\True)/\ ∃x_8:pW,Hd (x_8.d.ok/\x_8.k<x_8.d.n/\x_8.b.ok/\x_8.a+x_8.b.n<=64)/\(0=0/\(x_8.k:Int)=(x.k:Int)/\(x_8.a:Int)=0/\(x_8.b.q=0/\x_8.b.n=64)/\True)/\(bK x_8.d.os=bK x.a.d.os/\(x_8.b.N=64/\ ∀q:Nat,q<x_8.b.N->[Value.int .u8 (x_8.b.g q)]=[Value.int .u8 (x_7.enc q)])/\True)/\ ∀y_7:Unit,True->True/\I64 ((x.k:Int)+0)/\ ∃x_9:Zg,Hd (x_9.c.ok/\x_9.t<x_9.c.t)/\(0=0/\(x_9.t:Int)=(x.t:Int)/\x_9.l=(x.k:Int)+0/\True)/\(bK (x_9.c.os 0)=bK (x_3.os 0)/\True)/\ ∀y_8:Unit,True->True/\I64 (1:Int)/\I64 (IntKind.wrap .u64 (x.a.ver+1))/\(AV.lit (Value.int .i64 (x.k:Int))=AV.lit (Value.int .i64 (x.k:Int))/\True)/\ ∃FM:ZLn,Hd FM.ok/\(0=0/\True)/\(bK FM.os=bK x_5.a.l.os/\True)/\ ∀y_9:Unit,True-> ∃x_11:ZRd,Hd x_11.ok/\(0=0/\True)/\(bK x_11.os=bK x.a.r.os/\True)/\ ∀avO:Unit,True->(AV.lit (Value.int .i64 x.old.cls)=AV.lit (Value.int .i64 x.old.cls)/\AV.lit (Value.int .i64 x.old.line)=AV.lit (Value.int .i64 x.old.line)/\AV.ptr 7 0=AV.ptr 7 0/\True)/\ ∃ao2:Fz,Hd (ao2.b.ok/\ao2.x.may)/\(0=0/\(ao2.x.line=x.old.line/\ao2.x.cls=x.old.cls/\ao2.x.r=x_11.now/\ao2.x.d=x.e/\ao2.x.anti=(x.k:Int)/\True)/\True)/\(bK ao2.b.os=bK x_5.a.b.os/\True)/\ ∀y_11:Unit,True->True/\(AV.slW 11 0 7 x.a.n=AV.slW 11 0 7 x.a.n/\True)/\x.a.n=x.a.n/\
 List.all [List.take 7 [Value.int .i64 4,Value.string (ByteArray.mk #[]),Value.string (ByteArray.mk #[]),Value.int .u64 x.old.id,Value.int .u64 (IntKind.wrap .u64 (x.a.ver+1)),Value.int .u64 x.e,Value.int .i64 (IntKind.wrap .u64 (x.a.ver+1))]] (fun(l:List Value)=>Nat.beq (List.length l) 7&&List.all l Value.oneCell')=true/\(2*(x.a.n+1)+1000)*72<=281474976710656/\True/\True/\I64 (1:Int)/\ ∃y_12:Unit,True/\((0=0/\1=1)/\(0:Int)=0/\True)/\(0=0/\0=0/\0=0/\0=0/\0=0/\0=0/\0=0/\0=0/\x.a.id=x.a.id/\x.a.ver+1=IntKind.wrap .u64 (x.a.ver+1)/\(0=0/\x.a.n+1=x.a.n+1)/\True)/\Q8 x/\(1=1/\ ∀q:Nat,q<1->[Value.bool true]=Cs.eff (fun(x_13:Nat)=>[]) [(0,List.take 1 [Value.bool true])] q)/\(0=0/\(1:Int)=1/\(0:Int)=0/\(0:Int)=0/\True)/\bK (dS.os (x.a.d.store x.k 0 64 x.aqR.enc))=bK (dS.os (x_8.d.store x_8.k x_8.a x_8.b.n (fun(q:Nat)=>x_8.b.g (x_8.b.q+q))))/\bK x.a.p.os=bK x_5.a.p.os/\bK x.a.r.os=bK x_11.os/\bK (fD.os (x.a.c.notes x.t (x.k:Int) 1) 0)=bK (fD.os (x_9.c.note x_9.t x_9.l) 0)/\bK (iV.os (x.a.b.put x.aby))=bK (iV.os (ao2.b.put ao2.x))/\Jh/\(Xx/\Xx/\Xx/\Xx/\True)/\bK x.a.l.pop.os=bK FM.pop.os/\(x.a.n+1=x.a.n+List.length [List.take 7 [Value.int .i64 4,Value.string (ByteArray.mk #[]),Value.string (ByteArray.mk #[]),Value.int .u64 x.old.id,Value.int .u64 (IntKind.wrap .u64 (x.a.ver+1)),Value.int .u64 x.e,Value.int .i64 (IntKind.wrap .u64 (x.a.ver+1))]]/\
 ∀q:Nat,q<x.a.n+1->[Value.int .i64 (fZ.kind (ite (q=x.a.n) x.asC (x.a.e q))),Value.string (fZ.key (ite (q=x.a.n) x.asC (x.a.e q))),Value.string (fZ.value (ite (q=x.a.n) x.asC (x.a.e q))),Value.int .u64 (fZ.id (ite (q=x.a.n) x.asC (x.a.e q))),Value.int .u64 (fZ.ver (ite (q=x.a.n) x.asC (x.a.e q))),Value.int .u64 (fZ.epoch (ite (q=x.a.n) x.asC (x.a.e q))),Value.int .i64 (fZ.group (ite (q=x.a.n) x.asC (x.a.e q)))]=Cs.eff (fun(i:Nat)=>fZ.cs (x.a.e i)) [(x.a.n,List.take 7 [Value.int .i64 4,Value.string (ByteArray.mk #[]),Value.string (ByteArray.mk #[]),Value.int .u64 x.old.id,Value.int .u64 (IntKind.wrap .u64 (x.a.ver+1)),Value.int .u64 x.e,Value.int .i64 (IntKind.wrap .u64 (x.a.ver+1))])] q)/\True)) (∃y_4:Unit,True/\False)))
theorem amS(x:gX):amR x=wpF Tryz.prog aw3 tt (noA x) 200 6 162 (Xv.args x) (hO 12 (dO 2 (Xv.l x))) (fun v h'=>dA 2 x v h' Xv.outs):=by kernel_rfl
noncomputable def auL:jY:=tV++[(113,eG Aw),(180,eG aqp),(62,eG IC.ctr),(64,eG (ahq 0).ctr),(254,eG WT.ctr),(205,eG vJ),(207,eG abt),(208,eG abv),(204,eG (Wq 0).ctr),(45,eG (QC 0).ctr)]
def gq(a:gX):Prop:=(4:Int)=4/\a.key=a.key/\a.v=a.v/\false=false/\a.old.key=a.old.key/\a.old.id=a.old.id/\a.old.ver=a.old.ver/\a.old.line=a.old.line/\a.old.cls=a.old.cls/\(a.k:Int)=(a.k:Int)/\a.c=a.c/\True
def EH(a:Int):Prop:=IntKind.wrap .u64 (a+1)=IntKind.wrap .u64 (a+1)
def mP(a:gX):Prop:=a.c=a.c/\(2:Int)=2/\EH a.a.id/\EH a.a.ver/\a.e=a.e/\ByteArray.mk #[]=ByteArray.mk #[]/\a.v=a.v/\True
def aeA:Prop:=1=1/\ ∀q:Nat,q<1->[Value.bool false]=Cs.eff (fun(FM:Nat)=>[]) [(0,List.take 1 [Value.bool false])] q
def aeB(a:gX)(b:Nat):Prop:=bK (fD.os (a.a.c.notes a.t (a.k:Int) a.blk.dJ) 0)=bK (fD.os (a.a.c.notes a.t (a.k:Int) b) 0)
def NR:Prop:=0=0/\(1:Int)=1/\(0:Int)=0/\(0:Int)=0/\True
def aeC(a:gX)(b:ahy):Prop:=bK (ZLn.os (a.a.l.push (dM.mk (ByteArray.mk #[]) (a.a.id+1) (a.a.ver+1) (a.k:Int) a.c)))=bK (ZLn.os (b.l.push b.x))
def aeD(a:dM)(b:gX):Prop:=0=0/\(a.key=ByteArray.mk #[]/\a.id=IntKind.wrap .u64 (b.a.id+1)/\a.ver=IntKind.wrap .u64 (b.a.ver+1)/\a.line=(b.k:Int)/\a.cls=b.c/\True)/\True
def Jj:Prop:=Value.slice none 0 0=Value.slice none 0 0
def uf:Prop:=Jj/\Jj/\Jj/\Jj/\True
def aeE(a:gX)(b:pW):Prop:=bK (dS.os (a.a.d.store a.k 0 64 a.blk.enc))=bK (dS.os (b.d.store b.k b.a b.b.n (fun(q:Nat)=>b.b.g (b.b.q+q))))
def NS(a:Int):Prop:=a+1=IntKind.wrap .u64 (a+1)
def rD:Prop:=bK lT=bK lT
def amT(a:gX)(b:dF)(c:pW)(d:Nat):Prop:=I64 (IntKind.wrap .u64 (a.a.ver+1))/\ ∃x_9:ahy,Hd x_9.l.ok/\aeD x_9.x a/\(bK x_9.l.os=bK b.l.os/\True)/\ ∀y_8:Unit,True->True/\(AV.slW 11 0 7 a.a.n=AV.slW 11 0 7 a.a.n/\True)/\a.a.n=a.a.n/\List.all [List.take 7 [Value.int .i64 3,Value.string (ByteArray.mk #[]),Value.string a.v,Value.int .u64 (IntKind.wrap .u64 (a.a.id+1)),Value.int .u64 (IntKind.wrap .u64 (a.a.ver+1)),Value.int .u64 a.e,Value.int .i64 (IntKind.wrap .u64 (a.a.ver+1))]] (fun(l:List Value)=>Nat.beq (List.length l) 7&&List.all l Value.oneCell')=true/\(2*(a.a.n+1)+1000)*72<=281474976710656/\True/\True/\I64 (1:Int)/\ ∃y_9:Unit,True/\((0=0/\1=1)/\(0:Int)=0/\True)/\(0=0/\0=0/\0=0/\0=0/\0=0/\0=0/\0=0/\0=0/\NS a.a.id/\NS a.a.ver/\(0=0/\a.a.n+1=a.a.n+1)/\True)/\gq a/\aeA/\NR/\aeE a c/\bK a.a.p.os=bK b.p.os/\bK a.a.r.os=bK a.a.r.os/\aeB a d/\bK a.a.b.os=bK b.b.os/\rD/\uf/\aeC a x_9/\(a.a.n+1=a.a.n+List.length [List.take 7 [Value.int .i64 3,Value.string (ByteArray.mk #[]),Value.string a.v,Value.int .u64 (IntKind.wrap .u64 (a.a.id+1)),Value.int .u64 (IntKind.wrap .u64 (a.a.ver+1)),Value.int .u64 a.e,Value.int .i64 (IntKind.wrap .u64 (a.a.ver+1))]]/\
 ∀q:Nat,q<a.a.n+1->[Value.int .i64 (fZ.kind (ite (q=a.a.n) a.eff (a.a.e q))),Value.string (fZ.key (ite (q=a.a.n) a.eff (a.a.e q))),Value.string (fZ.value (ite (q=a.a.n) a.eff (a.a.e q))),Value.int .u64 (fZ.id (ite (q=a.a.n) a.eff (a.a.e q))),Value.int .u64 (fZ.ver (ite (q=a.a.n) a.eff (a.a.e q))),Value.int .u64 (fZ.epoch (ite (q=a.a.n) a.eff (a.a.e q))),Value.int .i64 (fZ.group (ite (q=a.a.n) a.eff (a.a.e q)))]=Cs.eff (fun(i:Nat)=>fZ.cs (a.a.e i)) [(a.a.n,List.take 7 [Value.int .i64 3,Value.string (ByteArray.mk #[]),Value.string a.v,Value.int .u64 (IntKind.wrap .u64 (a.a.id+1)),Value.int .u64 (IntKind.wrap .u64 (a.a.ver+1)),Value.int .u64 a.e,Value.int .i64 (IntKind.wrap .u64 (a.a.ver+1))])] q)/\True
def amU(a:gX)(b:dF)(c:pW)(d:Nat):Prop:=I64 (IntKind.wrap .u64 (a.a.ver+1))/\ ∃x_9:ahy,Hd x_9.l.ok/\aeD x_9.x a/\(bK x_9.l.os=bK b.l.os/\True)/\ ∀y_8:Unit,True->True/\(AV.lit (Value.slice none 0 0)=AV.lit (Value.slice none 0 0)/\True)/\(2*(0+1)+1000)*72<=281474976710656/\True/\True/\I64 (1:Int)/\ ∃y_9:Unit,True/\((0=0/\1=1)/\(0:Int)=0/\True)/\(0=0/\0=0/\0=0/\0=0/\0=0/\0=0/\0=0/\0=0/\NS a.a.id/\NS a.a.ver/\(0=0/\a.a.n+1=1)/\True)/\gq a/\aeA/\NR/\aeE a c/\bK a.a.p.os=bK b.p.os/\bK a.a.r.os=bK a.a.r.os/\aeB a d/\bK a.a.b.os=bK b.b.os/\rD/\uf/\aeC a x_9/\(a.a.n+1=0+List.length [List.take 7 [Value.int .i64 3,Value.string (ByteArray.mk #[]),Value.string a.v,Value.int .u64 (IntKind.wrap .u64 (a.a.id+1)),Value.int .u64 (IntKind.wrap .u64 (a.a.ver+1)),Value.int .u64 a.e,Value.int .i64 (IntKind.wrap .u64 (a.a.ver+1))]]/\ ∀q:Nat,q<a.a.n+1->[Value.int .i64 (fZ.kind (ite (q=a.a.n) a.eff (a.a.e q))),Value.string (fZ.key (ite (q=a.a.n) a.eff (a.a.e q))),Value.string (fZ.value (ite (q=a.a.n) a.eff (a.a.e q))),Value.int .u64 (fZ.id (ite (q=a.a.n) a.eff (a.a.e q))),Value.int .u64 (fZ.ver (ite (q=a.a.n) a.eff (a.a.e q))),Value.int .u64 (fZ.epoch (ite (q=a.a.n) a.eff (a.a.e q))),Value.int .i64 (fZ.group (ite (q=a.a.n) a.eff (a.a.e q)))]=Cs.eff (fun(FM:Nat)=>[]) [(0,List.take 7 [Value.int .i64 3,Value.string (ByteArray.mk #[]),Value.string a.v,Value.int .u64 (IntKind.wrap .u64 (a.a.id+1)),Value.int .u64 (IntKind.wrap .u64 (a.a.ver+1)),Value.int .u64 a.e,Value.int .i64 (IntKind.wrap .u64 (a.a.ver+1))])] q)/\True
def Xz(a:dF):Prop:=a.n=a.n/\ ∀q:Nat,q<a.n->[Value.int .i64 (fZ.kind (a.e q)),Value.string (fZ.key (a.e q)),Value.string (fZ.value (a.e q)),Value.int .u64 (fZ.id (a.e q)),Value.int .u64 (fZ.ver (a.e q)),Value.int .u64 (fZ.epoch (a.e q)),Value.int .i64 (fZ.group (a.e q))]=[Value.int .i64 (fZ.kind (a.e q)),Value.string (fZ.key (a.e q)),Value.string (fZ.value (a.e q)),Value.int .u64 (fZ.id (a.e q)),Value.int .u64 (fZ.ver (a.e q)),Value.int .u64 (fZ.epoch (a.e q)),Value.int .i64 (fZ.group (a.e q))]
def aeF(a:pW):Prop:=bK (dS.os (a.d.store a.k a.a a.b.n (fun(q:Nat)=>a.b.g (a.b.q+q))))=bK (dS.os (a.d.store a.k a.a a.b.n (fun(q:Nat)=>a.b.g (a.b.q+q))))
def XA(a:gX)(b:dI)(c:pW):Prop:=bK a.a.r.os=bK a.a.r.os/\bK b.os=bK b.os/\aeF c/\NR/\gq a/\(0=0/\0=0/\0=0/\0=0/\0=0/\0=0/\0=0/\0=0/\EH a.a.id/\EH a.a.ver/\Jj/\True)/\True
def XB(a:gX)(b:dI)(c:pW):Prop:=bK a.a.r.os=bK a.a.r.os/\bK b.os=bK b.os/\aeF c/\NR/\gq a/\(0=0/\0=0/\0=0/\0=0/\0=0/\0=0/\0=0/\0=0/\EH a.a.id/\EH a.a.ver/\(0=0/\a.a.n=a.a.n)/\True)/\True
def NT(a:gX)(b:gX):Prop:=((4:Int)=4/\a.key=b.key/\a.v=b.v/\false=false/\a.old.key=b.old.key/\a.old.id=b.old.id/\a.old.ver=b.old.ver/\a.old.line=b.old.line/\a.old.cls=b.old.cls/\(a.k:Int)=(b.k:Int)/\a.c=b.c/\True)/\True
def yg(a:fD):Prop:=a.t=a.t/\ ∀q:Nat,q<a.t->[Value.int .i64 (a.o q)]=[Value.int .i64 (a.o q)]
def NU:Prop:=1=1/\ ∀q:Nat,q<1->Cs.eff (fun(FM:Nat)=>[]) [(0,List.take 1 [Value.bool false])] q=Cs.eff (fun(FM:Nat)=>[]) [(0,List.take 1 [Value.bool false])] q
def NV:Prop:=1=1/\ ∀q:Nat,q<1->Cs.eff (fun(x_9:Nat)=>[]) [(0,List.take 1 [Value.bool false])] q=Cs.eff (fun(x_9:Nat)=>[]) [(0,List.take 1 [Value.bool false])] q
def aeG(a:dN)(b:Nat):Prop:=[Value.int .u8 (a.enc b)]=[Value.int .u8 (a.enc b)]
def NW(a:dN):Prop:=64*a.dJ=64*a.dJ/\ ∀q:Nat,q<64*a.dJ->aeG a q
def NY(a:pW)(b:Nat):Prop:=0=0/\(a.k:Int)=(b:Int)/\(a.a:Int)=0/\(a.b.q=0/\a.b.n=64)/\True
def NZ(a:dN):Prop:=64=64/\ ∀q:Nat,q<64->aeG a q
def aeH(a:gX)(b:gX):Prop:=(True/\0=0/\True/\True/\0=0/\0=0/\True/\0=0/\True/\True/\True/\True)/\bK a.a.p.os=bK b.a.p.os/\bK a.a.b.os=bK b.a.b.os/\rD/\bK a.a.l.os=bK b.a.l.os/\NT a b
def N7(a:Nat):Prop:=AV.lit (Value.int .i64 (a:Int))=AV.lit (Value.int .i64 (a:Int))/\True
def N8(a:gX)(b:Nat)(c:Zg):Prop:=bK (fD.os (a.a.c.notes a.t (a.k:Int) b) 0)=bK (fD.os (c.c.note c.t c.l) 0)
def N9(a:Bys)(b:dN):Prop:= ∀q:Nat,q<a.N->[Value.int .u8 (a.g q)]=[Value.int .u8 (b.enc q)]
def Oa(a:pW):Prop:=Hd (a.d.ok/\a.k<a.d.n/\a.b.ok/\a.a+a.b.n<=64)
def aeI(a:dN)(b:gX):Prop:=(a.cls=b.c/\a.kind=2/\a.id=IntKind.wrap .u64 (b.a.id+1)/\a.ver=IntKind.wrap .u64 (b.a.ver+1)/\a.epoch=b.e/\a.key=ByteArray.mk #[]/\a.value=b.v/\True)/\True
def Ob(a:Zg)(b:gX)(c:Nat):Prop:=0=0/\(a.t:Int)=(b.t:Int)/\a.l=(b.k:Int)+(c:Int)/\True
def Oc(a:fD)(b:gX)(c:Nat):Prop:=bK (a.os 0)=bK (fD.os (b.a.c.notes b.t (b.k:Int) c) 0)/\True
def yh(a:ZLn):Prop:=bK a.os=bK a.os
def Oe(a:gX)(b:Nat)(c:fD):Prop:=bK (fD.os (a.a.c.notes a.t (a.k:Int) b) 0)=bK (c.os 0)
def aeJ(a:gX)(b:gX):Prop:=(True/\True/\True/\True/\True/\True/\True/\True/\a.a.id=b.a.id/\a.a.ver=b.a.ver/\True/\True)/\NT a b
def yj(a:iV):Prop:=bK a.os=bK a.os
def EI:Prop:=0=0/\1=1/\1=1
def Og:Prop:=(0:Int)<=0/\(0:Int)<=0
def amV(x:gX):Prop:=
 ∃x_1:fD,Hd x_1.ok/\(0=0/\True)/\(bK (x_1.os 0)=bK (x.a.c.os 0)/\True)/\ ∀y:Unit,True->cP (decide ((x.t:Int)>=(x_1.t:Int))) (∃y_1:Unit,True/\False) (∃x_2:gX,Hd True/\(EI/\True)/\NT x_2 x/\ ∀y_1:Unit,True-> ∃x_3:fD,Hd x_3.ok/\(0=0/\True)/\(bK (x_3.os 0)=bK (x_1.os 0)/\True)/\ ∀y_2:Unit,True->cP (bne x_3.now x.e) (∃y_3:Unit,True/\False) (Og/\I64 (1:Int)/\ ∃x_4:gX,Hd (x_4.okE/\ ∃i:Nat,∃j:Nat,x_4.inP i j)/\(0=0/\EI/\True)/\aeH x_4 x/\ ∀y_3:Unit,True-> ∃x_5:gX,Hd x_5.okE/\(0=0/\EI/\x_5.e=x.e/\True)/\aeJ x_5 x/\ ∀y_4:Unit,True->Og/\1002<=281474976710656/\(AV.lit (Value.string x.v)=AV.lit (Value.string x.v)/\True)/\True/\ ∃x_6:dN,Hd (x_6.may/\x_6.key.size<1099511627776/\x_6.value.size<1099511627776)/\aeI x_6 x/\True/\(∀y_5:Unit,Hd (x_6.cls=0)->(0:Int)<=64/\(0<=64/\64<=64/\64<=64)/\N7 x.k/\ ∃x_7:pW,Oa x_7/\NY x_7 x.k/\(bK x_7.d.os=bK x.a.d.os/\(x_7.b.N=64/\N9 x_7.b x_6)/\True)/\ ∀y_6:Unit,True->True/\ ∃x_8:Int,True/\(x_8=x.c/\True)/\True/\ ∀y_7:Unit,True->(∃s:Nat,Hd (s<=x.blk.dJ)/\True/\((s:Int)=0/\True)/\NZ x_6/\mP x/\mP x/\mP x/\gq x/\gq x/\gq x/\NV/\(false=false/\True)/\gq x/\gq x/\gq x/\gq x/\yg x_1/\yh x_4.a.l/\uf/\rD/\yj x_4.a.b/\Oe x s x_3/\XA x x_4.a.p x_7)/\(∀s:Nat,Hd (s<=x.blk.dJ)->cP (decide ((s:Int)<spn x_8)) (I64 ((x.k:Int)+(s:Int))/\ ∃x_9:Zg,Hd (x_9.c.ok/\x_9.t<x_9.c.t)/\Ob x_9 x s/\Oc x_9.c x s/\ ∀y_8:Unit,True->True/\I64 ((s:Int)+1)/\ ∃s_1:Nat,Hd (s_1<=x.blk.dJ)/\
 x.blk.dJ-s_1<x.blk.dJ-s/\((s_1:Int)=(s:Int)+1/\True)/\NZ x_6/\mP x/\mP x/\mP x/\gq x/\gq x/\gq x/\NU/\(false=false/\True)/\gq x/\gq x/\gq x/\gq x/\yg x_1/\yh x_4.a.l/\uf/\rD/\yj x_4.a.b/\N8 x s_1 x_9/\XA x x_4.a.p x_7) (amU x x_4.a x_7 s))/\True)/\ ∀y_5:Unit,Hd (x_6.cls≠(0:Int))->(0:Int)<=64/\(0<=64/\64<=64*x_6.dJ/\64*x_6.dJ<=64*x_6.dJ)/\N7 x.k/\ ∃x_7:pW,Oa x_7/\NY x_7 x.k/\(bK x_7.d.os=bK x.a.d.os/\(x_7.b.N=64*x_6.dJ/\N9 x_7.b x_6)/\True)/\ ∀y_6:Unit,True->True/\ ∃x_8:Int,True/\(x_8=x.c/\True)/\True/\ ∀y_7:Unit,True->(∃s:Nat,Hd (s<=x.blk.dJ)/\True/\((s:Int)=0/\True)/\NW x_6/\mP x/\mP x/\mP x/\gq x/\gq x/\gq x/\NV/\(false=false/\True)/\gq x/\gq x/\gq x/\gq x/\yg x_1/\yh x_4.a.l/\uf/\rD/\yj x_4.a.b/\Oe x s x_3/\XA x x_4.a.p x_7)/\(∀s:Nat,Hd (s<=x.blk.dJ)->cP (decide ((s:Int)<spn x_8)) (I64 ((x.k:Int)+(s:Int))/\ ∃x_9:Zg,Hd (x_9.c.ok/\x_9.t<x_9.c.t)/\Ob x_9 x s/\Oc x_9.c x s/\ ∀y_8:Unit,True->True/\I64 ((s:Int)+1)/\ ∃s_1:Nat,Hd (s_1<=x.blk.dJ)/\x.blk.dJ-s_1<x.blk.dJ-s/\((s_1:Int)=(s:Int)+1/\True)/\NW x_6/\mP x/\mP x/\mP x/\gq x/\gq x/\gq x/\NU/\(false=false/\True)/\gq x/\gq x/\gq x/\gq x/\yg x_1/\yh x_4.a.l/\uf/\rD/\yj x_4.a.b/\N8 x s_1 x_9/\XA x x_4.a.p x_7) (amU x x_4.a x_7 s))/\True))
theorem amW(x:gX):amV x=wpF Tryz.prog auL tt (aqP x) 200 6 162 ((Bo true).args x) (hO 11 (dO 2 ((Bo true).l x))) (fun v h'=>dA 2 x v h' (Bo true).outs):=by kernel_rfl
def amX(x:gX):Prop:=
 ∃x_1:fD,Hd x_1.ok/\(0=0/\True)/\(bK (x_1.os 0)=bK (x.a.c.os 0)/\True)/\ ∀y:Unit,True->cP (decide ((x.t:Int)>=(x_1.t:Int))) (∃y_1:Unit,True/\False) (∃x_2:gX,Hd True/\(EI/\True)/\NT x_2 x/\ ∀y_1:Unit,True-> ∃x_3:fD,Hd x_3.ok/\(0=0/\True)/\(bK (x_3.os 0)=bK (x_1.os 0)/\True)/\ ∀y_2:Unit,True->cP (bne x_3.now x.e) (∃y_3:Unit,True/\False) (Og/\I64 (1:Int)/\ ∃x_4:gX,Hd (x_4.okE/\ ∃i:Nat,∃j:Nat,x_4.inP i j)/\(0=0/\EI/\True)/\aeH x_4 x/\ ∀y_3:Unit,True-> ∃x_5:gX,Hd x_5.okE/\(0=0/\EI/\x_5.e=x.e/\True)/\aeJ x_5 x/\ ∀y_4:Unit,True->Og/\1002<=281474976710656/\(AV.lit (Value.string x.v)=AV.lit (Value.string x.v)/\True)/\True/\ ∃x_6:dN,Hd (x_6.may/\x_6.key.size<1099511627776/\x_6.value.size<1099511627776)/\aeI x_6 x/\True/\(∀y_5:Unit,Hd (x_6.cls=0)->(0:Int)<=64/\(0<=64/\64<=64/\64<=64)/\N7 x.k/\ ∃x_7:pW,Oa x_7/\NY x_7 x.k/\(bK x_7.d.os=bK x.a.d.os/\(x_7.b.N=64/\N9 x_7.b x_6)/\True)/\ ∀y_6:Unit,True->True/\ ∃x_8:Int,True/\(x_8=x.c/\True)/\True/\ ∀y_7:Unit,True->(∃s:Nat,Hd (s<=x.blk.dJ)/\True/\((s:Int)=0/\True)/\NZ x_6/\mP x/\mP x/\mP x/\gq x/\gq x/\gq x/\NV/\(false=false/\True)/\gq x/\gq x/\gq x/\gq x/\yg x_1/\Xz x.a/\yh x_4.a.l/\uf/\rD/\yj x_4.a.b/\Oe x s x_3/\XB x x_4.a.p x_7)/\(∀s:Nat,Hd (s<=x.blk.dJ)->cP (decide ((s:Int)<spn x_8)) (I64 ((x.k:Int)+(s:Int))/\ ∃x_9:Zg,Hd (x_9.c.ok/\x_9.t<x_9.c.t)/\Ob x_9 x s/\Oc x_9.c x s/\ ∀y_8:Unit,True->True/\I64 ((s:Int)+1)/\
 ∃s_1:Nat,Hd (s_1<=x.blk.dJ)/\x.blk.dJ-s_1<x.blk.dJ-s/\((s_1:Int)=(s:Int)+1/\True)/\NZ x_6/\mP x/\mP x/\mP x/\gq x/\gq x/\gq x/\NU/\(false=false/\True)/\gq x/\gq x/\gq x/\gq x/\yg x_1/\Xz x.a/\yh x_4.a.l/\uf/\rD/\yj x_4.a.b/\N8 x s_1 x_9/\XB x x_4.a.p x_7) (amT x x_4.a x_7 s))/\True)/\ ∀y_5:Unit,Hd (x_6.cls≠(0:Int))->(0:Int)<=64/\(0<=64/\64<=64*x_6.dJ/\64*x_6.dJ<=64*x_6.dJ)/\N7 x.k/\ ∃x_7:pW,Oa x_7/\NY x_7 x.k/\(bK x_7.d.os=bK x.a.d.os/\(x_7.b.N=64*x_6.dJ/\N9 x_7.b x_6)/\True)/\ ∀y_6:Unit,True->True/\ ∃x_8:Int,True/\(x_8=x.c/\True)/\True/\ ∀y_7:Unit,True->(∃s:Nat,Hd (s<=x.blk.dJ)/\True/\((s:Int)=0/\True)/\NW x_6/\mP x/\mP x/\mP x/\gq x/\gq x/\gq x/\NV/\(false=false/\True)/\gq x/\gq x/\gq x/\gq x/\yg x_1/\Xz x.a/\yh x_4.a.l/\uf/\rD/\yj x_4.a.b/\Oe x s x_3/\XB x x_4.a.p x_7)/\(∀s:Nat,Hd (s<=x.blk.dJ)->cP (decide ((s:Int)<spn x_8)) (I64 ((x.k:Int)+(s:Int))/\ ∃x_9:Zg,Hd (x_9.c.ok/\x_9.t<x_9.c.t)/\Ob x_9 x s/\Oc x_9.c x s/\ ∀y_8:Unit,True->True/\I64 ((s:Int)+1)/\ ∃s_1:Nat,Hd (s_1<=x.blk.dJ)/\x.blk.dJ-s_1<x.blk.dJ-s/\((s_1:Int)=(s:Int)+1/\True)/\NW x_6/\mP x/\mP x/\mP x/\gq x/\gq x/\gq x/\NU/\(false=false/\True)/\gq x/\gq x/\gq x/\gq x/\yg x_1/\Xz x.a/\yh x_4.a.l/\uf/\rD/\yj x_4.a.b/\N8 x s_1 x_9/\XB x x_4.a.p x_7) (amT x x_4.a x_7 s))/\True))
theorem amY(x:gX):amX x=wpF Tryz.prog auL tt (aqP x) 200 6 162 ((Bo false).args x) (hO 12 (dO 2 ((Bo false).l x))) (fun v h'=>dA 2 x v h' (Bo false).outs):=by kernel_rfl
theorem qL(c:fD)(t:Nat)(l:Int): ∀i,(c.notes t l i).t=c.t
 |0=>rfl
 |i+1=>qL c t l i
theorem rE(c:fD)(t:Nat)(l:Int): ∀i,(c.notes t l i).now=c.now
 |0=>rfl
 |i+1=>rE c t l i
theorem Q9(c:fD)(t:Nat)(l:Int)(hc: ∀k,0<=c.o k): ∀i k,0<=(c.notes t l i).o k/\(c.notes t l i).o k<=c.o k+i
 |0,k=>⟨hc k,by show c.o k<=c.o k+((0:Nat):Int);omega⟩
 |i+1,k=>by
  have ih:=Q9 c t l hc i k
  show 0<=(if k=t/\0<=l+i/\l+i<258 then(c.notes t l i).o k+1 else(c.notes t l i).o k)/\(if k=t/\0<=l+i/\l+i<258 then(c.notes t l i).o k+1 else(c.notes t l i).o k)<=_
  split<;>omega
theorem xO{c:fD}(h:c.ok)(hc: ∀k,c.o k+8<1099511627776)(t:Nat)(l:Int){i:Nat}(hi:i<=8):(c.notes t l i).ok:=by
 have hd: ∀i,(c.notes t l i).dur=c.dur/\(c.notes t l i).jU=c.jU:=fun i=>by
  induction i with
  |zero=>exact⟨rfl,rfl⟩
  |succ i ih=>exact ih
 refine⟨by rw[qL];exact h.1,by rw[qL];exact h.2.1,by rw[rE];exact h.2.2.1,by rw[(hd i).1];exact h.2.2.2.1,by rw[(hd i).2];exact h.2.2.2.2.1,fun k=> ?_⟩
 have h1:=Q9 c t l (fun k=>(h.2.2.2.2.2 k).1) i k
 have h2:=hc k
 exact⟨h1.1,by omega⟩
theorem kU(b:dN):b.dJ<=8/\(b.dJ:Int)=spn b.cls:=by
 have:=dX b.cls
 unfold dN.dJ
 omega
theorem dM.ext5{a b:dM}(h1:a.key=b.key)(h2:a.id=b.id)(h3:a.ver=b.ver)(h4:a.line=b.line)(h5:a.cls=b.cls):a=b:=by
 cases a;cases b;simp_all
theorem XC(d:dS)(k a n:Nat)(g:Nat->Int):d.store k a n (fun q=>g (0+q))=d.store k a n g:=by
 simp only[ay]
theorem qA{b:dN}(h:b.may):1<=b.dJ:=by
 have:=dX b.cls
 have h0:=h.1
 unfold dN.dJ
 omega
theorem abB(x:gX)(hx:x.okE/\(∃i j,x.inP i j)/\(∀k,x.a.c.o k+8<1099511627776)/\x.a.n=0):amV x:=by
 obtain⟨hE,hi,hc,hn⟩:=hx
 obtain⟨⟨o1,o2,o3,o4,o5,o6,o7,o8,o9,o10,o11⟩,e1,e2,e3,e4,e5,e6,e7,e8⟩:=id hE
 have w1:IntKind.u64.wrap (x.a.ver+1)=x.a.ver+1:=jZ (by omega) (by omega)
 have w2:IntKind.u64.wrap (x.a.id+1)=x.a.id+1:=jZ (by omega) (by omega)
 have hs8:=kU x.blk
 have hsc:(x.blk.dJ:Int)=spn x.c:=hs8.2
 have st: ∀N,(⟨x.a.d,x.k,0,⟨x.blk.enc,0,64,N⟩⟩:pW).d.store x.k 0 64 (fun q=>x.blk.enc (0+q))=x.a.d.store x.k 0 64 x.blk.enc:=fun _=>XC _ _ _ _ _
 unfold amV
 simp only[EI,NT,Og,aeH,aeJ,aeI,N7,Oa,NY,N9,NZ,mP,gq,NV,yg,yh,uf,rD,yj,Oe,XA,Ob,Oc,NU,N8,amU,NW,aeG,aeD,NS,aeA,NR,aeE,aeB,aeC,aeF,EH,Jj]
 simp only[aY,aU,aT,ay,aH,bP,bC,aN,aJ,au,aW,aV,bQ,bF,bG,bH,bT,bf,bJ,aZ,dZ,aG,aK,ah,aj,aA,aC,aB,aF]
 refine⟨x.a.c,o2,rfl,bg (fun h=>absurd (aQ h) (by omega)) fun _=>⟨x,⟨rfl,rfl,rfl,rfl,rfl,rfl,rfl,rfl,rfl⟩,x.a.c,o2,rfl,bg (fun h=>absurd e4 (bne_iff_ne.1 h)) fun _=>⟨by decide,by unfold I64;omega,x,⟨hE,hi⟩,⟨rfl,rfl,rfl,rfl,rfl,rfl,rfl,rfl,rfl,rfl,rfl,rfl⟩,x,hE,rfl,⟨⟨rfl,rfl⟩,rfl,rfl,rfl,rfl,rfl,rfl,rfl,rfl,rfl⟩,by decide,by decide,x.blk,⟨o6,show 0<1099511627776 by decide,o7⟩,⟨rfl,rfl,w2.symm,w1.symm,rfl,rfl,rfl⟩,fun h0=> ?_,fun h0=> ?_⟩⟩⟩
 ·refine⟨by decide,⟨by decide,by decide⟩,⟨x.a.d,x.k,0,⟨x.blk.enc,0,64,64⟩⟩,⟨o1,o5,⟨aX _,show 64<1099511627776 by decide,vI o6⟩,aX _⟩,⟨rfl,rfl,rfl,rfl⟩,⟨rfl,rfl,fun _ _=>rfl⟩,⟨0,Nat.zero_le _,rfl,rfl⟩,fun s hs=>bg (fun h=> ?_) fun h=> ?_⟩
  ·have h:=aQ h
   exact⟨by unfold I64;omega,⟨x.a.c.notes x.t x.k s,x.t,x.k+s⟩,⟨xO o2 hc _ _ (by omega),by show x.t<(x.a.c.notes x.t x.k s).t;rw[qL];exact o4⟩,⟨rfl,rfl⟩,rfl,by unfold I64;omega,s+1,by omega,by omega,by omega,rfl⟩
  ·have h:=aS h
   have hse:s=x.blk.dJ:=by omega
   subst hse
   rw[w1,w2]
   refine⟨by unfold I64;omega,⟨x.a.l,⟨⟨#[]⟩,x.a.id+1,x.a.ver+1,x.k,x.c⟩⟩,o3,⟨rfl,rfl,rfl,rfl,rfl⟩,rfl,by decide,by unfold I64;omega,⟨rfl,rfl,by omega⟩,fun q hq=>by obtain rfl:q=0:=(by omega);rfl,(st _).symm▸rfl,rfl,rfl,rfl,rfl,by rw[hn];rfl,fun q hq=>by obtain rfl:q=0:=(by omega);rw[hn];rfl⟩
 ·refine⟨by decide,⟨by decide,by have:=qA o6;omega⟩,⟨x.a.d,x.k,0,⟨x.blk.enc,0,64,64*x.blk.dJ⟩⟩,⟨o1,o5,⟨by have:=qA o6;show 0+64<=64*x.blk.dJ;omega,show 64<1099511627776 by decide,vI o6⟩,aX _⟩,⟨rfl,rfl,rfl,rfl⟩,⟨rfl,rfl,fun _ _=>rfl⟩,⟨0,Nat.zero_le _,rfl,rfl⟩,fun s hs=>bg (fun h=> ?_) fun h=> ?_⟩
  ·have h:=aQ h
   exact⟨by unfold I64;omega,⟨x.a.c.notes x.t x.k s,x.t,x.k+s⟩,⟨xO o2 hc _ _ (by omega),by show x.t<(x.a.c.notes x.t x.k s).t;rw[qL];exact o4⟩,⟨rfl,rfl⟩,rfl,by unfold I64;omega,s+1,by omega,by omega,by omega,rfl⟩
  ·have h:=aS h
   have hse:s=x.blk.dJ:=by omega
   subst hse
   rw[w1,w2]
   refine⟨by unfold I64;omega,⟨x.a.l,⟨⟨#[]⟩,x.a.id+1,x.a.ver+1,x.k,x.c⟩⟩,o3,⟨rfl,rfl,rfl,rfl,rfl⟩,rfl,by decide,by unfold I64;omega,⟨rfl,rfl,by omega⟩,fun q hq=>by obtain rfl:q=0:=(by omega);rfl,(st _).symm▸rfl,rfl,rfl,rfl,rfl,by rw[hn];rfl,fun q hq=>by obtain rfl:q=0:=(by omega);rw[hn];rfl⟩
theorem abC(x:gX)(hx:x.okE/\(∃i j,x.inP i j)/\(∀k,x.a.c.o k+8<1099511627776)):amX x:=by
 obtain⟨hE,hi,hc⟩:=hx
 obtain⟨⟨o1,o2,o3,o4,o5,o6,o7,o8,o9,o10,o11⟩,e1,e2,e3,e4,e5,e6,e7,e8⟩:=id hE
 have w1:IntKind.u64.wrap (x.a.ver+1)=x.a.ver+1:=jZ (by omega) (by omega)
 have w2:IntKind.u64.wrap (x.a.id+1)=x.a.id+1:=jZ (by omega) (by omega)
 have hs8:=kU x.blk
 have hsc:(x.blk.dJ:Int)=spn x.c:=hs8.2
 have st: ∀N,(⟨x.a.d,x.k,0,⟨x.blk.enc,0,64,N⟩⟩:pW).d.store x.k 0 64 (fun q=>x.blk.enc (0+q))=x.a.d.store x.k 0 64 x.blk.enc:=fun _=>XC _ _ _ _ _
 unfold amX
 simp only[EI,NT,Og,aeH,aeJ,aeI,N7,Oa,NY,N9,NZ,mP,gq,NV,yg,Xz,yh,uf,rD,yj,Oe,XB,Ob,Oc,NU,N8,amT,NW,aeG,aeD,NS,aeA,NR,aeE,aeB,aeC,aeF,EH,Jj]
 simp only[aY,aU,aT,ay,aH,bP,bC,aN,aJ,au,aW,aV,bQ,bF,bG,bH,bT,bf,bJ,aZ,dZ,aG,aK,ah,aj,aA,aC,aB,aF]
 refine⟨x.a.c,o2,rfl,bg (fun h=>absurd (aQ h) (by omega)) fun _=>⟨x,⟨rfl,rfl,rfl,rfl,rfl,rfl,rfl,rfl,rfl⟩,x.a.c,o2,rfl,bg (fun h=>absurd e4 (bne_iff_ne.1 h)) fun _=>⟨by decide,by unfold I64;omega,x,⟨hE,hi⟩,⟨rfl,rfl,rfl,rfl,rfl,rfl,rfl,rfl,rfl,rfl,rfl,rfl⟩,x,hE,rfl,⟨⟨rfl,rfl⟩,rfl,rfl,rfl,rfl,rfl,rfl,rfl,rfl,rfl⟩,by decide,by decide,x.blk,⟨o6,show 0<1099511627776 by decide,o7⟩,⟨rfl,rfl,w2.symm,w1.symm,rfl,rfl,rfl⟩,fun h0=> ?_,fun h0=> ?_⟩⟩⟩
 ·refine⟨by decide,⟨by decide,by decide⟩,⟨x.a.d,x.k,0,⟨x.blk.enc,0,64,64⟩⟩,⟨o1,o5,⟨aX _,show 64<1099511627776 by decide,vI o6⟩,aX _⟩,⟨rfl,rfl,rfl,rfl⟩,⟨rfl,rfl,fun _ _=>rfl⟩,⟨0,Nat.zero_le _,rfl,rfl⟩,fun s hs=>bg (fun h=> ?_) fun h=> ?_⟩
  ·have h:=aQ h
   exact⟨by unfold I64;omega,⟨x.a.c.notes x.t x.k s,x.t,x.k+s⟩,⟨xO o2 hc _ _ (by omega),by show x.t<(x.a.c.notes x.t x.k s).t;rw[qL];exact o4⟩,⟨rfl,rfl⟩,rfl,by unfold I64;omega,s+1,by omega,by omega,by omega,rfl⟩
  ·have h:=aS h
   have hse:s=x.blk.dJ:=by omega
   subst hse
   rw[w1,w2]
   refine⟨by unfold I64;omega,⟨x.a.l,⟨⟨#[]⟩,x.a.id+1,x.a.ver+1,x.k,x.c⟩⟩,o3,⟨rfl,rfl,rfl,rfl,rfl⟩,rfl,by rfl,by omega,by unfold I64;omega,⟨rfl,rfl⟩,fun q hq=>by obtain rfl:q=0:=(by omega);rfl,(st _).symm▸rfl,rfl,rfl,rfl,rfl,rfl,fun q _=> ?_⟩
   by_cases hq:q=x.a.n
   ·rw[hq,if_pos rfl];show _=bif Nat.beq x.a.n x.a.n then _ else _;rw[Nat.beq_refl];rfl
   ·rw[if_neg hq];show _=bif Nat.beq q x.a.n then _ else _;rw[dQ,decide_eq_false hq];rfl
 ·refine⟨by decide,⟨by decide,by have:=qA o6;omega⟩,⟨x.a.d,x.k,0,⟨x.blk.enc,0,64,64*x.blk.dJ⟩⟩,⟨o1,o5,⟨by have:=qA o6;show 0+64<=64*x.blk.dJ;omega,show 64<1099511627776 by decide,vI o6⟩,aX _⟩,⟨rfl,rfl,rfl,rfl⟩,⟨rfl,rfl,fun _ _=>rfl⟩,⟨0,Nat.zero_le _,rfl,rfl⟩,fun s hs=>bg (fun h=> ?_) fun h=> ?_⟩
  ·have h:=aQ h
   exact⟨by unfold I64;omega,⟨x.a.c.notes x.t x.k s,x.t,x.k+s⟩,⟨xO o2 hc _ _ (by omega),by show x.t<(x.a.c.notes x.t x.k s).t;rw[qL];exact o4⟩,⟨rfl,rfl⟩,rfl,by unfold I64;omega,s+1,by omega,by omega,by omega,rfl⟩
  ·have h:=aS h
   have hse:s=x.blk.dJ:=by omega
   subst hse
   rw[w1,w2]
   refine⟨by unfold I64;omega,⟨x.a.l,⟨⟨#[]⟩,x.a.id+1,x.a.ver+1,x.k,x.c⟩⟩,o3,⟨rfl,rfl,rfl,rfl,rfl⟩,rfl,by rfl,by omega,by unfold I64;omega,⟨rfl,rfl⟩,fun q hq=>by obtain rfl:q=0:=(by omega);rfl,(st _).symm▸rfl,rfl,rfl,rfl,rfl,rfl,fun q _=> ?_⟩
   by_cases hq:q=x.a.n
   ·rw[hq,if_pos rfl];show _=bif Nat.beq x.a.n x.a.n then _ else _;rw[Nat.beq_refl];rfl
   ·rw[if_neg hq];show _=bif Nat.beq q x.a.n then _ else _;rw[dQ,decide_eq_false hq];rfl
noncomputable def enqC(z:Bool):jR:=nG gX (Bo z).args 2 (Bo z).l (fun x=>Hd (x.okE/\(∃i j,x.inP i j)/\(∀k,x.a.c.o k+8<1099511627776)/\(z=true->x.a.n=0))) (fun _=> .tup [.slW 2 0 1 1,i64 0]) 3 (fun x=>[.m x.enq.osP,.o (x.lst 4),.o (.room 4 (.row 1 1 (fun _=>[.bool false]) []))])
theorem aeK:fJ Tryz.prog auL:= .append fC (.cons (bU mX) (.cons (bU ame) (.cons (bU IE) (.cons (bU ad3) (.cons (bU aa1) (.cons (bU Xu) (.cons (bU auH) (.cons (bU auJ) (.cons (bU Gu) (.cons (bU AU) .nil))))))))))
theorem auM:bZ Tryz.prog 162 (enqC true).ctr:=dK dB mixed aeK 11 aqP 200 6 (fun _=>⟨rfl,rfl,rfl,rfl⟩) fun x hx=>Eq.mp (amW x) (abB x (by have h:=aY.1 hx;exact⟨h.1,h.2.1,h.2.2.1,h.2.2.2 rfl⟩))
theorem auN:bZ Tryz.prog 162 (enqC false).ctr:=dK dB mixed aeK 12 aqP 200 6 (fun _=>⟨rfl,rfl,rfl,rfl⟩) fun x hx=>Eq.mp (amY x) (abC x (by have h:=aY.1 hx;exact⟨h.1,h.2.1,h.2.2.1⟩))
theorem Le(x:gX):Ji x:=by
 unfold Ji
 simp only[Bq,Q8]
 simp only[aY,aU,aT,ay,aH,bP,bC,aN,aJ,au,aW,aV,bQ,bF,bG,bH,bT,bf,bJ,aZ,dZ,aG,aK,ah,aj,aA,aC,aB,aF,I64]
 omega
theorem XD(x:gX)(hx:x.okD/\0<=x.a.id/\x.a.id<1152921504606846976):abz x:=by
 obtain⟨⟨o1,o2,o3,o4,o5,o6,o7,o8,o9,o10,o11,o12,o13,o14,o15,o16,o17,o18,o19,o20,o21⟩,h1,h2⟩:=hx
 unfold abz
 simp only[Bq,ah7,Q8]
 simp only[aY,aU,aT,ay,aH,bP,bC,aN,aJ,au,aW,aV,bQ,bF,bG,bH,bT,bf,bJ,aZ,dZ,aG,aK,ah,aj,aA,aC,aB,aF]
 have w1:IntKind.u64.wrap (x.a.ver+1)=x.a.ver+1:=jZ (by omega) (by omega)
 have hq:dN.may ⟨0,3,1,1,x.e,⟨#[]⟩,⟨#[]⟩⟩:=by
  obtain⟨a,b⟩:=o6
  refine⟨a,?_⟩
  rcases b with ⟨b,_⟩|⟨b,_⟩|⟨b,_⟩|⟨_,b1,b2,_,_,b4⟩
  ·exact absurd (show(3:Int)=0 from b) (by decide)
  ·exact absurd (show(3:Int)=1 from b) (by decide)
  ·exact absurd (show(3:Int)=2 from b) (by decide)
  ·exact .inr (.inr (.inr ⟨rfl,b1,b2,⟨show(1:Int)<=1 by decide,show(1:Int)<=2305843009213693952 by decide⟩,⟨show(1:Int)<=1 by decide,show(1:Int)<=2305843009213693952 by decide⟩,b4⟩))
 rw[w1]
 refine⟨by decide,⟨0,3,1,1,x.e,⟨#[]⟩,⟨#[]⟩⟩,⟨by show 0<1099511627776;decide,by show 0<1099511627776;decide⟩,⟨rfl,rfl,rfl,rfl,rfl,rfl,rfl⟩,?_⟩
 rw[Bg.2 hq,Bool.not_true,jJ,o18,bne_self_eq_false,jJ]
 exact bg (fun h=>absurd (aQ h) (by omega)) fun _=>⟨by unfold I64;omega,bg (fun h=>absurd (aQ h) (by omega)) fun _=>trivial⟩
theorem XE(x:gX)(hx:x.okD/\ ∃i j,x.inP i j):abA x:=by
 obtain⟨⟨o1,o2,o3,o4,o5,o6,o7,o8,o9,o10,o11,o12,o13,o14,o15,o16,o17,o18,o19,o20,o21⟩,i,j,h1,h2,h3,h4,h5,h6⟩:=hx
 unfold abA
 simp only[Bq,Xw,Jh,Q8,aez,amQ]
 simp only[aY,aU,aT,ay,aH,bP,bC,aN,aJ,au,aW,aV,bQ,bF,bG,bH,bT,bf,bJ,aZ,dZ,aG,aK,ah,aj,aA,aC,aB,aF]
 refine⟨by decide,⟨x.a.p,i,j⟩,⟨o10,h1,h2,h3,h4⟩,h5.symm,rfl,?_⟩
 refine bg (fun h=>absurd h6 (bne_iff_ne.1 h)) fun _=>⟨⟨x.a.b,x.a.l,x.k⟩,⟨o11,o3,o13⟩,rfl,⟨rfl,rfl⟩,fun h=>absurd h (not_or.2 ⟨o20,o21⟩),fun _=>⟨by unfold I64;omega,rfl,rfl,rfl⟩⟩
theorem abD(x:gX)(hx:x.okD/\(∃i j,x.inP i j)/\0<=x.a.id/\x.a.id<1152921504606846976):amR x:=by
 obtain⟨hD,hi,i1,i2⟩:=hx
 obtain⟨o1,o2,o3,o4,o5,o6,o7,o8,o9,o10,o11,o12,o13,o14,o15,o16,o17,o18,o19,o20,o21⟩:=id hD
 have w1:IntKind.u64.wrap (x.a.ver+1)=x.a.ver+1:=jZ (by omega) (by omega)
 have st: ∀N,(⟨x.a.d,x.k,0,⟨x.aqR.enc,0,64,N⟩⟩:pW).d.store x.k 0 64 (fun q=>x.aqR.enc (0+q))=x.a.d.store x.k 0 64 x.aqR.enc:=fun _=>XC _ _ _ _ _
 unfold amR
 simp only[aey,Bq,Xw,Jh,Q8,Xx,aez]
 simp only[aY,aU,aT,ay,aH,bP,bC,aN,aJ,au,aW,aV,bQ,bF,bG,bH,bT,bf,bJ,aZ,dZ,aG,aK,ah,aj,aA,aC,aB,aF]
 refine⟨x.a.c,o2,rfl,bg (fun h=>absurd (aQ h) (by omega)) fun _=>⟨x,⟨rfl,rfl,rfl,rfl,rfl,rfl,rfl,rfl,rfl⟩,x.a.c,o2,rfl,bg (fun h=>absurd o16 (bne_iff_ne.1 h)) fun _=>⟨by decide,x.a.l,o3,rfl,bg (fun _=> ?_) fun h=>absurd o14 (aS h)⟩⟩⟩
 rw[<-o15]
 simp only[beq_self_eq_true,Bool.and_self,Bool.not_true,jJ]
 refine⟨by unfold I64;omega,x,⟨hD,hi⟩,⟨rfl,rfl,rfl,rfl,rfl,rfl,rfl,rfl,rfl,rfl,rfl,rfl⟩,x,⟨hD,i1,i2⟩,rfl,⟨⟨rfl,rfl⟩,rfl,rfl,rfl,rfl,rfl,rfl,rfl,rfl,rfl⟩,by decide,by decide,x.aqR,⟨o6,show 0<1099511627776 by decide,show 0<1099511627776 by decide,rfl⟩,⟨rfl,rfl,rfl,w1.symm,rfl,rfl,rfl⟩,by decide,⟨by decide,by decide⟩,⟨x.a.d,x.k,0,⟨x.aqR.enc,0,64,64⟩⟩,⟨o1,o5,⟨aX _,show 64<1099511627776 by decide,vI o6⟩,aX _⟩,⟨rfl,rfl,rfl,rfl⟩,⟨rfl,rfl,fun _ _=>rfl⟩,by unfold I64;omega,⟨x.a.c,x.t,x.k+0⟩,⟨o2,o4⟩,⟨rfl,rfl⟩,rfl,by unfold I64;omega,?_⟩
 rw[w1]
 refine⟨by unfold I64;omega,x.a.l,o3,rfl,x.a.r,o12,rfl,⟨x.a.b,x.aby⟩,⟨o11,o19⟩,⟨rfl,rfl,rfl,rfl,rfl⟩,rfl,by rfl,by omega,by unfold I64;omega,rfl,fun q hq=>by obtain rfl:q=0:=(by omega);rfl,(st _).symm▸rfl,rfl,rfl,rfl,rfl,rfl,rfl,fun q _=> ?_⟩
 by_cases hq:q=x.a.n
 ·rw[hq,if_pos rfl];show _=bif Nat.beq x.a.n x.a.n then _ else _;rw[Nat.beq_refl];rfl
 ·rw[if_neg hq];show _=bif Nat.beq q x.a.n then _ else _;rw[dQ,decide_eq_false hq];rfl
theorem Oh:bZ Tryz.prog 205 qy:=dV dB mixed .nil noA 200 6 (fun _=>rfl) (fun _=>rfl) fun x _=>Eq.mp (Xy x) (Le x)
theorem aqS:bZ Tryz.prog 208 Jf:=dV dB mixed aex noA 200 6 (fun _=>rfl) (fun _=>rfl) fun x hx=>Eq.mp (ah8 x) (XD x (aY.1 hx))
theorem aqT:bZ Tryz.prog 207 Jg:=dV dB mixed aew noA 200 6 (fun _=>rfl) (fun _=>rfl) fun x hx=>Eq.mp (ah9 x) (XE x (aY.1 hx))
theorem aqU:fJ Tryz.prog aw3:= .append fC (.cons GL (.cons (bU auK) (.cons (bU IE) (.cons (bU ad3) (.cons (bU ahE) (.cons (bU sG) (.cons (bU alJ) (.cons (bU awN) (.cons (bU Oh) (.cons (bU aqT) (.cons (bU aqS) (.cons (bU Gu) (.cons (bU AU) .nil)))))))))))))
theorem aw4:bZ Tryz.prog 162 Xv.ctr:=dK dB mixed aqU 12 noA 200 6 (fun _=>⟨rfl,rfl,rfl,rfl⟩) fun x hx=>Eq.mp (amS x) (abD x (aY.1 hx))
theorem y5{a:dF}(h:a.n=0):a.os=a.osN:=by unfold dF.os;rw[h];rfl
theorem sH{a:dF}(h:a.n≠0):a.os=a.osP:=by unfold dF.os;rw[dQ,decide_eq_false h];rfl
structure ao3 (X:Type) where
 Y:Type
 post:X->Y->Prop
 ret:X->Y->AV
 a:X->Y->dF
 m:Nat
 ex:X->Y->List dw
structure xR where
 X:Type
 args:X->List AV
 a:X->dF
 k:Nat
 ex:X->List dw
 pre:X->Prop
 outs:List (ao3 X)
noncomputable def ao3.po{X:Type}(sh:dF->List dw)(o:ao3 X):akB X:={Y:=o.Y,post:=o.post,ret:=o.ret,m:=o.m,l:=fun x y=> .m (sh (o.a x y))::(o.ex x y).map PO.o}
noncomputable def xR.pc(C:xR)(sh:dF->List dw)(p:C.X->Prop):jR:={X:=C.X,args:=C.args,k:=C.k,l:=fun x=> .m (sh (C.a x))::(C.ex x).map PO.o,pre:=fun x=>C.pre x/\p x,outs:=C.outs.map (ao3.po sh)}
noncomputable def xR.N(C:xR):jR:=C.pc dF.osN (fun x=>(C.a x).n=0)
noncomputable def xR.P(C:xR):jR:=C.pc dF.osP (fun x=>(C.a x).n≠0)
noncomputable def xR.M(C:xR):jR:=C.pc dF.os (fun _=>True)
theorem abE{X:Type}{x:X}{v:AV}{h':Heap}{sh sh':dF->List dw}: ∀{l:List (ao3 X)},(∀o∈l,∀y,o.post x y->sh (o.a x y)=sh' (o.a x y))->pU x v h' ((l.map (ao3.po sh)).map akB.out)->pU x v h' ((l.map (ao3.po sh')).map akB.out)
 |[],_,h=>h
 |o::l,hl,h=>by
  simp only[List.map_cons]at h ⊢
  rw[jh]at h ⊢
  rcases h with ⟨y,h1,h2,h3⟩|h
  ·refine .inl ⟨y,h1,h2,?_⟩
   rw[h3]
   have:=hl o (by simp) y h1
   simp only[akB.out,ao3.po,this]
  ·exact .inr (abE (fun p hp=>hl p (List.mem_cons_of_mem _ hp)) h)
theorem glue{P:Program}{f:FuncId}{C:xR}(hn: ∀x,C.pre x-> ∀o∈C.outs,∀y,o.post x y->(o.a x y).n=(C.a x).n)(hN:bZ P f C.N.ctr)(hP:bZ P f C.P.ctr):bZ P f C.M.ctr:=qw fun x hx=>by
 by_cases hz:(C.a x).n=0
 ·refine⟨_,hN,rfl,x,⟨hx.1,hz⟩,rfl,?_,fun v h' hh=> ?_⟩
  ·simp only[xR.N,xR.M,xR.pc,jR.ctr,y5 hz]
  ·refine abE (sh:=dF.osN) (sh':=dF.os) (fun o ho y hy=> ?_) hh
   rw[y5];rw[hn x hx.1 o ho y hy];exact hz
 ·refine⟨_,hP,rfl,x,⟨hx.1,hz⟩,rfl,?_,fun v h' hh=> ?_⟩
  ·simp only[xR.P,xR.M,xR.pc,jR.ctr,sH hz]
  ·refine abE (sh:=dF.osP) (sh':=dF.os) (fun o ho y hy=> ?_) hh
   rw[sH];rw[hn x hx.1 o ho y hy];exact hz
theorem dH{P:Program}{T:WTr}{f:FuncId}(hT: ∀args h K,T args h K->Sp P f args h K){C:jR}(N:Nat)
  (hk: ∀x,(C.l x).length=C.k/\(dO C.k (C.l x)).length=N/\(C.l x).all (PO.good C.k)=true/\iQ C.k (C.args x)=true)
  (hq: ∀x,C.pre x->T (C.args x) (hO N (dO C.k (C.l x))) (fun v h'=>dA C.k x v h' C.outs)):bZ P f C.ctr:=fun x hp=>by
 obtain⟨h1,h2,h3,h4⟩:=hk x
 refine⟨by simp only[jR.ctr,List.length_map];exact h1,?_⟩
 have hs:=hT _ _ _ (hq x hp)
 rw[<-h2,<-h1]at hs
 refine⟨hs.1,fun ρ T w vs hR hl=> ?_⟩
 have hR0:Rel (hOf ((C.l x).map PO.ab)) ρ T w:=by rw[hOf,List.length_map,h1];exact hR
 obtain⟨ρ',r1,r2,r3⟩:=Rel.Qq (by rw[h1];exact h3) hR0
 refine(hs.2 ρ' T w vs r3 (eP.mono r2 _ _ hl)).mono ?_
 rintro e w' ⟨ρ2,v,u,h',c1,c2,c3,c4,c5,c6,c7⟩
 obtain⟨v0,h0,g1,g2⟩:=CY c7
 obtain⟨ρ3,q1,q2,q3⟩:=g1.2 ρ2 T w' u c3 c4
 refine⟨ρ3,v0,u,h0,fun j hj=> ?_,?_,q2,q3,c5,c6,g2⟩
 ·have hj':j<C.k:=hj
  have hle:C.k<=(dO C.k (C.l x)).length:=by unfold dO;rw[List.length_append,iP,h1];omega
  rw[q1 j (by rw[h1];exact hj'),c1 j (by show j<(dO _ _).length;rw[h1];omega),r1 j (by rw[h1];exact hj')]
 ·have:=g1.1;rw[h1]at this;exact this
noncomputable def enqG:jR:=nG gX (Bo true).args 2 (fun x=>[.m x.a.os,.o (x.lst 4)]) (fun x=>Hd (x.okE/\(∃i j,x.inP i j)/\ ∀k,x.a.c.o k+8<1099511627776)) (fun _=> .tup [.slW 2 0 1 1,i64 0]) 3 (fun x=>[.m x.enq.os,.o (x.lst 4),.o (.room 4 (.row 1 1 (fun _=>[.bool false]) []))])
theorem auO:bZ Tryz.prog 162 enqG.ctr:=yZ fun x hx=>by
 obtain⟨h1,h2,h3⟩:=aY.1 hx
 have e:x.enq.os=x.enq.osP:=sH (Nat.succ_ne_zero _)
 by_cases hz:x.a.n=0
 ·exact⟨_,_,_,_,_,_,x,auM,aY.2 ⟨h1,h2,h3,fun _=>hz⟩,rfl,by rw[y5 hz];rfl,rfl,by rw[e]⟩
 ·exact⟨_,_,_,_,_,_,x,auN,aY.2 ⟨h1,h2,h3,fun h=>nomatch h⟩,rfl,by rw[sH hz];rfl,rfl,by rw[e]⟩
noncomputable def deqG:jR:=nG gX Xv.args 2 (fun x=>[.m x.a.os,.o x.ao1]) (fun x=>Hd (x.okD/\(∃i j,x.inP i j)/\0<=x.a.id/\x.a.id<1152921504606846976/\x.a.n≠0)) (fun _=> .tup [.slW 2 0 1 1,i64 0]) 3 (fun x=>[.m x.deq.os,.o x.ao1,.o (.room 4 (.row 1 1 (fun _=>[.bool true]) []))])
theorem auP:bZ Tryz.prog 162 deqG.ctr:=yZ fun x hx=>by
 obtain⟨h1,h2,h3,h4,h5⟩:=aY.1 hx
 exact⟨_,_,_,_,_,_,x,aw4,aY.2 ⟨h1,h2,h3,h4⟩,rfl,by rw[sH h5],rfl,by rw[show x.deq.os=x.deq.osP from sH (Nat.succ_ne_zero _)]⟩
structure ZFr where
 key:ByteArray
 value:ByteArray
 epoch:Int
 had:Bool
 old:dM
 line:Int
 cls:Int
 piece:Int
 code:Int
 found:Bool
 ans:ByteArray
 aep:Int
namespace ZFr
def l(f:ZFr)(k ph:Int)(b:AV):List AV:=[i64 k,.lit (.string f.key),.lit (.string f.value),.lit (.string ⟨#[]⟩),fO,i64 ph,u64 f.epoch,.lit (.string ⟨#[]⟩),boo false,i64 0,boo f.had,.lit (.string f.old.key),u64 f.old.id,u64 f.old.ver,i64 f.old.line,i64 f.old.cls,i64 f.line,i64 f.cls,i64 f.piece,b,i64 0,fO,i64 f.code,boo f.found,.lit (.string f.ans),fO,fO,u64 f.aep]
def av(f:ZFr)(k ph:Int)(b:AV):AV:= .agg (f.l k ph b)
end ZFr
def GN(g:Nat->Int)(n:Nat):dw:= .room 5 (rowB g n)
structure auQ where
 k:Int
 key:ByteArray
 value:ByteArray
 to:ByteArray
 ph:Int
 ep:Int
 pos:ByteArray
 past:Bool
 lev:Int
 had:Bool
 okey:ByteArray
 oid:Int
 over:Int
 auR:Int
 ocls:Int
 line:Int
 cls:Int
 piece:Int
 at_:Int
 code:Int
 found:Bool
 ans:ByteArray
 aep:Int
def auQ.l(x:auQ):List AV:=[i64 x.k,.lit (.string x.key),.lit (.string x.value),.lit (.string x.to),fO,i64 x.ph,u64 x.ep,.lit (.string x.pos),boo x.past,i64 x.lev,boo x.had,.lit (.string x.okey),u64 x.oid,u64 x.over,i64 x.auR,i64 x.ocls,i64 x.line,i64 x.cls,i64 x.piece,fO,i64 x.at_,fO,i64 x.code,boo x.found,.lit (.string x.ans),fO,fO,u64 x.aep]
noncomputable def Dq:Ctr:=det auQ (fun x=>[.agg x.l]) 0 (fun _=>[]) (fun _=>True) (fun x=> .agg x.l) 0 (fun _=>[])
inductive Tg where
 |i|u|s|b|n
def aiY:Tg->AV->Bool
 | .i,.lit (.int .i64 _)=>true
 | .u,.lit (.int .u64 _)=>true
 | .s,.lit (.string _)=>true
 | .b,.lit (.bool _)=>true
 | .n,.lit (.slice none 0 0)=>true
 |_,_=>false
def shp:List Tg->List AV->Bool
 |[],[]=>true
 |t::ts,v::vs=>aiY t v&&shp ts vs
 |_,_=>false
def tgs:List Tg:=[.i,.s,.s,.s,.n,.i,.u,.s,.b,.i,.b,.s,.u,.u,.i,.i,.i,.i,.i,.n,.i,.n,.i,.b,.s,.n,.n,.u]
theorem fH{t:Tg}{ts:List Tg}{l:List AV}(h:shp (t::ts) l=true): ∃v vs,l=v::vs/\aiY t v=true/\shp ts vs=true:=by
 cases l with
 |nil=>simp[shp]at h
 |cons v vs=>simp only[shp,aI]at h;exact⟨v,vs,rfl,h.1,h.2⟩
theorem auS{l:List AV}(h:shp [] l=true):l=[]:=by
 cases l with
 |nil=>rfl
 |cons v vs=>simp[shp]at h
theorem ao4{v:AV}(h:aiY .i v=true): ∃z,v=i64 z:=by
 unfold aiY at h;split at h<;>first|contradiction|exact⟨_,rfl⟩
theorem tg_u{v:AV}(h:aiY .u v=true): ∃z,v=u64 z:=by
 unfold aiY at h;split at h<;>first|contradiction|exact⟨_,rfl⟩
theorem avP{v:AV}(h:aiY .s v=true): ∃z,v= .lit (.string z):=by
 unfold aiY at h;split at h<;>first|contradiction|exact⟨_,rfl⟩
theorem tg_b{v:AV}(h:aiY .b v=true): ∃z,v=boo z:=by
 unfold aiY at h;split at h<;>first|contradiction|exact⟨_,rfl⟩
theorem aw5{v:AV}(h:aiY .n v=true):v=fO:=by
 unfold aiY at h;split at h<;>first|contradiction|rfl
theorem shp_l{l:List AV}(h:shp tgs l=true): ∃x:auQ,l=x.l:=by
 obtain⟨v0,r0,rfl,a0,h0⟩:=fH h
 obtain⟨v1,r1,rfl,a1,h1⟩:=fH h0
 obtain⟨v2,r2,rfl,a2,h2⟩:=fH h1
 obtain⟨v3,r3,rfl,a3,h3⟩:=fH h2
 obtain⟨v4,r4,rfl,a4,h4⟩:=fH h3
 obtain⟨v5,r5,rfl,a5,h5⟩:=fH h4
 obtain⟨v6,r6,rfl,a6,h6⟩:=fH h5
 obtain⟨v7,r7,rfl,a7,h7⟩:=fH h6
 obtain⟨v8,r8,rfl,a8,h8⟩:=fH h7
 obtain⟨v9,r9,rfl,a9,h9⟩:=fH h8
 obtain⟨v10,r10,rfl,a10,h10⟩:=fH h9
 obtain⟨v11,r11,rfl,a11,h11⟩:=fH h10
 obtain⟨v12,r12,rfl,a12,h12⟩:=fH h11
 obtain⟨v13,r13,rfl,a13,h13⟩:=fH h12
 obtain⟨v14,r14,rfl,a14,h14⟩:=fH h13
 obtain⟨v15,r15,rfl,a15,h15⟩:=fH h14
 obtain⟨v16,r16,rfl,a16,h16⟩:=fH h15
 obtain⟨v17,r17,rfl,a17,h17⟩:=fH h16
 obtain⟨v18,r18,rfl,a18,h18⟩:=fH h17
 obtain⟨v19,r19,rfl,a19,h19⟩:=fH h18
 obtain⟨v20,r20,rfl,a20,h20⟩:=fH h19
 obtain⟨v21,r21,rfl,a21,h21⟩:=fH h20
 obtain⟨v22,r22,rfl,a22,h22⟩:=fH h21
 obtain⟨v23,r23,rfl,a23,h23⟩:=fH h22
 obtain⟨v24,r24,rfl,a24,h24⟩:=fH h23
 obtain⟨v25,r25,rfl,a25,h25⟩:=fH h24
 obtain⟨v26,r26,rfl,a26,h26⟩:=fH h25
 obtain⟨v27,r27,rfl,a27,h27⟩:=fH h26
 obtain rfl:=auS h27
 obtain⟨z0,rfl⟩:=ao4 a0
 obtain⟨z1,rfl⟩:=avP a1
 obtain⟨z2,rfl⟩:=avP a2
 obtain⟨z3,rfl⟩:=avP a3
 obtain rfl:=aw5 a4
 obtain⟨z5,rfl⟩:=ao4 a5
 obtain⟨z6,rfl⟩:=tg_u a6
 obtain⟨z7,rfl⟩:=avP a7
 obtain⟨z8,rfl⟩:=tg_b a8
 obtain⟨z9,rfl⟩:=ao4 a9
 obtain⟨z10,rfl⟩:=tg_b a10
 obtain⟨z11,rfl⟩:=avP a11
 obtain⟨z12,rfl⟩:=tg_u a12
 obtain⟨z13,rfl⟩:=tg_u a13
 obtain⟨z14,rfl⟩:=ao4 a14
 obtain⟨z15,rfl⟩:=ao4 a15
 obtain⟨z16,rfl⟩:=ao4 a16
 obtain⟨z17,rfl⟩:=ao4 a17
 obtain⟨z18,rfl⟩:=ao4 a18
 obtain rfl:=aw5 a19
 obtain⟨z20,rfl⟩:=ao4 a20
 obtain rfl:=aw5 a21
 obtain⟨z22,rfl⟩:=ao4 a22
 obtain⟨z23,rfl⟩:=tg_b a23
 obtain⟨z24,rfl⟩:=avP a24
 obtain rfl:=aw5 a25
 obtain rfl:=aw5 a26
 obtain⟨z27,rfl⟩:=tg_u a27
 exact⟨⟨z0,z1,z2,z3,z5,z6,z7,z8,z9,z10,z11,z12,z13,z14,z15,z16,z17,z18,z20,z22,z23,z24,z27⟩,rfl⟩
def aia:Prop:=Value.slice none 0 0=Value.slice none 0 0
def Jk(x:auQ):Prop:=
 ∃y:Unit,True/\(x.k=x.k/\x.key=x.key/\x.value=x.value/\x.to=x.to/\aia/\x.ph=x.ph/\x.ep=x.ep/\x.pos=x.pos/\x.past=x.past/\x.lev=x.lev/\x.had=x.had/\x.okey=x.okey/\x.oid=x.oid/\x.over=x.over/\x.auR=x.auR/\x.ocls=x.ocls/\x.line=x.line/\x.cls=x.cls/\x.piece=x.piece/\aia/\x.at_=x.at_/\aia/\x.code=x.code/\x.found=x.found/\x.ans=x.ans/\aia/\aia/\x.aep=x.aep/\True)/\True
theorem XF(x:auQ):Jk x=wpF Tryz.prog [] tt (noA x) 200 6 52 (Dq.args x) (hO Dq.k (Dq.os x)) (fun v h'=>fA Dq.k x v h' Dq.outs):=by kernel_rfl
def emp:ByteArray:=⟨#[]⟩
theorem Lh(x:auQ):Jk x:=by
 unfold Jk
 simp only[aia]
 simp only[aY,aU,aT,ay,aH,bP,bC,aN,aJ,au,aW,aV,bQ,bF,bG,bH,bT,bf,bJ,aZ,dZ,aG,aK,ah,aj,aA,aC,aB,aF]
theorem aib:bZ Tryz.prog 52 Dq:=dV dB mixed .nil noA 200 6 (fun _=>rfl) (fun _=>rfl) fun x _=>Eq.mp (XF x) (Lh x)
def aqV:FuncId->tK:=fun _ _ _ _=>[]
noncomputable def amZ:WTr:=fun args h K=>match args with
 |[.agg l]=>bif shp tgs l then K (.agg l) h else wpF Tryz.prog [] tt aqV 200 6 52 args h K
 |_=>False
theorem am0(args:List AV)(h:Heap)(K:AV->Heap->Prop)(hq:amZ args h K):Sp Tryz.prog 52 args h K:=by
 unfold amZ at hq
 split at hq
 ·rename_i l
  cases hs:shp tgs l<;>rw[hs]at hq
  ·exact xY dB mixed .nil _ _ _ _ _ _ _ hq
  ·obtain⟨x,rfl⟩:=shp_l hs
   refine(adt h (aac aib x trivial) (fun _ _ hv=>hv) (by rfl) (by rfl)).mono ?_
   rintro v h' ⟨rfl,rfl⟩
   exact hq
 ·exact hq.elim
def auT:WTr:=fun args h K=>match args with
 |[.lit (.int .i64 c)]=>K (i64 (ned c)) h
 |_=>False
theorem aqW(args:List AV)(h:Heap)(K:AV->Heap->Prop)(hq:auT args h K):Sp Tryz.prog 201 args h K:=by
 unfold auT at hq
 split at hq
 ·exact GK ak4 _ trivial h rfl rfl hq
 ·exact hq.elim
structure ZEn where
 r:ZRd
 c:fD
 t:Nat
 f:ZFr
def arnE:dw:=abp .any (.ptr 1 0) (.ptr 2 0) .any .any .any .any
noncomputable def ug(k:Int):Ctr:={X:=ZEn,args:=fun x=>[.ptr 0 0,i64 x.t,x.f.av k 0 fO],k:=3,os:=fun x=>[arnE,.abs (bK x.r.os),.abs (bK (x.c.os 0))],pre:=fun x=>Hd (x.r.ok/\x.c.ok/\x.t<x.r.t/\x.r.has x.t=0),outs:=[
 {Y:=Unit,post:=fun x _=>Hd (k=4/\400<x.f.value.size),ret:=fun x _=>{x.f with code:=5}.av k 7 fO,m:=3,os:=fun x _=>[arnE,.abs (bK x.r.os),.abs (bK (x.c.os 0))]},
 {Y:=Unit,post:=fun x _=>Hd (k=4->x.f.value.size<=400),ret:=fun x _=>{x.f with epoch:=x.c.now}.av k (if k=4 then 3 else 1) fO,m:=3,os:=fun x _=>[arnE,.abs (bK (x.r.put x.t x.r.now).os),.abs (bK (x.c.os 0))]}]}
structure ZFi where
 l:ZLn
 t:Nat
 f:ZFr
def arnF:dw:=abp .any .any .any .any .any (.ptr 1 0) .any
noncomputable def abG:Ctr:={X:=ZFi,args:=fun x=>[.ptr 0 0,i64 x.t,x.f.av 5 1 fO],k:=2,os:=fun x=>[arnF,.abs (bK x.l.os)],pre:=fun x=>Hd (x.l.ok/\x.f.line= -1),outs:=[
 {Y:=Unit,post:=fun x _=>Hd (x.l.n=0),ret:=fun x _=>{x.f with had:=false,old:=qO}.av 5 6 fO,m:=2,os:=fun x _=>[arnF,.abs (bK x.l.os)]},
 {Y:=Unit,post:=fun x _=>Hd (x.l.n≠0),ret:=fun x _=>{x.f with had:=true,old:=x.l.head,piece:=0}.av 5 2 fO,m:=2,os:=fun x _=>[arnF,.abs (bK x.l.os)]}]}
structure ZTk where
 p:dI
 t:Nat
 f:ZFr
def arnT:dw:=abp (.ptr 1 0) .any .any .any .any .any .any
def ZTk.c(x:ZTk)(k:Int):Int:=if k=4 then ned x.f.value.size else 0
noncomputable def FN(k:Int):Ctr:={X:=ZTk,args:=fun x=>[.ptr 0 0,i64 x.t,x.f.av k 3 fO],k:=2,os:=fun x=>[arnT,.abs (bK x.p.os)],pre:=fun x=>Hd (x.p.ok/\x.f.value.size<=400),outs:=[
 {Y:=Unit,post:=fun x _=>Hd (∀i,i<x.p.n->x.p.cls i≠ -1/\x.p.full (x.c k) i),ret:=fun x _=>{x.f with cls:=x.c k,ans:=emp,code:=4}.av k 6 fO,m:=2,os:=fun x _=>[arnT,.abs (bK x.p.os)]},
 {Y:=Nat×Nat,post:=fun x y=>Hd (x.p.takes (x.c k) y.1 y.2),ret:=fun x y=>{x.f with cls:=x.c k,line:=2+y.1*8+y.2*spn (x.c k),piece:=0}.av k 4 fO,m:=2,os:=fun x y=>[arnT,.abs (bK (x.p.take (x.c k) y.1 y.2).os)]}]}
structure ZLv where
 r:ZRd
 t:Nat
 f:ZFr
def arnL:dw:=abp .any (.ptr 1 0) .any .any .any .any .any
noncomputable def uh(k:Int):Ctr:=det ZLv (fun x=>[.ptr 0 0,i64 x.t,x.f.av k 6 fO]) 2 (fun x=>[arnL,.abs (bK x.r.os)]) (fun x=>Hd (x.r.ok/\x.t<x.r.t)) (fun x=>x.f.av k 7 fO) 2 (fun x=>[arnL,.abs (bK (x.r.put x.t 0).os)])
def UQ:dw:=abp .any .any .any .any .any .any (.ptr 1 0)
def Rf:dw:= .ro (.av [.ptr 2 0,.any,.any,.any])
structure ZWr where
 d:dS
 t:Nat
 f:ZFr
 ln:Nat
 c:Int
 p:Nat
def ZWr.draft(x:ZWr):dN:=⟨x.c,0,0,0,0,⟨#[]⟩,⟨#[]⟩⟩
def ZWr.blk(x:ZWr):dN:=⟨x.c,2,0,0,0,⟨#[]⟩,x.f.value⟩
def ZWr.ok(x:ZWr):Prop:=x.d.ok/\0<=x.c/\x.c<=3/\x.ln+spn x.c<=x.d.n/\x.p<spn x.c/\x.f.value.size<=400/\small x.d.st/\x.d.st+10<1099511627776
noncomputable def ZWr.d'(x:ZWr):dS:=if x.p=0 then x.d.store x.ln 0 64 (x.draft.kT (fun _=>0) (cpc x.c).toNat)else x.d.store (x.ln+x.p) 0 64 (fun q=>x.blk.enc (64*x.p+q))
def ZWr.fr(x:ZWr)(p:Int):ZFr:={x.f with line:=x.ln,cls:=x.c,piece:=p}
noncomputable def mY(k:Int):Ctr:={X:=ZWr,args:=fun x=>[.ptr 0 0,i64 x.t,(x.fr 0).av k 4 fO],k:=3,os:=fun x=>[UQ,Rf,.abs (bK x.d.os)],pre:=fun x=>Hd (x.ok/\x.p=0),outs:=[
 {Y:=Unit,post:=fun x _=>Hd (1≠spn x.c),ret:=fun x _=>(x.fr 1).av k 4 fO,m:=3,os:=fun x _=>[UQ,Rf,.abs (bK x.d'.os)]},
 {Y:=Unit,post:=fun x _=>Hd (1=spn x.c),ret:=fun x _=>(x.fr 0).av k 5 fO,m:=3,os:=fun x _=>[UQ,Rf,.abs (bK x.d'.os)]}]}
noncomputable def Dt:Ctr:={X:=ZWr,args:=fun x=>[.ptr 0 0,i64 x.t,(x.fr x.p).av 4 4 fO],k:=3,os:=fun x=>[UQ,Rf,.abs (bK x.d.os)],pre:=fun x=>Hd (x.ok/\x.p≠0),outs:=[
 {Y:=Unit,post:=fun x _=>Hd (x.p+1≠spn x.c),ret:=fun x _=>(x.fr (x.p+1)).av 4 4 fO,m:=3,os:=fun x _=>[UQ,Rf,.abs (bK x.d'.os)]},
 {Y:=Unit,post:=fun x _=>Hd (x.p+1=spn x.c),ret:=fun x _=>(x.fr 0).av 4 5 fO,m:=3,os:=fun x _=>[UQ,Rf,.abs (bK x.d'.os)]}]}
structure ZRe where
 d:dS
 t:Nat
 f:ZFr
 b:dN
 ln:Nat
 p:Nat
def ZRe.ok(x:ZRe):Prop:=x.d.ok/\x.b.may/\x.b.kind=2/\x.ln+spn x.b.cls<=x.d.n/\x.p<spn x.b.cls/\ ∀q,q<64*x.b.dJ->x.d.b ((x.ln+q/64)*193+q%64)=x.b.enc q
def ZRe.fr(x:ZRe)(p:Int):ZFr:={x.f with had:=true,old:=⟨⟨#[]⟩,x.b.id,x.b.ver,x.ln,x.b.cls⟩,piece:=p}
def ZRe.fr2(x:ZRe)(p:Int):ZFr:={x.fr p with ans:=x.b.value}
noncomputable def Oi:Ctr:={X:=ZRe,args:=fun x=>[.ptr 0 0,i64 x.t,(x.fr 0).av 5 2 fO],k:=3,os:=fun x=>[UQ,Rf,.abs (bK x.d.os)],pre:=fun x=>Hd (x.ok/\x.p=0),outs:=[
 {Y:=Unit,post:=fun x _=>Hd (1≠spn x.b.cls),ret:=fun x _=>(x.fr 1).av 5 2 (.slW 3 0 1 64),m:=4,os:=fun x _=>[UQ,Rf,.abs (bK x.d.os),GN x.b.enc 64]},
 {Y:=Unit,post:=fun x _=>Hd (1=spn x.b.cls/\x.f.line<0),ret:=fun x _=>(x.fr2 1).av 5 3 fO,m:=3,os:=fun x _=>[UQ,Rf,.abs (bK x.d.os)]},
 {Y:=Unit,post:=fun x _=>Hd (1=spn x.b.cls/\0<=x.f.line),ret:=fun x _=>(x.fr2 1).av 5 5 fO,m:=3,os:=fun x _=>[UQ,Rf,.abs (bK x.d.os)]}]}
noncomputable def Oj:Ctr:={X:=ZRe,args:=fun x=>[.ptr 0 0,i64 x.t,(x.fr x.p).av 5 2 (.slW 3 0 1 (64*x.p))],k:=4,os:=fun x=>[UQ,Rf,.abs (bK x.d.os),GN x.b.enc (64*x.p)],pre:=fun x=>Hd (x.ok/\x.p≠0),outs:=[
 {Y:=Unit,post:=fun x _=>Hd (x.p+1≠spn x.b.cls),ret:=fun x _=>(x.fr (x.p+1)).av 5 2 (.slW 4 0 1 (64*(x.p+1))),m:=5,os:=fun x _=>[UQ,Rf,.abs (bK x.d.os),GN x.b.enc (64*x.p),GN x.b.enc (64*(x.p+1))]},
 {Y:=Unit,post:=fun x _=>Hd (x.p+1=spn x.b.cls/\x.f.line<0),ret:=fun x _=>(x.fr2 (x.p+1)).av 5 3 fO,m:=4,os:=fun x _=>[UQ,Rf,.abs (bK x.d.os),GN x.b.enc (64*x.p)]},
 {Y:=Unit,post:=fun x _=>Hd (x.p+1=spn x.b.cls/\0<=x.f.line),ret:=fun x _=>(x.fr2 (x.p+1)).av 5 5 fO,m:=4,os:=fun x _=>[UQ,Rf,.abs (bK x.d.os),GN x.b.enc (64*x.p)]}]}
structure ZDe where
 cls:Int
 id:Int
 ver:Int
 epoch:Int
 value:ByteArray
 g:Nat->Int
def ZDe.b(x:ZDe):dN:=⟨x.cls,2,x.id,x.ver,x.epoch,⟨#[]⟩,x.value⟩
noncomputable def auU:Ctr:=det ZDe (fun x=>[.slW 0 0 1 (64*x.b.dJ)]) 1 (fun x=>[GN x.g (64*x.b.dJ)]) (fun x=>Hd (x.b.may/\x.b.value.size<1099511627776/\ ∀k,k<64*x.b.dJ->x.g k=x.b.enc k)) (fun x=> .tup [x.b.av,boo true]) 1 (fun x=>[GN x.g (64*x.b.dJ)])
theorem am1:bZ Tryz.prog 121 auU:=qw fun x hx=>by
 have hx:=aY.1 hx
 refine⟨aul,awX,rfl,⟨x.b,x.g⟩,aY.2 ⟨hx.1,show 0<1099511627776 by decide,hx.2.1,hx.2.2⟩,rfl,rfl,fun v h' hh=> ?_⟩
 obtain⟨u,e1,e2,e3⟩:=lK hh
 exact fK ⟨u,trivial,e2,e3⟩
noncomputable def Bv:jY:=[(52,amZ)]
noncomputable def auV:jY:=Bv++[(199,eG Wn.ctr),(45,eG (QC 0).ctr)]
noncomputable def aw6:jY:=Bv++[(154,eG vC.ctr)]
noncomputable def auW:jY:=Bv++[(201,auT),(202,eG ak8.ctr)]
noncomputable def aqX:jY:=Bv++[(113,ah6),(63,eG I5),(62,eG IC.ctr)]
noncomputable def auX:jY:=Bv++[(211,eG Wp.ctr)]
noncomputable def auY:jY:=Bv++[(113,ah6),(121,eG auU),(181,eG ahr.ctr)]
def dP:Prop:=Value.slice none 0 0=Value.slice none 0 0
def bM(a:Int):Prop:=a=a
def rF(a:Int):Prop:=dP/\dP/\bM a/\True
def Rh(a:ZRe)(b:ByteArray):Prop:=dP/\(0:Int)=0/\dP/\bM a.f.code/\a.f.found=a.f.found/\a.b.value=b/\rF a.f.aep
def jy(a:Nat):Prop:=(a:Int)=(a:Int)
def yu(a:Nat):Prop:=(a:Int)+1=(a:Int)+1
def dD:Prop:=ByteArray.mk #[]=ByteArray.mk #[]
def XG(a:ZRe)(b:ByteArray):Prop:=bM a.f.epoch/\dD/\false=false/\(0:Int)=0/\true=true/\dD/\bM a.b.id/\bM a.b.ver/\jy a.ln/\bM a.b.cls/\bM a.f.line/\bM a.f.cls/\yu a.p/\Rh a b
def Ri(a:ZFr)(b:ByteArray):Prop:=False/\(0:Int)=0/\dP/\bM a.code/\a.found=a.found/\a.ans=b/\rF a.aep
def am2(a:ZRe)(b:ByteArray):Prop:=bM a.f.epoch/\dD/\false=false/\(0:Int)=0/\true=true/\dD/\bM a.b.id/\bM a.b.ver/\jy a.ln/\bM a.b.cls/\bM a.f.line/\bM a.f.cls/\yu a.p/\Ri a.f b
def bY(a:ByteArray):Prop:=a=a
def Ol(a:ZRe):Prop:=Hd ((a.p:Int)+1≠spn a.b.cls)
def lW(a:dS)(b:dS):Prop:=bK a.os=bK b.os
def XH(a:ZRe):Prop:=64*a.p=64*a.p/\ ∀q:Nat,q<64*a.p->[Value.int .u8 (a.b.enc q)]=[Value.int .u8 (a.b.enc q)]
def pz:Prop:=True/\True/\True/\True
def rG:Prop:=True/\True/\True/\True/\pz
def vK:Prop:=True/\rG
def Bz:Prop:=True/\vK
def rH:Prop:=True/\Bz
def nI:Prop:=0=0/\pz
def BA(a:ZRe)(b:dS):Prop:=(0=0/\rH)/\nI/\lW a.d b/\XH a/\True
def XI(a:ZRe):Prop:=Hd ((a.p:Int)+1=spn a.b.cls/\0<=a.f.line)
def XJ(a:ZRe):Prop:=Hd ((a.p:Int)+1=spn a.b.cls/\a.f.line<0)
def aeL(a:ZRe)(b:dS):Prop:=(0=0/\rH)/\nI/\lW a.d b/\XH a/\False/\True
def Jl(a:Int):Prop:=(AV.lit (Value.int .i64 a)=AV.lit (Value.int .i64 a)/\True)/\False
def Om(a:ZRe):Prop:=a.f.found=a.f.found/\a.b.value=a.f.ans/\rF a.f.aep
def am3(a:ZRe):Prop:=bM a.f.epoch/\dD/\false=false/\(0:Int)=0/\true=true/\dD/\bM a.b.id/\bM a.b.ver/\jy a.ln/\bM a.b.cls/\bM a.f.line/\bM a.f.cls/\yu a.p/\dP/\(0:Int)=0/\dP/\a.f.code=6/\Om a
def kH(a:ZFr):Prop:=a.found=a.found/\bY a.ans/\rF a.aep
def auZ(a:ZRe)(b:dS):Prop:=cP (decide (a.f.line>=(0:Int))) (Jl a.f.line) ((∃y_2:Unit,Ol a/\((5:Int)=5/\bY a.f.key/\bY a.f.value/\dD/\dP/\(2:Int)=6/\bM a.f.epoch/\dD/\false=false/\(0:Int)=0/\true=true/\dD/\bM a.b.id/\bM a.b.ver/\jy a.ln/\bM a.b.cls/\bM a.f.line/\bM a.f.cls/\yu a.p/\False/\(0:Int)=0/\dP/\a.f.code=6/\kH a.f)/\aeL a b)\/(∃y_2:Unit,XJ a/\((5:Int)=5/\bY a.f.key/\bY a.f.value/\dD/\dP/\(3:Int)=6/\am3 a)/\BA a b)\/ ∃y_2:Unit,XI a/\((5:Int)=5/\bY a.f.key/\bY a.f.value/\dD/\dP/\(5:Int)=6/\am3 a)/\BA a b)
def au0(a:ZDe)(b:ZRe)(c:dS):Prop:= ∀y_1:Unit,True->cP (BEq.beq a.id b.b.id) (cP (BEq.beq a.ver b.b.ver) (cP (decide (b.f.line<0)) ((∃y_2:Unit,Ol b/\((5:Int)=5/\bY b.f.key/\bY b.f.value/\dD/\dP/\(2:Int)=3/\am2 b a.value)/\aeL b c)\/(∃y_2:Unit,XJ b/\((5:Int)=5/\bY b.f.key/\bY b.f.value/\dD/\dP/\(3:Int)=3/\XG b a.value)/\BA b c)\/ ∃y_2:Unit,XI b/\((5:Int)=5/\bY b.f.key/\bY b.f.value/\dD/\dP/\(5:Int)=3/\XG b a.value)/\BA b c) ((∃y_2:Unit,Ol b/\((5:Int)=5/\bY b.f.key/\bY b.f.value/\dD/\dP/\(2:Int)=5/\am2 b a.value)/\aeL b c)\/(∃y_2:Unit,XJ b/\((5:Int)=5/\bY b.f.key/\bY b.f.value/\dD/\dP/\(3:Int)=5/\XG b a.value)/\BA b c)\/ ∃y_2:Unit,XI b/\((5:Int)=5/\bY b.f.key/\bY b.f.value/\dD/\dP/\(5:Int)=5/\XG b a.value)/\BA b c)) (auZ b c)) (auZ b c)
def vM(a:ZFr):Prop:=(0:Int)=0/\dP/\bM a.code/\kH a
def mZ(a:ZFr):Prop:=dP/\vM a
def nJ(a:ZWr)(b:pW):Prop:=(0=0/\rH)/\nI/\bK a.d'.os=bK (dS.os (b.d.store b.k b.a b.b.n (fun(q:Nat)=>b.b.g (b.b.q+q))))/\True
def am4(a:ZWr)(b:pW):Prop:=Hd ((a.p:Int)+1=spn a.c)/\((4:Int)=4/\bY a.f.key/\bY a.f.value/\dD/\dP/\(5:Int)=4/\bM a.f.epoch/\dD/\false=false/\(0:Int)=0/\a.f.had=a.f.had/\bY a.f.old.key/\bM a.f.old.id/\bM a.f.old.ver/\bM a.f.old.line/\bM a.f.old.cls/\jy a.ln/\bM a.c/\0=(a.p:Int)+1/\mZ a.f)/\nJ a b
def am5(a:ZWr)(b:pW):Prop:=Hd ((a.p:Int)+1≠spn a.c)/\((4:Int)=4/\bY a.f.key/\bY a.f.value/\dD/\dP/\(4:Int)=5/\bM a.f.epoch/\dD/\false=false/\(0:Int)=0/\a.f.had=a.f.had/\bY a.f.old.key/\bM a.f.old.id/\bM a.f.old.ver/\bM a.f.old.line/\bM a.f.old.cls/\jy a.ln/\bM a.c/\(a.p:Int)+1=0/\mZ a.f)/\nJ a b
def Jm(a:ZWr):Prop:=bY a.f.key/\bY a.f.value/\dD/\dP/\(5:Int)=5/\bM a.f.epoch/\dD/\false=false/\(0:Int)=0/\a.f.had=a.f.had/\bY a.f.old.key/\bM a.f.old.id/\bM a.f.old.ver/\bM a.f.old.line/\bM a.f.old.cls/\jy a.ln/\bM a.c/\(0:Int)=0/\mZ a.f
def am6(a:ZWr)(b:pW):Prop:=Hd ((a.p:Int)+1≠spn a.c)/\((4:Int)=4/\bY a.f.key/\bY a.f.value/\dD/\dP/\(4:Int)=4/\bM a.f.epoch/\dD/\false=false/\(0:Int)=0/\a.f.had=a.f.had/\bY a.f.old.key/\bM a.f.old.id/\bM a.f.old.ver/\bM a.f.old.line/\bM a.f.old.cls/\jy a.ln/\bM a.c/\yu a.p/\mZ a.f)/\nJ a b
def am7(a:ZWr)(b:pW):Prop:= ∀y:Unit,True->I64 ((a.p:Int)+1)/\True/\I64 ((a.p:Int)+1)/\cP (BEq.beq ((a.p:Int)+1) (spn a.c)) ((∃y_1:Unit,am5 a b)\/ ∃y_1:Unit,Hd ((a.p:Int)+1=spn a.c)/\((4:Int)=4/\Jm a)/\nJ a b) ((∃y_1:Unit,am6 a b)\/ ∃y_1:Unit,am4 a b)
def vO(a:Int):Prop:=Hd ((1:Int)≠spn a)
def BD(a:dS)(b:dS):Prop:=(0=0/\rH)/\nI/\lW a b/\True
def Jo(a:ZRe):Prop:=Hd (1=spn a.b.cls/\0<=a.f.line)
def Rj(a:dS)(b:dS):Prop:=(0=0/\rH)/\nI/\lW a b/\False/\True
def am8(a:ZRe):Prop:=bM a.f.epoch/\dD/\false=false/\(0:Int)=0/\true=true/\dD/\bM a.b.id/\bM a.b.ver/\jy a.ln/\bM a.b.cls/\bM a.f.line/\bM a.f.cls/\(1:Int)=1/\dP/\(0:Int)=0/\dP/\a.f.code=6/\Om a
def Jp(a:ZRe):Prop:=Hd (1=spn a.b.cls/\a.f.line<0)
def am9(a:ZRe)(b:dS):Prop:=cP (decide (a.f.line>=(0:Int))) (Jl a.f.line) ((∃y_2:Unit,vO a.b.cls/\((5:Int)=5/\bY a.f.key/\bY a.f.value/\dD/\dP/\(2:Int)=6/\bM a.f.epoch/\dD/\false=false/\(0:Int)=0/\true=true/\dD/\bM a.b.id/\bM a.b.ver/\jy a.ln/\bM a.b.cls/\bM a.f.line/\bM a.f.cls/\(1:Int)=1/\False/\(0:Int)=0/\dP/\a.f.code=6/\kH a.f)/\Rj a.d b)\/(∃y_2:Unit,Jp a/\((5:Int)=5/\bY a.f.key/\bY a.f.value/\dD/\dP/\(3:Int)=6/\am8 a)/\BD a.d b)\/ ∃y_2:Unit,Jo a/\((5:Int)=5/\bY a.f.key/\bY a.f.value/\dD/\dP/\(5:Int)=6/\am8 a)/\BD a.d b)
def ana(a:ZRe):Prop:=bM a.f.epoch/\dD/\false=false/\(0:Int)=0/\true=true/\dD/\bM a.b.id/\bM a.b.ver/\jy a.ln/\bM a.b.cls/\bM a.f.line/\bM a.f.cls/\yu a.p/\False/\(0:Int)=0/\dP/\bM a.f.code/\Om a
def anb(a:ZRe)(b:dS):Prop:=(∃y_1:Unit,XJ a/\((5:Int)=5/\bY a.f.key/\bY a.f.value/\dD/\dP/\(3:Int)=2/\ana a)/\BA a b)\/ ∃y_1:Unit,XI a/\((5:Int)=5/\bY a.f.key/\bY a.f.value/\dD/\dP/\(5:Int)=2/\ana a)/\BA a b
def XK(a:ZRe)(b:ByteArray):Prop:=bM a.f.epoch/\dD/\false=false/\(0:Int)=0/\true=true/\dD/\bM a.b.id/\bM a.b.ver/\jy a.ln/\bM a.b.cls/\bM a.f.line/\bM a.f.cls/\(1:Int)=1/\Rh a b
def Jq(a:ZFr):Prop:=dD/\false=false/\(0:Int)=0/\a.had=a.had/\bY a.old.key/\bM a.old.id/\bM a.old.ver/\bM a.old.line/\bM a.old.cls/\bM a.line/\bM a.cls/\bM a.piece/\mZ a
def Oo(a:pW)(b:dS)(c:Int):Prop:=lW a.d b/\(a.b.N=64/\ ∀q:Nat,q<a.b.N->[Value.int .u8 (a.b.g q)]=[Value.int .u8 (dN.kT (dN.mk c (0:Int) (0:Int) (0:Int) (0:Int) (ByteArray.mk #[]) (ByteArray.mk #[])) (fun(x_3:Nat)=>(0:Int)) (Int.toNat (cpc c)) q)])/\True
def aeM(a:ZFr):Prop:=bY a.key/\bY a.value/\dD/\dP/\(7:Int)=7/\bM a.epoch/\dD/\false=false/\(0:Int)=0/\a.had=a.had/\bY a.old.key/\bM a.old.id/\bM a.old.ver/\bM a.old.line/\bM a.old.cls/\bM a.line/\bM a.cls/\bM a.piece/\dP/\(0:Int)=0/\dP/\(5:Int)=7/\kH a
def uj:Prop:=True/\True/\0=0/\0=0/\rG
def ane(a:ZWr)(b:Nat):Prop:=(Nat.beq (List.length [Value.int .u8 (gG (ByteArray.extract a.f.value (Int.toNat (G5 (imax (28+((a.p:Int)-1)*63) (0:Int)) (a.f.value.size:Int))) a.f.value.size) b)]) 1&&List.all [Value.int .u8 (gG (ByteArray.extract a.f.value (Int.toNat (G5 (imax (28+((a.p:Int)-1)*63) (0:Int)) (a.f.value.size:Int))) a.f.value.size) b)] Value.oneCell')=true
def aeN(a:ZWr):Prop:=bY a.f.key/\bY a.f.value/\dD/\dP/\(4:Int)=4/\bM a.f.epoch/\dD/\false=false/\(0:Int)=0/\a.f.had=a.f.had/\bY a.f.old.key/\bM a.f.old.id/\bM a.f.old.ver/\bM a.f.old.line/\bM a.f.old.cls/\jy a.ln/\bM a.c/\1=(0:Int)+1/\mZ a.f
def aeO(a:ZWr):Prop:=bY a.f.key/\bY a.f.value/\dD/\dP/\(5:Int)=4/\bM a.f.epoch/\dD/\false=false/\(0:Int)=0/\a.f.had=a.f.had/\bY a.f.old.key/\bM a.f.old.id/\bM a.f.old.ver/\bM a.f.old.line/\bM a.f.old.cls/\jy a.ln/\bM a.c/\0=(0:Int)+1/\mZ a.f
def anf(a:ZRe):Prop:=bM a.f.epoch/\dD/\false=false/\(0:Int)=0/\true=true/\dD/\bM a.b.id/\bM a.b.ver/\jy a.ln/\bM a.b.cls/\bM a.f.line/\bM a.f.cls/\(1:Int)=1/\False/\(0:Int)=0/\dP/\bM a.f.code/\Om a
def aeP(a:ZWr):Prop:=bY a.f.key/\bY a.f.value/\dD/\dP/\(4:Int)=5/\bM a.f.epoch/\dD/\false=false/\(0:Int)=0/\a.f.had=a.f.had/\bY a.f.old.key/\bM a.f.old.id/\bM a.f.old.ver/\bM a.f.old.line/\bM a.f.old.cls/\jy a.ln/\bM a.c/\(1:Int)=0/\mZ a.f
def aeQ(a:ZEn):Prop:=a.c.now=a.f.epoch/\dD/\false=false/\(0:Int)=0/\a.f.had=a.f.had/\bY a.f.old.key/\bM a.f.old.id/\bM a.f.old.ver/\bM a.f.old.line/\bM a.f.old.cls/\bM a.f.line/\bM a.f.cls/\bM a.f.piece/\dP/\(0:Int)=0/\dP/\a.f.code=7/\kH a.f
def ang(a:ZRe)(b:ByteArray):Prop:=bM a.f.epoch/\dD/\false=false/\(0:Int)=0/\true=true/\dD/\bM a.b.id/\bM a.b.ver/\jy a.ln/\bM a.b.cls/\bM a.f.line/\bM a.f.cls/\(1:Int)=1/\Ri a.f b
def aeR(a:ZFr)(b:Int):Prop:=a.epoch=b/\dD/\false=false/\(0:Int)=0/\a.had=a.had/\bY a.old.key/\bM a.old.id/\bM a.old.ver/\bM a.old.line/\bM a.old.cls/\bM a.line/\bM a.cls/\bM a.piece/\dP/\(0:Int)=0/\dP/\5=a.code/\kH a
def Oq(a:ZLn)(b:ZLn):Prop:=(True/\True/\True/\True/\True/\True/\True/\nI)/\bK a.os=bK b.os/\True
def Jr(a:Nat):Prop:=AV.lit (Value.int .i64 (a:Int))=AV.lit (Value.int .i64 (a:Int))
def EK(a:pW):Prop:=Hd (a.d.ok/\a.k<a.d.n/\a.b.ok/\a.a+a.b.n<=64)
def qB:Prop:=True/\0=0/\Bz
def EL(a:pW):Prop:=(a.a:Int)=0/\(a.b.q=0/\a.b.n=64)/\True
def XL(a:ZDe):Prop:=Hd (a.b.may/\a.value.size<1099511627776/\ ∀k:Nat,k<64*a.b.dJ->a.g k=a.b.enc k)
def Ot(a:ZFr):Prop:=a.found=a.found/\a.ans=ByteArray.mk #[]/\rF a.aep
def Js(a:ZTk):Prop:=a.c (4:Int)=ned (a.f.value.size:Int)
def Ou(a:ZFr):Prop:=a.found=a.found/\emp=ByteArray.mk #[]/\rF a.aep
def aeS(a:ZTk):Prop:=Hd (∀i:Nat,i<a.p.n->a.p.cls i≠(-(1:Int))/\a.p.full (a.c (4:Int)) i)
def aeT(a:ZTk):Prop:=Hd (∀i:Nat,i<a.p.n->a.p.cls i≠(-(1:Int))/\a.p.full (a.c (5:Int)) i)
def EM(a:fD):Prop:=bK (a.os 0)=bK (a.os 0)/\True
def EN(a:fD)(b:fD):Prop:=bK (a.os 0)=bK (b.os 0)/\True
def aeU(a:ZDe)(b:Qu):Prop:=(64*a.b.dJ=64/\ ∀q:Nat,q<64*a.b.dJ->[Value.int .u8 (a.g q)]=[Value.int .u8 (b.d.b (b.k*193+(0+(q-0))))])/\True
def aeV(a:ZFr):Prop:=a.piece=0/\dP/\(0:Int)=0/\dP/\4=a.code/\a.found=a.found/\emp=a.ans/\rF a.aep
def aeW(a:ZLv)(b:Zh):Prop:=(True/\True/\0=0/\vK)/\bK (ZRd.os (a.r.put a.t (0:Int)))=bK (ZRd.os (b.r.put b.k (0:Int)))/\True
def aeX(a:mO):Prop:=Hd (spn a.c≠(0:Int)/\ ∀i:Nat,i<a.p.n->a.p.cls i≠(-(1:Int))/\a.p.full a.c i)
def aeY(a:ZFr):Prop:=bY a.key/\bY a.value/\dD/\dP/\(7:Int)=7/\bM a.epoch/\Jq a
def vP(a:dI)(b:dI):Prop:=bK a.os=bK b.os/\True
def abH(a:Nat):Prop:=AV.lit (Value.int .i64 ((a:Int)+1))=AV.lit (Value.int .i64 ((a:Int)+1))/\True
def Rk(x:ZEn):Prop:=
 ((0:Int)<=0/\(0:Int)<=6)/\cP (decide ((x.f.value.size:Int)>(400:Int))) (True/\((∃y:Unit,Hd ((4:Int)=4/\400<x.f.value.size)/\((4:Int)=4/\bY x.f.key/\bY x.f.value/\dD/\dP/\(7:Int)=7/\bM x.f.epoch/\dD/\false=false/\(0:Int)=0/\x.f.had=x.f.had/\bY x.f.old.key/\bM x.f.old.id/\bM x.f.old.ver/\bM x.f.old.line/\bM x.f.old.cls/\bM x.f.line/\bM x.f.cls/\bM x.f.piece/\dP/\(0:Int)=0/\dP/\(5:Int)=5/\kH x.f)/\uj/\bK x.r.os=bK x.r.os/\EM x.c)\/ ∃y:Unit,Hd ((4:Int)=4->x.f.value.size<=400)/\((4:Int)=4/\bY x.f.key/\bY x.f.value/\dD/\dP/\(3:Int)=7/\x.c.now=x.f.epoch/\dD/\false=false/\(0:Int)=0/\x.f.had=x.f.had/\bY x.f.old.key/\bM x.f.old.id/\bM x.f.old.ver/\bM x.f.old.line/\bM x.f.old.cls/\bM x.f.line/\bM x.f.cls/\bM x.f.piece/\dP/\(0:Int)=0/\dP/\x.f.code=5/\kH x.f)/\uj/\bK (ZRd.os (x.r.put x.t x.r.now))=bK x.r.os/\EM x.c)) (∃x_1:Zh,Hd (x_1.r.ok/\x_1.k<x_1.r.t)/\(0=0/\(x_1.k:Int)=(x.t:Int)/\True)/\(bK x_1.r.os=bK x.r.os/\True)/\(∀y:Unit,Hd (x_1.r.has x_1.k=0)-> ∃x_2:fD,Hd x_2.ok/\(0=0/\True)/\EN x_2 x.c/\ ∀y_1:Unit,True->True/\((∃y_2:Unit,Hd ((4:Int)=4/\400<x.f.value.size)/\((4:Int)=4/\bY x.f.key/\bY x.f.value/\dD/\dP/\(7:Int)=3/\aeR x.f x_2.now)/\uj/\bK x.r.os=bK (ZRd.os (x_1.r.put x_1.k x_1.r.now))/\EN x.c x_2)\/ ∃y_2:Unit,Hd ((4:Int)=4->x.f.value.size<=400)/\((4:Int)=4/\bY x.f.key/\bY x.f.value/\dD/\dP/\(3:Int)=3/\x.c.now=x_2.now/\Jq x.f)/\
 uj/\bK (ZRd.os (x.r.put x.t x.r.now))=bK (ZRd.os (x_1.r.put x_1.k x_1.r.now))/\EN x.c x_2))/\ ∀y:Unit,Hd (x_1.r.has x_1.k≠(0:Int))->True/\((∃y_1:Unit,Hd ((4:Int)=4/\400<x.f.value.size)/\((4:Int)=4/\aeM x.f)/\uj/\bK x.r.os=bK x_1.r.os/\EM x.c)\/ ∃y_1:Unit,Hd ((4:Int)=4->x.f.value.size<=400)/\((4:Int)=4/\bY x.f.key/\bY x.f.value/\dD/\dP/\(3:Int)=7/\aeQ x)/\uj/\bK (ZRd.os (x.r.put x.t x.r.now))=bK x_1.r.os/\EM x.c))
theorem abI(x:ZEn):Rk x=wpF Tryz.prog auV tt (noA x) 200 6 19 ((ug 4).args x) (hO 3 ((ug 4).os x)) (fun v h'=>fA 3 x v h' (ug 4).outs):=by kernel_rfl
def Rl(x:ZEn):Prop:=
 ((0:Int)<=0/\(0:Int)<=6)/\ ∃x_1:Zh,Hd (x_1.r.ok/\x_1.k<x_1.r.t)/\(0=0/\(x_1.k:Int)=(x.t:Int)/\True)/\(bK x_1.r.os=bK x.r.os/\True)/\(∀y:Unit,Hd (x_1.r.has x_1.k=0)-> ∃x_2:fD,Hd x_2.ok/\(0=0/\True)/\EN x_2 x.c/\ ∀y_1:Unit,True->True/\((∃y_2:Unit,Hd ((5:Int)=4/\400<x.f.value.size)/\((5:Int)=5/\bY x.f.key/\bY x.f.value/\dD/\dP/\(7:Int)=1/\aeR x.f x_2.now)/\uj/\bK x.r.os=bK (ZRd.os (x_1.r.put x_1.k x_1.r.now))/\EN x.c x_2)\/ ∃y_2:Unit,Hd ((5:Int)=4->x.f.value.size<=400)/\((5:Int)=5/\bY x.f.key/\bY x.f.value/\dD/\dP/\(1:Int)=1/\x.c.now=x_2.now/\Jq x.f)/\uj/\bK (ZRd.os (x.r.put x.t x.r.now))=bK (ZRd.os (x_1.r.put x_1.k x_1.r.now))/\EN x.c x_2))/\ ∀y:Unit,Hd (x_1.r.has x_1.k≠(0:Int))->True/\((∃y_1:Unit,Hd ((5:Int)=4/\400<x.f.value.size)/\((5:Int)=5/\aeM x.f)/\uj/\bK x.r.os=bK x_1.r.os/\EM x.c)\/ ∃y_1:Unit,Hd ((5:Int)=4->x.f.value.size<=400)/\((5:Int)=5/\bY x.f.key/\bY x.f.value/\dD/\dP/\(1:Int)=7/\aeQ x)/\uj/\bK (ZRd.os (x.r.put x.t x.r.now))=bK x_1.r.os/\EM x.c)
theorem abJ(x:ZEn):Rl x=wpF Tryz.prog auV tt (noA x) 200 6 19 ((ug 5).args x) (hO 3 ((ug 5).os x)) (fun v h'=>fA 3 x v h' (ug 5).outs):=by kernel_rfl
def Jt(x:ZFi):Prop:=
 ((0:Int)<=1/\(0:Int)<=5)/\ ∃x_1:ZLn,Hd x_1.ok/\(0=0/\True)/\(bK x_1.os=bK x.l.os/\True)/\ ∀y:Unit,True->(AV.agg [AV.lit (Value.string x_1.head.key),AV.lit (Value.int .u64 x_1.head.id),AV.lit (Value.int .u64 x_1.head.ver),AV.lit (Value.int .i64 x_1.head.line),AV.lit (Value.int .i64 x_1.head.cls)]=AV.agg [AV.lit (Value.string x_1.head.key),AV.lit (Value.int .u64 x_1.head.id),AV.lit (Value.int .u64 x_1.head.ver),AV.lit (Value.int .i64 x_1.head.line),AV.lit (Value.int .i64 x_1.head.cls)]/\True)/\True/\cP (Bool.not (decide (x_1.n≠0))) (cP (decide (x.f.line>=(0:Int))) (Jl x.f.line) ((∃y_1:Unit,Hd (x.l.n=0)/\((5:Int)=5/\bY x.f.key/\bY x.f.value/\dD/\dP/\(6:Int)=6/\bM x.f.epoch/\dD/\false=false/\(0:Int)=0/\false=decide (x_1.n≠0)/\ByteArray.mk #[]=x_1.head.key/\0=x_1.head.id/\0=x_1.head.ver/\0=x_1.head.line/\0=x_1.head.cls/\bM x.f.line/\bM x.f.cls/\bM x.f.piece/\mZ x.f)/\Oq x.l x_1)\/ ∃y_1:Unit,Hd (x.l.n≠0)/\((5:Int)=5/\bY x.f.key/\bY x.f.value/\dD/\dP/\(2:Int)=6/\bM x.f.epoch/\dD/\false=false/\(0:Int)=0/\true=decide (x_1.n≠0)/\x.l.head.key=x_1.head.key/\x.l.head.id=x_1.head.id/\x.l.head.ver=x_1.head.ver/\x.l.head.line=x_1.head.line/\x.l.head.cls=x_1.head.cls/\bM x.f.line/\bM x.f.cls/\0=x.f.piece/\mZ x.f)/\Oq x.l x_1)) ((∃y_1:Unit,Hd (x.l.n=0)/\((5:Int)=5/\bY x.f.key/\bY x.f.value/\dD/\dP/\(6:Int)=2/\bM x.f.epoch/\dD/\false=false/\(0:Int)=0/\false=decide (x_1.n≠0)/\ByteArray.mk #[]=x_1.head.key/\0=x_1.head.id/\0=x_1.head.ver/\0=x_1.head.line/\0=x_1.head.cls/\
 bM x.f.line/\bM x.f.cls/\x.f.piece=0/\mZ x.f)/\Oq x.l x_1)\/ ∃y_1:Unit,Hd (x.l.n≠0)/\((5:Int)=5/\bY x.f.key/\bY x.f.value/\dD/\dP/\(2:Int)=2/\bM x.f.epoch/\dD/\false=false/\(0:Int)=0/\true=decide (x_1.n≠0)/\x.l.head.key=x_1.head.key/\x.l.head.id=x_1.head.id/\x.l.head.ver=x_1.head.ver/\x.l.head.line=x_1.head.line/\x.l.head.cls=x_1.head.cls/\bM x.f.line/\bM x.f.cls/\(0:Int)=0/\mZ x.f)/\Oq x.l x_1)
theorem Ov(x:ZFi):Jt x=wpF Tryz.prog aw6 tt (noA x) 200 6 19 (abG.args x) (hO 2 (abG.os x)) (fun v h'=>fA 2 x v h' abG.outs):=by kernel_rfl
def abK(x:ZTk):Prop:=
 ((0:Int)<=3/\(0:Int)<=3)/\(AV.ptr 0 0=AV.ptr 0 0/\True)/\ ∃x_1:mO,Hd x_1.p.ok/\(0=0/\x_1.c=ned (x.f.value.size:Int)/\True)/\vP x_1.p x.p/\(∀y:Unit,Hd (spn x_1.c=0)->True/\((∃y_1:Unit,aeS x/\((4:Int)=4/\bY x.f.key/\bY x.f.value/\dD/\dP/\(6:Int)=6/\bM x.f.epoch/\dD/\false=false/\(0:Int)=0/\x.f.had=x.f.had/\bY x.f.old.key/\bM x.f.old.id/\bM x.f.old.ver/\bM x.f.old.line/\bM x.f.old.cls/\bM x.f.line/\Js x/\bM x.f.piece/\dP/\(0:Int)=0/\dP/\(4:Int)=1/\Ou x.f)/\qB/\vP x.p x_1.p)\/ ∃y_1:Prod Nat Nat,Hd (x.p.takes (x.c (4:Int)) y_1.1 y_1.2)/\((4:Int)=4/\bY x.f.key/\bY x.f.value/\dD/\dP/\(4:Int)=6/\bM x.f.epoch/\dD/\false=false/\(0:Int)=0/\x.f.had=x.f.had/\bY x.f.old.key/\bM x.f.old.id/\bM x.f.old.ver/\bM x.f.old.line/\bM x.f.old.cls/\2+(y_1.1:Int)*8+(y_1.2:Int)*spn (x.c (4:Int))=x.f.line/\Js x/\0=x.f.piece/\dP/\(0:Int)=0/\dP/\x.f.code=1/\Ot x.f)/\qB/\bK (dI.os (x.p.take (x.c (4:Int)) y_1.1 y_1.2))=bK x_1.p.os/\True))/\(∀y:Unit,aeX x_1->True/\((∃y_1:Unit,aeS x/\((4:Int)=4/\bY x.f.key/\bY x.f.value/\dD/\dP/\(6:Int)=6/\bM x.f.epoch/\dD/\false=false/\(0:Int)=0/\x.f.had=x.f.had/\bY x.f.old.key/\bM x.f.old.id/\bM x.f.old.ver/\bM x.f.old.line/\bM x.f.old.cls/\bM x.f.line/\Js x/\bM x.f.piece/\dP/\(0:Int)=0/\dP/\(4:Int)=4/\Ou x.f)/\qB/\vP x.p x_1.p)\/ ∃y_1:Prod Nat Nat,Hd (x.p.takes (x.c (4:Int)) y_1.1 y_1.2)/\((4:Int)=4/\
 bY x.f.key/\bY x.f.value/\dD/\dP/\(4:Int)=6/\bM x.f.epoch/\dD/\false=false/\(0:Int)=0/\x.f.had=x.f.had/\bY x.f.old.key/\bM x.f.old.id/\bM x.f.old.ver/\bM x.f.old.line/\bM x.f.old.cls/\2+(y_1.1:Int)*8+(y_1.2:Int)*spn (x.c (4:Int))=x.f.line/\Js x/\0=x.f.piece/\dP/\(0:Int)=0/\dP/\x.f.code=4/\Ot x.f)/\qB/\bK (dI.os (x.p.take (x.c (4:Int)) y_1.1 y_1.2))=bK x_1.p.os/\True))/\ ∀y:Prod Nat Nat,Hd (spn x_1.c≠(0:Int)/\x_1.p.takes x_1.c y.1 y.2)->True/\((∃y_1:Unit,aeS x/\((4:Int)=4/\bY x.f.key/\bY x.f.value/\dD/\dP/\(6:Int)=4/\bM x.f.epoch/\dD/\false=false/\(0:Int)=0/\x.f.had=x.f.had/\bY x.f.old.key/\bM x.f.old.id/\bM x.f.old.ver/\bM x.f.old.line/\bM x.f.old.cls/\x.f.line=2+(y.1:Int)*8+(y.2:Int)*spn x_1.c/\Js x/\aeV x.f)/\qB/\bK x.p.os=bK (dI.os (x_1.p.take x_1.c y.1 y.2))/\True)\/ ∃y_1:Prod Nat Nat,Hd (x.p.takes (x.c (4:Int)) y_1.1 y_1.2)/\((4:Int)=4/\bY x.f.key/\bY x.f.value/\dD/\dP/\(4:Int)=4/\bM x.f.epoch/\dD/\false=false/\(0:Int)=0/\x.f.had=x.f.had/\bY x.f.old.key/\bM x.f.old.id/\bM x.f.old.ver/\bM x.f.old.line/\bM x.f.old.cls/\2+(y_1.1:Int)*8+(y_1.2:Int)*spn (x.c (4:Int))=2+(y.1:Int)*8+(y.2:Int)*spn x_1.c/\Js x/\(0:Int)=0/\mZ x.f)/\qB/\bK (dI.os (x.p.take (x.c (4:Int)) y_1.1 y_1.2))=bK (dI.os (x_1.p.take x_1.c y.1 y.2))/\True)
theorem aic(x:ZTk):abK x=wpF Tryz.prog auW tt (noA x) 200 6 19 ((FN 4).args x) (hO 2 ((FN 4).os x)) (fun v h'=>fA 2 x v h' (FN 4).outs):=by kernel_rfl
def abL(x:ZTk):Prop:=
 ((0:Int)<=3/\(0:Int)<=3)/\(AV.ptr 0 0=AV.ptr 0 0/\True)/\ ∃x_1:mO,Hd x_1.p.ok/\(0=0/\x_1.c=0/\True)/\vP x_1.p x.p/\(∀y:Unit,Hd (spn x_1.c=0)->True/\((∃y_1:Unit,aeT x/\((5:Int)=5/\bY x.f.key/\bY x.f.value/\dD/\dP/\(6:Int)=6/\bM x.f.epoch/\dD/\false=false/\(0:Int)=0/\x.f.had=x.f.had/\bY x.f.old.key/\bM x.f.old.id/\bM x.f.old.ver/\bM x.f.old.line/\bM x.f.old.cls/\bM x.f.line/\x.c (5:Int)=0/\bM x.f.piece/\dP/\(0:Int)=0/\dP/\(4:Int)=1/\Ou x.f)/\qB/\vP x.p x_1.p)\/ ∃y_1:Prod Nat Nat,Hd (x.p.takes (x.c (5:Int)) y_1.1 y_1.2)/\((5:Int)=5/\bY x.f.key/\bY x.f.value/\dD/\dP/\(4:Int)=6/\bM x.f.epoch/\dD/\false=false/\(0:Int)=0/\x.f.had=x.f.had/\bY x.f.old.key/\bM x.f.old.id/\bM x.f.old.ver/\bM x.f.old.line/\bM x.f.old.cls/\2+(y_1.1:Int)*8+(y_1.2:Int)*spn (x.c (5:Int))=x.f.line/\x.c (5:Int)=0/\0=x.f.piece/\dP/\(0:Int)=0/\dP/\x.f.code=1/\Ot x.f)/\qB/\bK (dI.os (x.p.take (x.c (5:Int)) y_1.1 y_1.2))=bK x_1.p.os/\True))/\(∀y:Unit,aeX x_1->True/\((∃y_1:Unit,aeT x/\((5:Int)=5/\bY x.f.key/\bY x.f.value/\dD/\dP/\(6:Int)=6/\bM x.f.epoch/\dD/\false=false/\(0:Int)=0/\x.f.had=x.f.had/\bY x.f.old.key/\bM x.f.old.id/\bM x.f.old.ver/\bM x.f.old.line/\bM x.f.old.cls/\bM x.f.line/\x.c (5:Int)=0/\bM x.f.piece/\dP/\(0:Int)=0/\dP/\(4:Int)=4/\Ou x.f)/\qB/\vP x.p x_1.p)\/ ∃y_1:Prod Nat Nat,Hd (x.p.takes (x.c (5:Int)) y_1.1 y_1.2)/\((5:Int)=5/\
 bY x.f.key/\bY x.f.value/\dD/\dP/\(4:Int)=6/\bM x.f.epoch/\dD/\false=false/\(0:Int)=0/\x.f.had=x.f.had/\bY x.f.old.key/\bM x.f.old.id/\bM x.f.old.ver/\bM x.f.old.line/\bM x.f.old.cls/\2+(y_1.1:Int)*8+(y_1.2:Int)*spn (x.c (5:Int))=x.f.line/\x.c (5:Int)=0/\0=x.f.piece/\dP/\(0:Int)=0/\dP/\x.f.code=4/\Ot x.f)/\qB/\bK (dI.os (x.p.take (x.c (5:Int)) y_1.1 y_1.2))=bK x_1.p.os/\True))/\ ∀y:Prod Nat Nat,Hd (spn x_1.c≠(0:Int)/\x_1.p.takes x_1.c y.1 y.2)->True/\((∃y_1:Unit,aeT x/\((5:Int)=5/\bY x.f.key/\bY x.f.value/\dD/\dP/\(6:Int)=4/\bM x.f.epoch/\dD/\false=false/\(0:Int)=0/\x.f.had=x.f.had/\bY x.f.old.key/\bM x.f.old.id/\bM x.f.old.ver/\bM x.f.old.line/\bM x.f.old.cls/\x.f.line=2+(y.1:Int)*8+(y.2:Int)*spn x_1.c/\x.c (5:Int)=0/\aeV x.f)/\qB/\bK x.p.os=bK (dI.os (x_1.p.take x_1.c y.1 y.2))/\True)\/ ∃y_1:Prod Nat Nat,Hd (x.p.takes (x.c (5:Int)) y_1.1 y_1.2)/\((5:Int)=5/\bY x.f.key/\bY x.f.value/\dD/\dP/\(4:Int)=4/\bM x.f.epoch/\dD/\false=false/\(0:Int)=0/\x.f.had=x.f.had/\bY x.f.old.key/\bM x.f.old.id/\bM x.f.old.ver/\bM x.f.old.line/\bM x.f.old.cls/\2+(y_1.1:Int)*8+(y_1.2:Int)*spn (x.c (5:Int))=2+(y.1:Int)*8+(y.2:Int)*spn x_1.c/\x.c (5:Int)=0/\(0:Int)=0/\mZ x.f)/\qB/\bK (dI.os (x.p.take (x.c (5:Int)) y_1.1 y_1.2))=bK (dI.os (x_1.p.take x_1.c y.1 y.2))/\True)
theorem aie(x:ZTk):abL x=wpF Tryz.prog auW tt (noA x) 200 6 19 ((FN 5).args x) (hO 2 ((FN 5).os x)) (fun v h'=>fA 2 x v h' (FN 5).outs):=by kernel_rfl
def Rn(x:ZLv):Prop:=
 ((0:Int)<=6/\(0:Int)<=0)/\ ∃x_1:Zh,Hd (x_1.r.ok/\x_1.k<x_1.r.t)/\(0=0/\(x_1.k:Int)=(x.t:Int)/\True)/\(bK x_1.r.os=bK x.r.os/\True)/\ ∀y:Unit,True->True/\ ∃y_1:Unit,True/\((4:Int)=4/\aeY x.f)/\aeW x x_1
theorem abM(x:ZLv):Rn x=wpF Tryz.prog auX tt (noA x) 200 6 19 ((uh 4).args x) (hO 2 ((uh 4).os x)) (fun v h'=>fA 2 x v h' (uh 4).outs):=by kernel_rfl
def Ro(x:ZLv):Prop:=
 ((0:Int)<=6/\(0:Int)<=0)/\ ∃x_1:Zh,Hd (x_1.r.ok/\x_1.k<x_1.r.t)/\(0=0/\(x_1.k:Int)=(x.t:Int)/\True)/\(bK x_1.r.os=bK x.r.os/\True)/\ ∀y:Unit,True->True/\ ∃y_1:Unit,True/\((5:Int)=5/\aeY x.f)/\aeW x x_1
theorem abN(x:ZLv):Ro x=wpF Tryz.prog auX tt (noA x) 200 6 19 ((uh 5).args x) (hO 2 ((uh 5).os x)) (fun v h'=>fA 2 x v h' (uh 5).outs):=by kernel_rfl
def Ju(x:ZWr):Prop:=
 ((0:Int)<=4/\(0:Int)<=2)/\ ∃x_1:Int,Hd (0<=x_1/\x_1<=3)/\(x_1=x.c/\True)/\True/\ ∀y:Unit,True-> ∃x_2:pW,EK x_2/\(0=0/\(x_2.k:Int)=(x.ln:Int)/\EL x_2)/\Oo x_2 x.d x_1/\ ∀y_1:Unit,True->I64 (1:Int)/\True/\I64 ((0:Int)+1)/\cP (BEq.beq (1:Int) (spn x.c)) ((∃y_2:Unit,vO x.c/\((4:Int)=4/\aeP x)/\nJ x x_2)\/ ∃y_2:Unit,Hd (1=spn x.c)/\((4:Int)=4/\Jm x)/\nJ x x_2) ((∃y_2:Unit,vO x.c/\((4:Int)=4/\aeN x)/\nJ x x_2)\/ ∃y_2:Unit,Hd (1=spn x.c)/\((4:Int)=4/\aeO x)/\nJ x x_2)
theorem XM(x:ZWr):Ju x=wpF Tryz.prog aqX tt (noA x) 200 6 19 ((mY 4).args x) (hO 3 ((mY 4).os x)) (fun v h'=>fA 3 x v h' (mY 4).outs):=by kernel_rfl
def Jv(x:ZWr):Prop:=
 ((0:Int)<=4/\(0:Int)<=2)/\ ∃x_1:Int,Hd (0<=x_1/\x_1<=3)/\(x_1=x.c/\True)/\True/\ ∀y:Unit,True-> ∃x_2:pW,EK x_2/\(0=0/\(x_2.k:Int)=(x.ln:Int)/\EL x_2)/\Oo x_2 x.d x_1/\ ∀y_1:Unit,True->I64 (1:Int)/\True/\I64 ((0:Int)+1)/\cP (BEq.beq (1:Int) (spn x.c)) ((∃y_2:Unit,vO x.c/\((5:Int)=5/\aeP x)/\nJ x x_2)\/ ∃y_2:Unit,Hd (1=spn x.c)/\((5:Int)=5/\Jm x)/\nJ x x_2) ((∃y_2:Unit,vO x.c/\((5:Int)=5/\aeN x)/\nJ x x_2)\/ ∃y_2:Unit,Hd (1=spn x.c)/\((5:Int)=5/\aeO x)/\nJ x x_2)
theorem XO(x:ZWr):Jv x=wpF Tryz.prog aqX tt (noA x) 200 6 19 ((mY 5).args x) (hO 3 ((mY 5).os x)) (fun v h'=>fA 3 x v h' (mY 5).outs):=by kernel_rfl
def Jw(x:ZWr):Prop:=
 ((0:Int)<=4/\(0:Int)<=2)/\cP (BEq.beq (x.p:Int) (0:Int)) (∃x_1:Int,Hd (0<=x_1/\x_1<=3)/\(x_1=x.c/\True)/\True/\ ∀y:Unit,True-> ∃x_2:pW,EK x_2/\(0=0/\(x_2.k:Int)=(x.ln:Int)/\EL x_2)/\Oo x_2 x.d x_1/\ ∀y_1:Unit,True->I64 ((x.p:Int)+1)/\True/\I64 ((x.p:Int)+1)/\cP (BEq.beq ((x.p:Int)+1) (spn x.c)) ((∃y_2:Unit,am5 x x_2)\/ ∃y_2:Unit,Hd ((x.p:Int)+1=spn x.c)/\((4:Int)=4/\Jm x)/\nJ x x_2) ((∃y_2:Unit,am6 x x_2)\/ ∃y_2:Unit,am4 x x_2)) (((0:Int)<=64/\(0:Int)<=0/\(0:Int)<=281474976710592/\(0:Int)<=4611686018427387839)/\((0:Int)<=0/\(0:Int)<=63)/\0<64/\I64 ((x.p:Int)-1)/\I64 (((x.p:Int)-1)*63)/\I64 (28+((x.p:Int)-1)*63)/\(0:Int)<=1/\(1<=64/\64<=64/\64<=64)/\0<=G5 (imax (28+((x.p:Int)-1)*63) (0:Int)) (x.f.value.size:Int)/\(Int.toNat (G5 (imax (28+((x.p:Int)-1)*63) (0:Int)) (x.f.value.size:Int))<=x.f.value.size/\x.f.value.size<=x.f.value.size/\x.f.value.size<=x.f.value.size)/\64<=64/\cP (Nat.ble (ByteArray.size (ByteArray.extract x.f.value (Int.toNat (G5 (imax (28+((x.p:Int)-1)*63) (0:Int)) (x.f.value.size:Int))) x.f.value.size)) 63) ((∀k:Nat,k<ByteArray.size (ByteArray.extract x.f.value (Int.toNat (G5 (imax (28+((x.p:Int)-1)*63) (0:Int)) (x.f.value.size:Int))) x.f.value.size)->ane x k)/\True/\I64 ((x.ln:Int)+(x.p:Int))/\ ∃x_1:pW,EK x_1/\(0=0/\(x_1.k:Int)=(x.ln:Int)+(x.p:Int)/\EL x_1)/\(lW x_1.d x.d/\(x_1.b.N=64/\
 ∀q:Nat,q<x_1.b.N->[Value.int .u8 (x_1.b.g q)]=Cs.eff (fun(p:Nat)=>cond (Nat.ble 1 p&&Nat.blt p (1+ByteArray.size (ByteArray.extract x.f.value (Int.toNat (G5 (imax (28+((x.p:Int)-1)*63) (0:Int)) (x.f.value.size:Int))) x.f.value.size))) [Value.int .u8 (gG (ByteArray.extract x.f.value (Int.toNat (G5 (imax (28+((x.p:Int)-1)*63) (0:Int)) (x.f.value.size:Int))) x.f.value.size) (p-1))] (Cs.eff (fun(x_2:Nat)=>[Value.int .u8 0]) [(0,[Value.int .u8 2])] p)) [] q)/\True)/\am7 x x_1) ((∀k:Nat,k<63->ane x k)/\True/\I64 ((x.ln:Int)+(x.p:Int))/\ ∃x_1:pW,EK x_1/\(0=0/\(x_1.k:Int)=(x.ln:Int)+(x.p:Int)/\EL x_1)/\(lW x_1.d x.d/\(x_1.b.N=64/\ ∀q:Nat,q<x_1.b.N->[Value.int .u8 (x_1.b.g q)]=Cs.eff (fun(p:Nat)=>cond (Nat.ble 1 p&&Nat.blt p 64) [Value.int .u8 (gG (ByteArray.extract x.f.value (Int.toNat (G5 (imax (28+((x.p:Int)-1)*63) (0:Int)) (x.f.value.size:Int))) x.f.value.size) (p-1))] (Cs.eff (fun(x_2:Nat)=>[Value.int .u8 0]) [(0,[Value.int .u8 2])] p)) [] q)/\True)/\am7 x x_1))
theorem XP(x:ZWr):Jw x=wpF Tryz.prog aqX tt (noA x) 200 6 19 (Dt.args x) (hO 3 (Dt.os x)) (fun v h'=>fA 3 x v h' Dt.outs):=by kernel_rfl
def abO(x:ZRe):Prop:=
 ((0:Int)<=2/\(0:Int)<=4)/\I64 ((x.ln:Int)+0)/\(AV.lit (Value.int .i64 0)=AV.lit (Value.int .i64 0)/\Jr x.ln/\True)/\ ∃x_1:Qu,Hd (x_1.d.ok/\x_1.k<x_1.d.n)/\(0=0/\(x_1.k:Int)=(x.ln:Int)+0/\True)/\(lW x_1.d x.d/\True)/\ ∀y:Unit,True->True/\64<=64/\(2*(0+64)+1000)*1<=281474976710656/\I64 (1:Int)/\(AV.lit (Value.int .i64 1)=AV.lit (Value.int .i64 1)/\True)/\cP (Bool.not (BEq.beq (1:Int) (spn x.b.cls))) ((∃y_1:Unit,vO x.b.cls/\((5:Int)=5/\bY x.f.key/\bY x.f.value/\dD/\dP/\(2:Int)=2/\bM x.f.epoch/\dD/\false=false/\(0:Int)=0/\true=true/\dD/\bM x.b.id/\bM x.b.ver/\jy x.ln/\bM x.b.cls/\bM x.f.line/\bM x.f.cls/\(1:Int)=1/\(0=0/\64=64)/\vM x.f)/\(0=0/\rH)/\nI/\lW x.d x_1.d/\(64=64/\ ∀q:Nat,q<64->[Value.int .u8 (x.b.enc q)]=[Value.int .u8 (x_1.d.b (x_1.k*193+(0+(q-0))))])/\True)\/(∃y_1:Unit,Jp x/\((5:Int)=5/\bY x.f.key/\bY x.f.value/\dD/\dP/\(3:Int)=2/\anf x)/\BD x.d x_1.d)\/ ∃y_1:Unit,Jo x/\((5:Int)=5/\bY x.f.key/\bY x.f.value/\dD/\dP/\(5:Int)=2/\anf x)/\BD x.d x_1.d) (∃x_2:ZDe,XL x_2/\((0=0/\64*x_2.b.dJ=64)/\True)/\aeU x_2 x_1/\ ∀y_1:Unit,True->cP (BEq.beq x_2.id x.b.id) (cP (BEq.beq x_2.ver x.b.ver) (cP (decide (x.f.line<0)) ((∃y_2:Unit,vO x.b.cls/\((5:Int)=5/\bY x.f.key/\bY x.f.value/\dD/\dP/\(2:Int)=3/\ang x x_2.value)/\Rj x.d x_1.d)\/(∃y_2:Unit,Jp x/\((5:Int)=5/\bY x.f.key/\bY x.f.value/\dD/\dP/\(3:Int)=3/\XK x x_2.value)/\
 BD x.d x_1.d)\/ ∃y_2:Unit,Jo x/\((5:Int)=5/\bY x.f.key/\bY x.f.value/\dD/\dP/\(5:Int)=3/\XK x x_2.value)/\BD x.d x_1.d) ((∃y_2:Unit,vO x.b.cls/\((5:Int)=5/\bY x.f.key/\bY x.f.value/\dD/\dP/\(2:Int)=5/\ang x x_2.value)/\Rj x.d x_1.d)\/(∃y_2:Unit,Jp x/\((5:Int)=5/\bY x.f.key/\bY x.f.value/\dD/\dP/\(3:Int)=5/\XK x x_2.value)/\BD x.d x_1.d)\/ ∃y_2:Unit,Jo x/\((5:Int)=5/\bY x.f.key/\bY x.f.value/\dD/\dP/\(5:Int)=5/\XK x x_2.value)/\BD x.d x_1.d)) (am9 x x_1.d)) (am9 x x_1.d))
theorem aif(x:ZRe):abO x=wpF Tryz.prog auY tt (noA x) 200 6 19 (Oi.args x) (hO 3 (Oi.os x)) (fun v h'=>fA 3 x v h' Oi.outs):=by kernel_rfl
def abP(x:ZRe):Prop:=
 0+64*x.p<=64*x.p/\cP (Nat.beq (64*x.p) 0) (((0:Int)<=2/\(0:Int)<=4)/\I64 ((x.ln:Int)+(x.p:Int))/\(Jr x.p/\Jr x.ln/\True)/\ ∃x_1:Qu,Hd (x_1.d.ok/\x_1.k<x_1.d.n)/\(0=0/\(x_1.k:Int)=(x.ln:Int)+(x.p:Int)/\True)/\(lW x_1.d x.d/\True)/\ ∀y:Unit,True->True/\64<=64/\(2*(0+64)+1000)*1<=281474976710656/\I64 ((x.p:Int)+1)/\abH x.p/\cP (Bool.not (BEq.beq ((x.p:Int)+1) (spn x.b.cls))) ((∃y_1:Unit,Ol x/\((5:Int)=5/\bY x.f.key/\bY x.f.value/\dD/\dP/\(2:Int)=2/\bM x.f.epoch/\dD/\false=false/\(0:Int)=0/\true=true/\dD/\bM x.b.id/\bM x.b.ver/\jy x.ln/\bM x.b.cls/\bM x.f.line/\bM x.f.cls/\yu x.p/\(0=0/\64*(x.p+1)=64)/\vM x.f)/\(0=0/\rH)/\nI/\lW x.d x_1.d/\XH x/\(64*(x.p+1)=64/\ ∀q:Nat,q<64*(x.p+1)->[Value.int .u8 (x.b.enc q)]=[Value.int .u8 (x_1.d.b (x_1.k*193+(0+(q-0))))])/\True)\/anb x x_1.d) (∃x_2:ZDe,XL x_2/\((0=0/\64*x_2.b.dJ=64)/\True)/\aeU x_2 x_1/\au0 x_2 x x_1.d)) ((2*(0+64*x.p)+1000)*1<=281474976710656/\((0:Int)<=2/\(0:Int)<=4)/\I64 ((x.ln:Int)+(x.p:Int))/\(Jr x.p/\Jr x.ln/\True)/\ ∃x_1:Qu,Hd (x_1.d.ok/\x_1.k<x_1.d.n)/\(0=0/\(x_1.k:Int)=(x.ln:Int)+(x.p:Int)/\True)/\(lW x_1.d x.d/\True)/\ ∀y:Unit,True->True/\0+64*x.p=0+64*x.p/\64<=64/\(∀k:Nat,k<64->(Nat.beq (List.length [Value.int .u8 (x_1.d.b (x_1.k*193+(0+k)))]) 1&&List.all [Value.int .u8 (x_1.d.b (x_1.k*193+(0+k)))] Value.oneCell')=true)/\(2*(0+64*x.p+64)+1000)*1<=281474976710656/\I64 ((x.p:Int)+1)/\abH x.p/\
 cP (Bool.not (BEq.beq ((x.p:Int)+1) (spn x.b.cls))) ((∃y_1:Unit,Ol x/\((5:Int)=5/\bY x.f.key/\bY x.f.value/\dD/\dP/\(2:Int)=2/\bM x.f.epoch/\dD/\false=false/\(0:Int)=0/\true=true/\dD/\bM x.b.id/\bM x.b.ver/\jy x.ln/\bM x.b.cls/\bM x.f.line/\bM x.f.cls/\yu x.p/\(0=0/\64*(x.p+1)=0+64*x.p+64)/\vM x.f)/\(0=0/\rH)/\nI/\lW x.d x_1.d/\XH x/\(64*(x.p+1)=0+64*x.p+64/\ ∀q:Nat,q<64*(x.p+1)->[Value.int .u8 (x.b.enc q)]=Cs.eff (fun(q_1:Nat)=>cond (Nat.blt q_1 (0+64*x.p)) [Value.int .u8 (x.b.enc (0+(q_1-0)))] [Value.int .u8 (x_1.d.b (x_1.k*193+(0+(q_1-(0+64*x.p)))))]) [] q)/\True)\/anb x x_1.d) (∃x_2:ZDe,XL x_2/\((0=0/\64*x_2.b.dJ=0+64*x.p+64)/\True)/\((64*x_2.b.dJ=0+64*x.p+64/\ ∀q:Nat,q<64*x_2.b.dJ->[Value.int .u8 (x_2.g q)]=Cs.eff (fun(q_1:Nat)=>cond (Nat.blt q_1 (0+64*x.p)) [Value.int .u8 (x.b.enc (0+(q_1-0)))] [Value.int .u8 (x_1.d.b (x_1.k*193+(0+(q_1-(0+64*x.p)))))]) [] q)/\True)/\au0 x_2 x x_1.d))
theorem aii(x:ZRe):abP x=wpF Tryz.prog auY tt (noA x) 200 6 19 (Oj.args x) (hO 4 (Oj.os x)) (fun v h'=>fA 4 x v h' Oj.outs):=by kernel_rfl
end Go.Proofs.YtenfleoejgjklaaGreat
end
