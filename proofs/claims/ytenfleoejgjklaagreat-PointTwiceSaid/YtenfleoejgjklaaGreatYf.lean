import Derived.Test.YtenfleoejgjklaaGreatYa
import Derived.Test.YtenfleoejgjklaaGreatYb
import Derived.Test.YtenfleoejgjklaaGreatYc
import Derived.Test.YtenfleoejgjklaaGreatYd
import Derived.Test.YtenfleoejgjklaaGreatYe
import Derived.KernelRfl
import Derived.Tactics
import Derived.Tactics2
import Derived.Defers
import Derived.Laws.Pointers
import Derived.Laws.LoneSync
import Derived.RegionTactic
import Derived.RegionCalls
import Derived.ChangeAlike
import Derived.Laws.Strings
set_option linter.unusedVariables false
set_option linter.unusedSimpArgs false
set_option linter.unnecessarySimpa false
section
namespace Go.Proofs.YtenfleoejgjklaaGreat
open Go SE
def uo(a:Bys)(b:afN):Prop:=(a.N=64*b.b.dK/\ ∀q:Nat,q<a.N->[Value.int .u8 (a.g q)]=[Value.int .u8 (b.g q)])/\True
def Eb(a:afN):Prop:= ∀k:Nat,k<64*a.b.dK->isByte [Value.int .u8 (a.g (0+k))]=true
def YS(a:ZBlk):Prop:=a.kind=0/\a.id=0/\a.ver=0/\a.epoch=0/\a.key=ByteArray.mk #[]/\a.value=ByteArray.mk #[]/\True
def PE(a:afN):Prop:=(64*a.b.dK=64*a.b.dK/\ ∀q:Nat,q<64*a.b.dK->[Value.int .u8 (a.g q)]=[Value.int .u8 (a.g q)])/\True
def yX(a:afN):Prop:=True/\((a.b.cls=0/\YS a.b)/\true=false/\True)/\PE a
def PG(a:ZBlk)(b:Nat):Prop:=isByte [Value.int .u8 (a.enc (0+b))]=true
def YT(a:ZBlk):Prop:= ∀k:Nat,k<64*a.dK->PG a k
def mP(a:Int)(b:D9):Prop:=a=vO (λ(k:Nat)=>b.b.g (b.b.q+k)) b.at_ b.w
def Ec(a:afN)(b:D9)(c:AA)(d:D9):Prop:=mP a.b.epoch b/\a.b.key=ByteArray.extract c.str 0 (Int.toNat (a.g 3))/\a.b.value=ByteArray.extract c.str (Int.toNat (a.g 3)) (Int.toNat (a.g 3+vO (λ(k:Nat)=>d.b.g (d.b.q+k)) d.at_ d.w))/\True
def xW(a:D9):Prop:=Hd (a.b.ok/\a.at_+a.w<=a.b.n/\1<=a.w/\a.w<=8)
def YU(a:ZBlk):Prop:=Hd (a.may/\a.key.size<1099511627776/\a.value.size<1099511627776)
def uq(a:ZBlk):Prop:=0+64*a.dK<=64*a.dK
def HY(a:Nat):Prop:=(a:Int)=8/\True
def YV(a:ZBlk)(b:AA)(c:afN)(d:D9):Prop:=a.key=ByteArray.extract b.str 0 (Int.toNat (c.g 3))/\a.value=ByteArray.extract b.str (Int.toNat (c.g 3)) (Int.toNat (c.g 3+vO (λ(k:Nat)=>d.b.g (d.b.q+k)) d.at_ d.w))/\True
def AB(a:Bys)(b:ZBlk):Prop:=a.q=0/\a.n=64*b.dK
def YW(a:D9)(b:ZBlk):Prop:=AB a.b b/\(a.at_:Int)=24/\HY a.w
def aoZ(a:afN)(b:D9)(c:AA)(d:D9):Prop:=True/\ ∃x_6:D9,xW x_6/\(AB x_6.b a.b/\(x_6.at_:Int)=16/\HY x_6.w)/\uo x_6.b a/\ ∀y_5:Unit,True->True/\ ∃x_7:D9,xW x_7/\YW x_7 a.b/\uo x_7.b a/\ ∀y_6:Unit,True->True/\True/\ ∃x_8:ZBlk,YU x_8/\((x_8.cls=a.g 1/\x_8.kind=a.g 2/\mP x_8.id b/\mP x_8.ver x_6/\mP x_8.epoch x_7/\YV x_8 c a d)/\True)/\True/\(∀y_7:Unit,Hd (x_8.cls=0)->64<=64/\(∀k:Nat,k<64->PG x_8 k)/\uq a.b/\Eb a/\cP (Bool.not (BEq.beq (ByteArray.toList (@ByteArray.mk (@List.toArray UInt8 (List.map (λ(k:Nat)=>UInt8.ofBitVec (@BitVec.ofNat 8 (Int.toNat (x_8.enc (0+k))))) (@List.range 64))))) (ByteArray.toList (@ByteArray.mk (@List.toArray UInt8 (List.map (λ(k:Nat)=>UInt8.ofBitVec (@BitVec.ofNat 8 (Int.toNat (a.g (0+k))))) (@List.range (64*a.b.dK)))))))) (∃y_8:Unit,yX a) (∃y_8:Unit,True/\((a.b.cls=a.g 1/\a.b.kind=a.g 2/\mP a.b.id b/\mP a.b.ver x_6/\Ec a x_7 c d)/\true=true/\True)/\PE a))/\ ∀y_7:Unit,Hd (x_8.cls≠(0:Int))->uq x_8/\YT x_8/\uq a.b/\Eb a/\cP (Bool.not (BEq.beq (ByteArray.toList (@ByteArray.mk (@List.toArray UInt8 (List.map (λ(k:Nat)=>UInt8.ofBitVec (@BitVec.ofNat 8 (Int.toNat (x_8.enc (0+k))))) (@List.range (64*x_8.dK)))))) (ByteArray.toList (@ByteArray.mk (@List.toArray UInt8 (List.map (λ(k:Nat)=>UInt8.ofBitVec (@BitVec.ofNat 8 (Int.toNat (a.g (0+k))))) (@List.range (64*a.b.dK)))))))) (∃y_8:Unit,yX a) (∃y_8:Unit,True/\((a.b.cls=a.g 1/\a.b.kind=a.g 2/\mP a.b.id b/\mP a.b.ver x_6/\Ec a x_7 c d)/\true=true/\True)/\PE a)
def afO(a:yV):Prop:=64=64/\ ∀q:Nat,q<64->[Value.int .u8 (a.b.jF (λ(k:Nat)=>a.d.g (a.d.q+k)) a.d.n q)]=[Value.int .u8 (a.b.jF (λ(k:Nat)=>a.d.g (a.d.q+k)) a.d.n q)]
def afP(a:ZBlk):Prop:=(a.cls=a.cls/\a.kind=a.kind/\a.id=a.id/\a.ver=a.ver/\a.epoch=a.epoch/\a.key=a.key/\a.value=a.value/\True)/\True
def aaY(a:yV)(b:Int)(c:ZBlk):Prop:=afO a/\(Int.toNat (cpc b)=Int.toNat (cpc b)/\ ∀q:Nat,q<Int.toNat (cpc b)->Cs.eff (λ(p:Nat)=>cond (Nat.ble 0 p&&Nat.blt p (0+ByteArray.size (c.key++c.value))) [Value.int .u8 (dY (c.key++c.value) (p-0))] [Value.int .u8 0]) [] q=Cs.eff (λ(p:Nat)=>cond (Nat.ble 0 p&&Nat.blt p (0+ByteArray.size (c.key++c.value))) [Value.int .u8 (dY (c.key++c.value) (p-0))] [Value.int .u8 0]) [] q)/\afP c
def aaZ(a:yV)(b:Int)(c:ZBlk):Prop:=afO a/\(Int.toNat (cpc b)=Int.toNat (cpc b)/\ ∀q:Nat,q<Int.toNat (cpc b)->Cs.eff (λ(p:Nat)=>cond (Nat.ble 0 p&&Nat.blt p (0+Int.toNat (cpc b))) [Value.int .u8 (dY (c.key++c.value) (p-0))] [Value.int .u8 0]) [] q=Cs.eff (λ(p:Nat)=>cond (Nat.ble 0 p&&Nat.blt p (0+Int.toNat (cpc b))) [Value.int .u8 (dY (c.key++c.value) (p-0))] [Value.int .u8 0]) [] q)/\afP c
def afQ(a:ZBlk)(b:Nat)(c:Nat):Prop:=(Nat.beq (List.length (Cs.eff (λ(p:Nat)=>cond (Nat.ble 0 p&&Nat.blt p (0+ByteArray.size (a.key++a.value))) [Value.int .u8 (dY (a.key++a.value) (p-0))] [Value.int .u8 0]) [] (28+63*b+c))) 1&&List.all (Cs.eff (λ(p:Nat)=>cond (Nat.ble 0 p&&Nat.blt p (0+ByteArray.size (a.key++a.value))) [Value.int .u8 (dY (a.key++a.value) (p-0))] [Value.int .u8 0]) [] (28+63*b+c)) Value.oneCell')=true
def afR(a:ZBlk)(b:Nat):Prop:=(Nat.beq (List.length (Cs.eff (λ(p:Nat)=>cond (Nat.ble 0 p&&Nat.blt p (0+ByteArray.size (a.key++a.value))) [Value.int .u8 (dY (a.key++a.value) (p-0))] [Value.int .u8 0]) [] (28+b))) 1&&List.all (Cs.eff (λ(p:Nat)=>cond (Nat.ble 0 p&&Nat.blt p (0+ByteArray.size (a.key++a.value))) [Value.int .u8 (dY (a.key++a.value) (p-0))] [Value.int .u8 0]) [] (28+b)) Value.oneCell')=true
def afS(a:Int)(b:ZBlk)(c:Nat)(d:Nat):Prop:=(Nat.beq (List.length (Cs.eff (λ(p:Nat)=>cond (Nat.ble 0 p&&Nat.blt p (0+Int.toNat (cpc a))) [Value.int .u8 (dY (b.key++b.value) (p-0))] [Value.int .u8 0]) [] (28+63*c+d))) 1&&List.all (Cs.eff (λ(p:Nat)=>cond (Nat.ble 0 p&&Nat.blt p (0+Int.toNat (cpc a))) [Value.int .u8 (dY (b.key++b.value) (p-0))] [Value.int .u8 0]) [] (28+63*c+d)) Value.oneCell')=true
def afT(a:Int)(b:ZBlk)(c:Nat):Prop:=(Nat.beq (List.length (Cs.eff (λ(p:Nat)=>cond (Nat.ble 0 p&&Nat.blt p (0+Int.toNat (cpc a))) [Value.int .u8 (dY (b.key++b.value) (p-0))] [Value.int .u8 0]) [] (28+c))) 1&&List.all (Cs.eff (λ(p:Nat)=>cond (Nat.ble 0 p&&Nat.blt p (0+Int.toNat (cpc a))) [Value.int .u8 (dY (b.key++b.value) (p-0))] [Value.int .u8 0]) [] (28+c)) Value.oneCell')=true
def afU(a:ZBlk)(b:yV):Prop:=(∃y_4:Unit,Hd (a.cls=0)/\((0=0/\64=64/\64=64)/\(0:Int)=0/\True)/\(64=64/\ ∀q:Nat,q<64->[Value.int .u8 (a.enc q)]=[Value.int .u8 (b.b.jF (λ(k:Nat)=>b.d.g (b.d.q+k)) b.d.n q)])/\True)\/ ∃y_4:Unit,Hd (a.cls≠(0:Int))/\(False/\(0:Int)=0/\True)/\False/\True
def PI:Prop:=(0:Int)<=64/\(0:Int)<=0/\(0:Int)<=281474976710592/\(0:Int)<=4611686018427387839
def afV(a:ZBlk)(b:Nat):Prop:=(∃y_4:Unit,Hd (a.cls=0)/\(False/\(0:Int)=0/\True)/\False/\True)\/ ∃y_4:Unit,Hd (a.cls≠(0:Int))/\((0=0/\64*a.dK=64*(b+1))/\(0:Int)=0/\True)/\(64*a.dK=64*(b+1)/\ ∀q:Nat,q<64*a.dK->[Value.int .u8 (a.enc q)]=[Value.int .u8 (a.enc q)])/\True
def PK(a:ZBlk)(b:Nat):Prop:=a.iD-28-63*b<=a.iD-28-63*b
def YX(a:ZBlk)(b:ZBlk):Prop:=a.cls=b.cls/\a.kind=b.kind/\a.id=b.id/\a.ver=b.ver/\a.epoch=b.epoch/\a.key=b.key/\a.value=b.value/\True
def Ed(a:Nat)(b:Nat):Prop:=64*(a+1)=64*(b+1)+64
def afW(a:Nat)(b:Nat)(c:ZBlk):Prop:=(a:Int)=(b:Int)+1/\(28+63*a=28+63*b+(c.iD-28-63*b)/\c.iD-28-63*a=c.iD-28-63*b-(c.iD-28-63*b)/\c.iD-28-63*a=c.iD-28-63*b-(c.iD-28-63*b))/\(0=0/\Ed a b)/\True
def PL(a:ZBlk)(b:Nat):Prop:=PK a b/\PK a b
def qH(a:Nat)(b:ZBlk):Prop:=Hd (1<=a/\a+1<=b.dK)
def H6(a:Bys):Prop:=(rowB a.g a.N=rowB a.g a.N/\true=true)/\True
def afX(a:Nat)(b:Nat)(c:ZBlk):Prop:=(a:Int)=(b:Int)+1/\(28+63*a=28+63*b+63/\c.iD-28-63*a=c.iD-28-63*b-63/\c.iD-28-63*a=c.iD-28-63*b-63)/\(0=0/\Ed a b)/\True
def afY(a:Nat)(b:ZBlk):Prop:=(a:Int)=1/\(28+63*a=28+(b.iD-28)/\b.iD-28-63*a=b.iD-28-(b.iD-28)/\b.iD-28-63*a=b.iD-28-(b.iD-28))/\(0=0/\64*(a+1)=128)/\True
def qI(a:ZBlk):Prop:=a.iD-28<=a.iD-28
def afZ(a:Nat)(b:ZBlk):Prop:=(a:Int)=1/\(28+63*a=91/\b.iD-28-63*a=b.iD-28-63/\b.iD-28-63*a=b.iD-28-63)/\(0=0/\64*(a+1)=128)/\True
def PN(a:Nat):Prop:=(2*(64*(a+1)+64)+1000)*1<=281474976710656
def Ee:Prop:=(0:Int)<=0/\(0:Int)<=63
def PS:Prop:=(2*(64+64)+1000)*1<=281474976710656
def af0(a:ZBlk)(b:Int):Prop:=(0:Int)=0/\(28=28/\a.iD-28=Int.toNat (cpc b)-28/\a.iD-28=Int.toNat (cpc b)-28)/\(0=0/\64=64/\64=64)/\True
def af2(a:ZBlk)(b:Nat):Prop:=(Nat.beq (List.length [Value.int .u8 (dY (a.key++a.value) b)]) 1&&List.all [Value.int .u8 (dY (a.key++a.value) b)] Value.oneCell')=true
def af4(a:Int):Prop:=28<=Int.toNat (cpc a)/\Int.toNat (cpc a)<=Int.toNat (cpc a)/\Int.toNat (cpc a)<=Int.toNat (cpc a)
def PU:Prop:=1<=64/\64<=64/\64<=64
def af5(a:Nat)(b:Nat):Prop:=28+63*a=28+63*b+(Int.toNat (((64+64*b:Nat):Int)+64)-Int.toNat (((64+64*b:Nat):Int)+1))
def YZ(a:Int):Prop:=0<=cpc a/\cpc a<=cpc a/\1*cpc a<=281474976710656/\cpc a<4611686018427387904
def ao0(x:ZBlk):Prop:=
 ∃x_1:ZBlk,Hd (x_1.key.size<1099511627776/\x_1.value.size<1099511627776)/\(YX x_1 x/\True)/\True/\ ∀y:Unit,True->cP (Bool.not x_1.Nl) ((∃y_1:Unit,Hd (x.cls=0)/\(False/\(0:Int)=3/\True)/\False/\True)\/ ∃y_1:Unit,Hd (x.cls≠(0:Int))/\(False/\(0:Int)=3/\True)/\False/\True) (∃x_2:Int,True/\(x_2=x.cls/\True)/\True/\ ∀y_1:Unit,True->YZ x_2/\((x.key.size+x.value.size:Nat):Int)<=9223372036854775807/\0+Int.toNat (cpc x_2)<=Int.toNat (cpc x_2)/\cP (Nat.ble (ByteArray.size (x.key++x.value)) (Int.toNat (cpc x_2))) ((∀k:Nat,k<ByteArray.size (x.key++x.value)->af2 x k)/\ ∃x_3:yV,Hd x_3.ok/\(YX x_3.b x/\(x_3.d.q=0/\x_3.d.n=Int.toNat (cpc x_2))/\True)/\((x_3.d.N=Int.toNat (cpc x_2)/\ ∀q:Nat,q<x_3.d.N->[Value.int .u8 (x_3.d.g q)]=Cs.eff (λ(p:Nat)=>cond (Nat.ble 0 p&&Nat.blt p (0+ByteArray.size (x.key++x.value))) [Value.int .u8 (dY (x.key++x.value) (p-0))] [Value.int .u8 0]) [] q)/\True)/\ ∀y_2:Unit,True->(0:Int)<=28/\af4 x_2/\ ∃x_4:Int,True/\(x_4=x.cls/\True)/\True/\ ∀y_3:Unit,True->I64 (spn x_4-1)/\(∃s:Unit,Hd True/\True/\af0 x x_2/\aaY x_3 x_2 x)/\(∀s:Unit,Hd True->cP (decide (0<spn x_4-1)) (PI/\Ee/\0<64/\(0:Int)<=1/\PU/\64<=64/\cP (Nat.ble (x.iD-28) 63) (28+(x.iD-28)<=Int.toNat (cpc x_2)/\(∀k:Nat,k<x.iD-28->afR x k)/\0<=((x.iD-28:Nat):Int)/\(qI x/\qI x/\qI x)/\64<=64/\64<=64/\PS/\I64 (1:Int)/\ ∃s_1:Nat,qH s_1 x/\x.dK-s_1<x.dK+1/\afY s_1 x/\(64*(s_1+1)=128/\
 ∀q:Nat,q<64*(s_1+1)->[Value.int .u8 (x.enc q)]=Cs.eff (λ(q_1:Nat)=>cond (Nat.blt q_1 64) [Value.int .u8 (x_3.b.jF (λ(k:Nat)=>x_3.d.g (x_3.d.q+k)) x_3.d.n (0+q_1))] (Cs.eff (λ(p:Nat)=>cond (Nat.ble 1 p&&Nat.blt p (1+(x.iD-28))) (Cs.eff (λ(p_1:Nat)=>cond (Nat.ble 0 p_1&&Nat.blt p_1 (0+ByteArray.size (x.key++x.value))) [Value.int .u8 (dY (x.key++x.value) (p_1-0))] [Value.int .u8 0]) [] (28+(p-1))) (Cs.eff (λ(x_5:Nat)=>[Value.int .u8 0]) [(0,[Value.int .u8 2])] p)) [] (0+(q_1-64)))) [] q)/\aaY x_3 x_2 x) (91<=Int.toNat (cpc x_2)/\(∀k:Nat,k<63->afR x k)/\0<=((63:Nat):Int)/\(63<=x.iD-28/\qI x/\qI x)/\64<=64/\64<=64/\PS/\I64 (1:Int)/\ ∃s_1:Nat,qH s_1 x/\x.dK-s_1<x.dK+1/\afZ s_1 x/\(64*(s_1+1)=128/\ ∀q:Nat,q<64*(s_1+1)->[Value.int .u8 (x.enc q)]=Cs.eff (λ(q_1:Nat)=>cond (Nat.blt q_1 64) [Value.int .u8 (x_3.b.jF (λ(k:Nat)=>x_3.d.g (x_3.d.q+k)) x_3.d.n (0+q_1))] (Cs.eff (λ(p:Nat)=>cond (Nat.ble 1 p&&Nat.blt p 64) (Cs.eff (λ(p_1:Nat)=>cond (Nat.ble 0 p_1&&Nat.blt p_1 (0+ByteArray.size (x.key++x.value))) [Value.int .u8 (dY (x.key++x.value) (p_1-0))] [Value.int .u8 0]) [] (28+(p-1))) (Cs.eff (λ(x_5:Nat)=>[Value.int .u8 0]) [(0,[Value.int .u8 2])] p)) [] (0+(q_1-64)))) [] q)/\aaY x_3 x_2 x)) (afU x x_3))/\(∀s:Nat,qH s x->cP (decide ((s:Int)<spn x_4-1)) (PI/\Ee/\0<64/\(0:Int)<=1/\PU/\64<=64/\cP (Nat.ble (x.iD-28-63*s) 63) (28+63*s+(x.iD-28-63*s)<=Int.toNat (cpc x_2)/\(∀k:Nat,k<x.iD-28-63*s->afQ x s k)/\0<=((x.iD-28-63*s:Nat):Int)/\(PK x s/\
 PL x s)/\64*(s+1)=64*(s+1)/\64<=64/\(∀k:Nat,k<64->(Nat.beq (List.length (Cs.eff (λ(p:Nat)=>cond (Nat.ble 1 p&&Nat.blt p (1+(x.iD-28-63*s))) (Cs.eff (λ(p_1:Nat)=>cond (Nat.ble 0 p_1&&Nat.blt p_1 (0+ByteArray.size (x.key++x.value))) [Value.int .u8 (dY (x.key++x.value) (p_1-0))] [Value.int .u8 0]) [] (28+63*s+(p-1))) (Cs.eff (λ(x_5:Nat)=>[Value.int .u8 0]) [(0,[Value.int .u8 2])] p)) [] (0+k))) 1&&List.all (Cs.eff (λ(p:Nat)=>cond (Nat.ble 1 p&&Nat.blt p (1+(x.iD-28-63*s))) (Cs.eff (λ(p_1:Nat)=>cond (Nat.ble 0 p_1&&Nat.blt p_1 (0+ByteArray.size (x.key++x.value))) [Value.int .u8 (dY (x.key++x.value) (p_1-0))] [Value.int .u8 0]) [] (28+63*s+(p-1))) (Cs.eff (λ(x_5:Nat)=>[Value.int .u8 0]) [(0,[Value.int .u8 2])] p)) [] (0+k)) Value.oneCell')=true)/\PN s/\I64 ((s:Int)+1)/\ ∃s_1:Nat,qH s_1 x/\x.dK-s_1<x.dK-s/\afW s_1 s x/\(Ed s_1 s/\ ∀q:Nat,q<64*(s_1+1)->[Value.int .u8 (x.enc q)]=Cs.eff (λ(q_1:Nat)=>cond (Nat.blt q_1 (64*(s+1))) [Value.int .u8 (x.enc q_1)] (Cs.eff (λ(p:Nat)=>cond (Nat.ble 1 p&&Nat.blt p (1+(x.iD-28-63*s))) (Cs.eff (λ(p_1:Nat)=>cond (Nat.ble 0 p_1&&Nat.blt p_1 (0+ByteArray.size (x.key++x.value))) [Value.int .u8 (dY (x.key++x.value) (p_1-0))] [Value.int .u8 0]) [] (28+63*s+(p-1))) (Cs.eff (λ(x_5:Nat)=>[Value.int .u8 0]) [(0,[Value.int .u8 2])] p)) [] (0+(q_1-64*(s+1))))) [] q)/\aaY x_3 x_2 x) (28+63*s+63<=Int.toNat (cpc x_2)/\(∀k:Nat,k<63->afQ x s k)/\0<=((63:Nat):Int)/\(63<=x.iD-28-63*s/\PL x s)/\64*(s+1)=64*(s+1)/\64<=64/\
 (∀k:Nat,k<64->(Nat.beq (List.length (Cs.eff (λ(p:Nat)=>cond (Nat.ble 1 p&&Nat.blt p 64) (Cs.eff (λ(p_1:Nat)=>cond (Nat.ble 0 p_1&&Nat.blt p_1 (0+ByteArray.size (x.key++x.value))) [Value.int .u8 (dY (x.key++x.value) (p_1-0))] [Value.int .u8 0]) [] (28+63*s+(p-1))) (Cs.eff (λ(x_5:Nat)=>[Value.int .u8 0]) [(0,[Value.int .u8 2])] p)) [] (0+k))) 1&&List.all (Cs.eff (λ(p:Nat)=>cond (Nat.ble 1 p&&Nat.blt p 64) (Cs.eff (λ(p_1:Nat)=>cond (Nat.ble 0 p_1&&Nat.blt p_1 (0+ByteArray.size (x.key++x.value))) [Value.int .u8 (dY (x.key++x.value) (p_1-0))] [Value.int .u8 0]) [] (28+63*s+(p-1))) (Cs.eff (λ(x_5:Nat)=>[Value.int .u8 0]) [(0,[Value.int .u8 2])] p)) [] (0+k)) Value.oneCell')=true)/\PN s/\I64 ((s:Int)+1)/\ ∃s_1:Nat,qH s_1 x/\x.dK-s_1<x.dK-s/\afX s_1 s x/\(Ed s_1 s/\ ∀q:Nat,q<64*(s_1+1)->[Value.int .u8 (x.enc q)]=Cs.eff (λ(q_1:Nat)=>cond (Nat.blt q_1 (64*(s+1))) [Value.int .u8 (x.enc q_1)] (Cs.eff (λ(p:Nat)=>cond (Nat.ble 1 p&&Nat.blt p 64) (Cs.eff (λ(p_1:Nat)=>cond (Nat.ble 0 p_1&&Nat.blt p_1 (0+ByteArray.size (x.key++x.value))) [Value.int .u8 (dY (x.key++x.value) (p_1-0))] [Value.int .u8 0]) [] (28+63*s+(p-1))) (Cs.eff (λ(x_5:Nat)=>[Value.int .u8 0]) [(0,[Value.int .u8 2])] p)) [] (0+(q_1-64*(s+1))))) [] q)/\aaY x_3 x_2 x)) (afV x s))/\True) ((∀k:Nat,k<Int.toNat (cpc x_2)->af2 x k)/\ ∃x_3:yV,Hd x_3.ok/\(YX x_3.b x/\(x_3.d.q=0/\x_3.d.n=Int.toNat (cpc x_2))/\True)/\((x_3.d.N=Int.toNat (cpc x_2)/\
 ∀q:Nat,q<x_3.d.N->[Value.int .u8 (x_3.d.g q)]=Cs.eff (λ(p:Nat)=>cond (Nat.ble 0 p&&Nat.blt p (0+Int.toNat (cpc x_2))) [Value.int .u8 (dY (x.key++x.value) (p-0))] [Value.int .u8 0]) [] q)/\True)/\ ∀y_2:Unit,True->(0:Int)<=28/\af4 x_2/\ ∃x_4:Int,True/\(x_4=x.cls/\True)/\True/\ ∀y_3:Unit,True->I64 (spn x_4-1)/\(∃s:Unit,Hd True/\True/\af0 x x_2/\aaZ x_3 x_2 x)/\(∀s:Unit,Hd True->cP (decide (0<spn x_4-1)) (PI/\Ee/\0<64/\(0:Int)<=1/\PU/\64<=64/\cP (Nat.ble (x.iD-28) 63) (28+(x.iD-28)<=Int.toNat (cpc x_2)/\(∀k:Nat,k<x.iD-28->afT x_2 x k)/\0<=((x.iD-28:Nat):Int)/\(qI x/\qI x/\qI x)/\64<=64/\64<=64/\PS/\I64 (1:Int)/\ ∃s_1:Nat,qH s_1 x/\x.dK-s_1<x.dK+1/\afY s_1 x/\(64*(s_1+1)=128/\ ∀q:Nat,q<64*(s_1+1)->[Value.int .u8 (x.enc q)]=Cs.eff (λ(q_1:Nat)=>cond (Nat.blt q_1 64) [Value.int .u8 (x_3.b.jF (λ(k:Nat)=>x_3.d.g (x_3.d.q+k)) x_3.d.n (0+q_1))] (Cs.eff (λ(p:Nat)=>cond (Nat.ble 1 p&&Nat.blt p (1+(x.iD-28))) (Cs.eff (λ(p_1:Nat)=>cond (Nat.ble 0 p_1&&Nat.blt p_1 (0+Int.toNat (cpc x_2))) [Value.int .u8 (dY (x.key++x.value) (p_1-0))] [Value.int .u8 0]) [] (28+(p-1))) (Cs.eff (λ(x_5:Nat)=>[Value.int .u8 0]) [(0,[Value.int .u8 2])] p)) [] (0+(q_1-64)))) [] q)/\aaZ x_3 x_2 x) (91<=Int.toNat (cpc x_2)/\(∀k:Nat,k<63->afT x_2 x k)/\0<=((63:Nat):Int)/\(63<=x.iD-28/\qI x/\qI x)/\64<=64/\64<=64/\PS/\I64 (1:Int)/\ ∃s_1:Nat,qH s_1 x/\x.dK-s_1<x.dK+1/\afZ s_1 x/\(64*(s_1+1)=128/\
 ∀q:Nat,q<64*(s_1+1)->[Value.int .u8 (x.enc q)]=Cs.eff (λ(q_1:Nat)=>cond (Nat.blt q_1 64) [Value.int .u8 (x_3.b.jF (λ(k:Nat)=>x_3.d.g (x_3.d.q+k)) x_3.d.n (0+q_1))] (Cs.eff (λ(p:Nat)=>cond (Nat.ble 1 p&&Nat.blt p 64) (Cs.eff (λ(p_1:Nat)=>cond (Nat.ble 0 p_1&&Nat.blt p_1 (0+Int.toNat (cpc x_2))) [Value.int .u8 (dY (x.key++x.value) (p_1-0))] [Value.int .u8 0]) [] (28+(p-1))) (Cs.eff (λ(x_5:Nat)=>[Value.int .u8 0]) [(0,[Value.int .u8 2])] p)) [] (0+(q_1-64)))) [] q)/\aaZ x_3 x_2 x)) (afU x x_3))/\(∀s:Nat,qH s x->cP (decide ((s:Int)<spn x_4-1)) (PI/\Ee/\0<64/\(0:Int)<=1/\PU/\64<=64/\cP (Nat.ble (x.iD-28-63*s) 63) (28+63*s+(x.iD-28-63*s)<=Int.toNat (cpc x_2)/\(∀k:Nat,k<x.iD-28-63*s->afS x_2 x s k)/\0<=((x.iD-28-63*s:Nat):Int)/\(PK x s/\PL x s)/\64*(s+1)=64*(s+1)/\64<=64/\(∀k:Nat,k<64->(Nat.beq (List.length (Cs.eff (λ(p:Nat)=>cond (Nat.ble 1 p&&Nat.blt p (1+(x.iD-28-63*s))) (Cs.eff (λ(p_1:Nat)=>cond (Nat.ble 0 p_1&&Nat.blt p_1 (0+Int.toNat (cpc x_2))) [Value.int .u8 (dY (x.key++x.value) (p_1-0))] [Value.int .u8 0]) [] (28+63*s+(p-1))) (Cs.eff (λ(x_5:Nat)=>[Value.int .u8 0]) [(0,[Value.int .u8 2])] p)) [] (0+k))) 1&&List.all (Cs.eff (λ(p:Nat)=>cond (Nat.ble 1 p&&Nat.blt p (1+(x.iD-28-63*s))) (Cs.eff (λ(p_1:Nat)=>cond (Nat.ble 0 p_1&&Nat.blt p_1 (0+Int.toNat (cpc x_2))) [Value.int .u8 (dY (x.key++x.value) (p_1-0))] [Value.int .u8 0]) [] (28+63*s+(p-1))) (Cs.eff (λ(x_5:Nat)=>[Value.int .u8 0]) [(0,[Value.int .u8 2])] p)) [] (0+k)) Value.oneCell')=true)/\
 PN s/\I64 ((s:Int)+1)/\ ∃s_1:Nat,qH s_1 x/\x.dK-s_1<x.dK-s/\afW s_1 s x/\(Ed s_1 s/\ ∀q:Nat,q<64*(s_1+1)->[Value.int .u8 (x.enc q)]=Cs.eff (λ(q_1:Nat)=>cond (Nat.blt q_1 (64*(s+1))) [Value.int .u8 (x.enc q_1)] (Cs.eff (λ(p:Nat)=>cond (Nat.ble 1 p&&Nat.blt p (1+(x.iD-28-63*s))) (Cs.eff (λ(p_1:Nat)=>cond (Nat.ble 0 p_1&&Nat.blt p_1 (0+Int.toNat (cpc x_2))) [Value.int .u8 (dY (x.key++x.value) (p_1-0))] [Value.int .u8 0]) [] (28+63*s+(p-1))) (Cs.eff (λ(x_5:Nat)=>[Value.int .u8 0]) [(0,[Value.int .u8 2])] p)) [] (0+(q_1-64*(s+1))))) [] q)/\aaZ x_3 x_2 x) (28+63*s+63<=Int.toNat (cpc x_2)/\(∀k:Nat,k<63->afS x_2 x s k)/\0<=((63:Nat):Int)/\(63<=x.iD-28-63*s/\PL x s)/\64*(s+1)=64*(s+1)/\64<=64/\(∀k:Nat,k<64->(Nat.beq (List.length (Cs.eff (λ(p:Nat)=>cond (Nat.ble 1 p&&Nat.blt p 64) (Cs.eff (λ(p_1:Nat)=>cond (Nat.ble 0 p_1&&Nat.blt p_1 (0+Int.toNat (cpc x_2))) [Value.int .u8 (dY (x.key++x.value) (p_1-0))] [Value.int .u8 0]) [] (28+63*s+(p-1))) (Cs.eff (λ(x_5:Nat)=>[Value.int .u8 0]) [(0,[Value.int .u8 2])] p)) [] (0+k))) 1&&List.all (Cs.eff (λ(p:Nat)=>cond (Nat.ble 1 p&&Nat.blt p 64) (Cs.eff (λ(p_1:Nat)=>cond (Nat.ble 0 p_1&&Nat.blt p_1 (0+Int.toNat (cpc x_2))) [Value.int .u8 (dY (x.key++x.value) (p_1-0))] [Value.int .u8 0]) [] (28+63*s+(p-1))) (Cs.eff (λ(x_5:Nat)=>[Value.int .u8 0]) [(0,[Value.int .u8 2])] p)) [] (0+k)) Value.oneCell')=true)/\PN s/\I64 ((s:Int)+1)/\ ∃s_1:Nat,qH s_1 x/\x.dK-s_1<x.dK-s/\afX s_1 s x/\(Ed s_1 s/\
 ∀q:Nat,q<64*(s_1+1)->[Value.int .u8 (x.enc q)]=Cs.eff (λ(q_1:Nat)=>cond (Nat.blt q_1 (64*(s+1))) [Value.int .u8 (x.enc q_1)] (Cs.eff (λ(p:Nat)=>cond (Nat.ble 1 p&&Nat.blt p 64) (Cs.eff (λ(p_1:Nat)=>cond (Nat.ble 0 p_1&&Nat.blt p_1 (0+Int.toNat (cpc x_2))) [Value.int .u8 (dY (x.key++x.value) (p_1-0))] [Value.int .u8 0]) [] (28+63*s+(p-1))) (Cs.eff (λ(x_5:Nat)=>[Value.int .u8 0]) [(0,[Value.int .u8 2])] p)) [] (0+(q_1-64*(s+1))))) [] q)/\aaZ x_3 x_2 x)) (afV x s))/\True))
theorem ako(x:ZBlk):ao0 x=wpF Tryz.prog aoY tt (ari x) 200 5 180 (amU.args x) (hO amU.k (amU.os x)) (λv h'=>eX amU.k x v h' amU.outs):=by kernel_rfl
def UG(x:Int):Prop:=
 ∃x_1:Int,True/\(x_1=x/\True)/\True/\ ∀y:Unit,True->cP (BEq.beq (spn x_1) (0:Int)) (∃y_1:Unit,True/\False/\False/\True) (∃x_2:Int,True/\(x_2=x/\True)/\True/\ ∀y_1:Unit,True->YZ x_2/\ ∃x_3:yV,Hd x_3.ok/\((x_3.b.cls=x/\YS x_3.b)/\(x_3.d.q=0/\x_3.d.n=Int.toNat (cpc x_2))/\True)/\((x_3.d.N=Int.toNat (cpc x_2)/\ ∀q:Nat,q<x_3.d.N->[Value.int .u8 (x_3.d.g q)]=[Value.int .u8 0])/\True)/\ ∀y_2:Unit,True-> ∃y_3:Unit,True/\(0=0/\64=64/\64=64)/\(64=64/\ ∀q:Nat,q<64->[Value.int .u8 (ZBlk.jF (ZBlk.mk x (0:Int) (0:Int) (0:Int) (0:Int) (ByteArray.mk #[]) (ByteArray.mk #[])) (λ(x_4:Nat)=>(0:Int)) (Int.toNat (cpc x)) q)]=[Value.int .u8 (x_3.b.jF (λ(k:Nat)=>x_3.d.g (x_3.d.q+k)) x_3.d.n q)])/\True)
theorem aa0(x:Int):UG x=wpF Tryz.prog aoY tt (noA x) 200 5 63 (Ea.args x) (hO Ea.k (Ea.os x)) (λv h'=>eX Ea.k x v h' Ea.outs):=by kernel_rfl
def af6(x:AA):Prop:=
 (0:Int)<=64/\(0:Int)<=36/\(36<=64/\64<=x.b.n/\x.b.n<=x.b.n)/\x.b.q+36+28<=x.b.N/\(2*(0+28)+1000)*1<=281474976710656/\(∃s:Unit,Hd True/\True/\((64:Int)=64/\(0=0/\28=0+28)/\True)/\(28=28/\ ∀q:Nat,q<28->[Value.int .u8 (x.at_ q)]=[Value.int .u8 (x.b.g (x.b.q+36+(q-0)))])/\True/\H6 x.b)/\(∀s:Unit,Hd True->cP (decide (64<(x.b.n:Int))) (I64 (65:Int)/\I64 (128:Int)/\(0:Int)<=128/\(0:Int)<=65/\(65<=128/\128<=x.b.n/\x.b.n<=x.b.n)/\28=28/\x.b.q+65+63<=x.b.N/\(∀k:Nat,k<63->(Nat.beq (List.length [Value.int .u8 (x.b.g (x.b.q+65+k))]) 1&&List.all [Value.int .u8 (x.b.g (x.b.q+65+k))] Value.oneCell')=true)/\(2*(28+63)+1000)*1<=281474976710656/\I64 (128:Int)/\ ∃s_1:Nat,Hd (1<=s_1/\s_1+1<=x.s)/\x.s-s_1<x.s+1/\(((64+64*s_1:Nat):Int)=128/\(0=0/\28+63*s_1=91)/\True)/\(28+63*s_1=91/\ ∀q:Nat,q<28+63*s_1->[Value.int .u8 (x.at_ q)]=Cs.eff (λ(q_1:Nat)=>cond (Nat.blt q_1 28) [Value.int .u8 (x.at_ q_1)] [Value.int .u8 (x.b.g (x.b.q+65+(q_1-28)))]) [] q)/\True/\H6 x.b) (28<=28/\(∀k:Nat,k<28->isByte [Value.int .u8 (x.at_ (0+k))]=true)/\ ∃y:Unit,True/\x.str= @ByteArray.mk (@List.toArray UInt8 (List.map (λ(k:Nat)=>UInt8.ofBitVec (@BitVec.ofNat 8 (Int.toNat (x.at_ (0+k))))) (@List.range 28)))/\H6 x.b))/\(∀s:Nat,Hd (1<=s/\s+1<=x.s)->cP (decide (((64+64*s:Nat):Int)<(x.b.n:Int))) (I64 (((64+64*s:Nat):Int)+1)/\I64 (((64+64*s:Nat):Int)+64)/\0<=((64+64*s:Nat):Int)+64/\0<=((64+64*s:Nat):Int)+1/\(Int.toNat (((64+64*s:Nat):Int)+1)<=Int.toNat (((64+64*s:Nat):Int)+64)/\
 Int.toNat (((64+64*s:Nat):Int)+64)<=x.b.n/\x.b.n<=x.b.n)/\28+63*s=28+63*s/\x.b.q+Int.toNat (((64+64*s:Nat):Int)+1)+(Int.toNat (((64+64*s:Nat):Int)+64)-Int.toNat (((64+64*s:Nat):Int)+1))<=x.b.N/\(∀k:Nat,k<Int.toNat (((64+64*s:Nat):Int)+64)-Int.toNat (((64+64*s:Nat):Int)+1)->(Nat.beq (List.length [Value.int .u8 (x.b.g (x.b.q+Int.toNat (((64+64*s:Nat):Int)+1)+k))]) 1&&List.all [Value.int .u8 (x.b.g (x.b.q+Int.toNat (((64+64*s:Nat):Int)+1)+k))] Value.oneCell')=true)/\(2*(28+63*s+(Int.toNat (((64+64*s:Nat):Int)+64)-Int.toNat (((64+64*s:Nat):Int)+1)))+1000)*1<=281474976710656/\I64 (((64+64*s:Nat):Int)+64)/\ ∃s_1:Nat,Hd (1<=s_1/\s_1+1<=x.s)/\x.s-s_1<x.s-s/\(((64+64*s_1:Nat):Int)=((64+64*s:Nat):Int)+64/\(0=0/\af5 s_1 s)/\True)/\(af5 s_1 s/\ ∀q:Nat,q<28+63*s_1->[Value.int .u8 (x.at_ q)]=Cs.eff (λ(q_1:Nat)=>cond (Nat.blt q_1 (28+63*s)) [Value.int .u8 (x.at_ q_1)] [Value.int .u8 (x.b.g (x.b.q+Int.toNat (((64+64*s:Nat):Int)+1)+(q_1-(28+63*s))))]) [] q)/\True/\H6 x.b) (0+(28+63*s)<=28+63*s/\(∀k:Nat,k<28+63*s->isByte [Value.int .u8 (x.at_ (0+k))]=true)/\ ∃y:Unit,True/\x.str= @ByteArray.mk (@List.toArray UInt8 (List.map (λ(k:Nat)=>UInt8.ofBitVec (@BitVec.ofNat 8 (Int.toNat (x.at_ (0+k))))) (@List.range (28+63*s))))/\H6 x.b))/\True
theorem af7(x:AA):af6 x=wpF Tryz.prog [] tt (amV x) 200 5 179 (UF.args x) (hO UF.k (UF.os x)) (λv h'=>eX UF.k x v h' UF.outs):=by kernel_rfl
def ao1(x:afN):Prop:=
 cP (decide (((64*x.b.dK:Nat):Int)<64)) (∃y:Unit,yX x) ((0:Int)<=64/\(0<=64/\64<=64*x.b.dK/\64*x.b.dK<=64*x.b.dK)/\Ee/\0<64*x.b.dK/\cP (bne (x.g 0) (1:Int)) (∃y:Unit,yX x) (((0:Int)<=1/\(0:Int)<=62)/\1<64*x.b.dK/\I64 (x.g 1)/\ ∃x_1:Int,True/\(x_1=x.g 1/\True)/\True/\ ∀y:Unit,True->cP (BEq.beq (spn x_1) (0:Int)) (∃y_1:Unit,yX x) (((0:Int)<=2/\(0:Int)<=61)/\2<64*x.b.dK/\cP (decide (x.g 2>(3:Int))) (∃y_1:Unit,yX x) (((0:Int)<=1/\(0:Int)<=62)/\1<64*x.b.dK/\I64 (x.g 1)/\((0:Int)<=2/\(0:Int)<=61)/\2<64*x.b.dK/\I64 (x.g 2)/\ ∃x_2:Int,True/\(x_2=x.g 1/\True)/\True/\ ∀y_1:Unit,True->I64 (spn x_2*64)/\cP (bne ((64*x.b.dK:Nat):Int) (spn x_2*64)) (∃y_2:Unit,yX x) (((0:Int)<=3/\4<=((64*x.b.dK:Nat):Int))/\3<64*x.b.dK/\I64 (x.g 3)/\ ∃x_3:D9,xW x_3/\(AB x_3.b x.b/\(x_3.at_:Int)=4/\(x_3.w:Int)=2/\True)/\uo x_3.b x/\ ∀y_2:Unit,True->((3<64*x.b.dK/\AV.lit (Value.int .u8 (x.g 3))=AV.lit (Value.int .u8 (x.g 3)))/\True)/\I64 (vO (λ(k:Nat)=>x_3.b.g (x_3.b.q+k)) x_3.at_ x_3.w)/\ ∃x_4:AA,Hd (x_4.b.ok/\x_4.b.n=64*x_4.s/\1<=x_4.s/\x_4.s<=8)/\(AB x_4.b x.b/\True)/\uo x_4.b x/\ ∀y_3:Unit,True->I64 (x.g 3+vO (λ(k:Nat)=>x_3.b.g (x_3.b.q+k)) x_3.at_ x_3.w)/\cP (decide (x.g 3+vO (λ(k:Nat)=>x_3.b.g (x_3.b.q+k)) x_3.at_ x_3.w>(x_4.str.size:Int))) (∃y_4:Unit,yX x) (0<=x.g 3/\(0<=Int.toNat (x.g 3)/\Int.toNat (x.g 3)<=x_4.str.size/\x_4.str.size<=x_4.str.size)/\I64 (x.g 3+vO (λ(k:Nat)=>x_3.b.g (x_3.b.q+k)) x_3.at_ x_3.w)/\
 0<=x.g 3+vO (λ(k:Nat)=>x_3.b.g (x_3.b.q+k)) x_3.at_ x_3.w/\0<=x.g 3/\(Int.toNat (x.g 3)<=Int.toNat (x.g 3+vO (λ(k:Nat)=>x_3.b.g (x_3.b.q+k)) x_3.at_ x_3.w)/\Int.toNat (x.g 3+vO (λ(k:Nat)=>x_3.b.g (x_3.b.q+k)) x_3.at_ x_3.w)<=x_4.str.size/\x_4.str.size<=x_4.str.size)/\(∃x_5:D9,xW x_5/\(AB x_5.b x.b/\(x_5.at_:Int)=8/\HY x_5.w)/\uo x_5.b x/\ ∀y_4:Unit,True->True/\(∃x_6:D9,xW x_6/\(AB x_6.b x.b/\(x_6.at_:Int)=16/\HY x_6.w)/\uo x_6.b x/\ ∀y_5:Unit,True->True/\(∃x_7:D9,xW x_7/\YW x_7 x.b/\uo x_7.b x/\ ∀y_6:Unit,True->True/\True/\True/\ ∃x_8:ZBlk,YU x_8/\((x_8.cls=x.g 1/\x_8.kind=x.g 2/\mP x_8.id x_5/\mP x_8.ver x_6/\mP x_8.epoch x_7/\YV x_8 x_4 x x_3)/\True)/\True/\(∀y_7:Unit,Hd (x_8.cls=0)->64<=64/\(∀k:Nat,k<64->PG x_8 k)/\uq x.b/\Eb x/\cP (Bool.not (BEq.beq (ByteArray.toList (@ByteArray.mk (@List.toArray UInt8 (List.map (λ(k:Nat)=>UInt8.ofBitVec (@BitVec.ofNat 8 (Int.toNat (x_8.enc (0+k))))) (@List.range 64))))) (ByteArray.toList (@ByteArray.mk (@List.toArray UInt8 (List.map (λ(k:Nat)=>UInt8.ofBitVec (@BitVec.ofNat 8 (Int.toNat (x.g (0+k))))) (@List.range (64*x.b.dK)))))))) (∃y_8:Unit,yX x) (∃y_8:Unit,True/\((x.b.cls=x.g 1/\x.b.kind=x.g 2/\mP x.b.id x_5/\mP x.b.ver x_6/\Ec x x_7 x_4 x_3)/\true=true/\True)/\PE x))/\ ∀y_7:Unit,Hd (x_8.cls≠(0:Int))->uq x_8/\YT x_8/\uq x.b/\Eb x/\
 cP (Bool.not (BEq.beq (ByteArray.toList (@ByteArray.mk (@List.toArray UInt8 (List.map (λ(k:Nat)=>UInt8.ofBitVec (@BitVec.ofNat 8 (Int.toNat (x_8.enc (0+k))))) (@List.range (64*x_8.dK)))))) (ByteArray.toList (@ByteArray.mk (@List.toArray UInt8 (List.map (λ(k:Nat)=>UInt8.ofBitVec (@BitVec.ofNat 8 (Int.toNat (x.g (0+k))))) (@List.range (64*x.b.dK)))))))) (∃y_8:Unit,yX x) (∃y_8:Unit,True/\((x.b.cls=x.g 1/\x.b.kind=x.g 2/\mP x.b.id x_5/\mP x.b.ver x_6/\Ec x x_7 x_4 x_3)/\true=true/\True)/\PE x))/\True/\ ∃x_7:D9,xW x_7/\YW x_7 x.b/\uo x_7.b x/\ ∀y_6:Unit,True->True/\True/\ ∃x_8:ZBlk,YU x_8/\((x_8.cls=x.g 1/\x_8.kind=x.g 2/\mP x_8.id x_5/\mP x_8.ver x_6/\mP x_8.epoch x_7/\YV x_8 x_4 x x_3)/\True)/\True/\(∀y_7:Unit,Hd (x_8.cls=0)->64<=64/\(∀k:Nat,k<64->PG x_8 k)/\uq x.b/\Eb x/\cP (Bool.not (BEq.beq (ByteArray.toList (@ByteArray.mk (@List.toArray UInt8 (List.map (λ(k:Nat)=>UInt8.ofBitVec (@BitVec.ofNat 8 (Int.toNat (x_8.enc (0+k))))) (@List.range 64))))) (ByteArray.toList (@ByteArray.mk (@List.toArray UInt8 (List.map (λ(k:Nat)=>UInt8.ofBitVec (@BitVec.ofNat 8 (Int.toNat (x.g (0+k))))) (@List.range (64*x.b.dK)))))))) (∃y_8:Unit,yX x) (∃y_8:Unit,True/\((x.b.cls=x.g 1/\x.b.kind=x.g 2/\mP x.b.id x_5/\mP x.b.ver x_6/\Ec x x_7 x_4 x_3)/\true=true/\True)/\PE x))/\ ∀y_7:Unit,Hd (x_8.cls≠(0:Int))->uq x_8/\YT x_8/\uq x.b/\Eb x/\
 cP (Bool.not (BEq.beq (ByteArray.toList (@ByteArray.mk (@List.toArray UInt8 (List.map (λ(k:Nat)=>UInt8.ofBitVec (@BitVec.ofNat 8 (Int.toNat (x_8.enc (0+k))))) (@List.range (64*x_8.dK)))))) (ByteArray.toList (@ByteArray.mk (@List.toArray UInt8 (List.map (λ(k:Nat)=>UInt8.ofBitVec (@BitVec.ofNat 8 (Int.toNat (x.g (0+k))))) (@List.range (64*x.b.dK)))))))) (∃y_8:Unit,yX x) (∃y_8:Unit,True/\((x.b.cls=x.g 1/\x.b.kind=x.g 2/\mP x.b.id x_5/\mP x.b.ver x_6/\Ec x x_7 x_4 x_3)/\true=true/\True)/\PE x))/\aoZ x x_5 x_4 x_3)/\True/\ ∃x_5:D9,xW x_5/\(AB x_5.b x.b/\(x_5.at_:Int)=8/\HY x_5.w)/\uo x_5.b x/\ ∀y_4:Unit,True->aoZ x x_5 x_4 x_3))))))
theorem akp(x:afN):ao1 x=wpF Tryz.prog arj tt (noA x) 200 5 121 (aoX.args x) (hO aoX.k (aoX.os x)) (λv h'=>eX aoX.k x v h' aoX.outs):=by kernel_rfl
theorem tJ{c:Int}(h:spn c≠0):0<=c/\c<=3/\1<=spn c/\spn c<=8/\cpc c=28+63*(spn c-1):=by
 unfold spn at*
 unfold cpc;grind
theorem af8{n:Int}(h:spn (ned n)≠0):n<=cpc (ned n):=by
 unfold ned spn at*
 unfold cpc;grind
theorem UH{b:ZBlk}(h:b.may):((b.key.size+b.value.size:Nat):Int)<=cpc b.cls:=by
 obtain⟨hs,h⟩:=h;have hc:=tJ hs;rcases h with ⟨_,_,_,_,h1,h2⟩|⟨_,_,_,_,h,_⟩|⟨_,_,_,h,_⟩|⟨_,h,_⟩
 ·rw[h1,h2];show((0:Nat):Int)<=_;omega
 ·rw[<-h];exact af8 (by rw[h];exact hs)
 ·rw[<-h];exact af8 (by rw[h];exact hs)
 ·rw[h];omega
theorem PV(x:Int)(hx:0<=x/\x<=3):UG x:=by
 have hs:spn x≠0:=by have:=Us hx;omega
 have hc:=tJ hs;unfold UG;simp only[YZ,YS];simp only[aZ,aV,aU,aA,aI,bT,bF,aO,aK,ay,aX,aW,bU,bH,bI,bJ,bV,bD,bK,bC,eY,aH,aN,ah,ak,aB,aF,aC,aG];rw[show(spn x==0)=false from beq_eq_false_iff_ne.2 hs,ig];refine⟨by omega,⟨⟨x,0,0,0,0,⟨#[]⟩,⟨#[]⟩⟩,⟨λ_=>0,0,(cpc x).toNat,(cpc x).toNat⟩⟩,?_,⟨⟨rfl,rfl,rfl,rfl,rfl,rfl,rfl⟩,rfl,rfl⟩,⟨rfl,λq _=>rfl⟩,λq _=>rfl⟩;exact⟨⟨show 0+(cpc x).toNat<=(cpc x).toNat by omega,show(cpc x).toNat<1099511627776 by omega,λ_=>⟨show(0:Int)<=0 by decide,show(0:Int)<256 by decide⟩⟩,show 28<=(cpc x).toNat by omega,show(0:Nat)<256 by decide,show(0:Nat)<65536 by decide,hx.1,show x<256 by omega,show(0:Int)<=0 by decide,show(0:Int)<256 by decide,show(0:Int)<=0 by decide,show(0:Int)<18446744073709551616 by decide,show(0:Int)<=0 by decide,show(0:Int)<18446744073709551616 by decide,show(0:Int)<=0 by decide,show(0:Int)<18446744073709551616 by decide⟩
theorem xX{z:Int}(h:0<=z/\z<256):isByte [Value.int .u8 z]=true:=by
 unfold isByte;simp only[decide_eq_true h.1,decide_eq_true h.2,Bool.and_self]
theorem Y0{x:AA}(h:x.b.ok)(i:Nat):0<=x.at_ i/\x.at_ i<256:=by
 unfold AA.at_;split<;>exact h.2.2 _
theorem Y1{x:AA}{s q:Nat}(h1: ¬q<28+63*s)(h2:q<28+63*(s+1)):x.at_ q=x.b.g (x.b.q+(64*(s+1)+1)+(q-(28+63*s))):=by
 unfold AA.at_;have e1:(q-28)/63=s:=by omega
 rw[if_neg (by omega),e1];congr 1;omega
theorem UJ(x:AA)(hx:x.b.ok/\x.b.n=64*x.s/\1<=x.s/\x.s<=8):af6 x:=by
 obtain⟨ho,hn,h1,h2⟩:=hx;obtain⟨o1,o2,o3⟩:=id ho;have t1: ∀s:Nat,(((64+64*s:Nat):Int)+1).toNat=64*(s+1)+1:=λs=>by omega
 have t2: ∀s:Nat,(((64+64*s:Nat):Int)+64).toNat=64*(s+1)+64:=λs=>by omega
 unfold af6;simp only[H6,af5];simp only[aZ,aV,aU,aA,aI,bT,bF,aO,aK,ay,aX,aW,bU,bH,bI,bJ,bV,bD,bK,bC,eY,aH,aN,ah,ak,aB,aF,aC,aG,t1,t2];refine⟨by decide,by decide,⟨by decide,by omega,by omega⟩,by omega,by decide,λq hq=> ?_,bf (λh=> ?_) λh=> ?_,λs hs=>bf (λh=> ?_) λh=> ?_⟩
 ·unfold AA.at_
  rw[if_pos hq];congr 1;omega
 ·have h:=aS h
  refine⟨by unfold I64;omega,by unfold I64;omega,by decide,by decide,⟨by decide,by omega,by omega⟩,by omega,by decide,by unfold I64;omega,1,by omega,by omega,by omega,by omega,λq hq=> ?_⟩;by_cases hq1:q<28
  ·rw[bg.2 hq1];rfl
  ·rw[bQ,decide_eq_false hq1,aQ]
   exact Y1 (s:=0) (by omega) (by omega)
 ·have h:=aT h
  have:x.s=1:=by omega
  refine⟨by decide,λk _=>xX (Y0 ho k),?_⟩;unfold AA.str;rw[this];rfl
 ·have h:=aS h
  refine⟨by unfold I64;omega,by unfold I64;omega,by omega,by omega,⟨by omega,by omega,by omega⟩,by omega,by omega,by unfold I64;omega,s+1,by omega,by omega,by omega,by omega,λq hq=> ?_⟩;by_cases hq1:q<28+63*s
  ·rw[bg.2 hq1];rfl
  ·rw[bQ,decide_eq_false hq1,aQ]
   exact Y1 hq1 (by omega)
 ·have h:=aT h
  have:x.s=s+1:=by omega
  refine⟨by omega,λk _=>xX (Y0 ho k),?_⟩;unfold AA.str;rw[this];rfl
theorem amW{s:ByteArray}{o k n B:Nat}(hk:k<64)(hB:64<=B):(bif Nat.ble 1 k&&Nat.blt k B then [Value.int .u8 (bif Nat.blt (o+(k-1)) n then(dY s (o+(k-1)):Int)else 0)]else Cs.eff (λ_=>[Value.int .u8 0]) [(0,[Value.int .u8 2])] k)=
  [Value.int .u8 (if k=0 then 2 else if o+(k-1)<n then(dY s (o+(k-1)):Int)else 0)]:=by
 rw[DX];simp only[dw,bQ,dI,<-Bool.decide_and];by_cases h:k=0
 ·subst h;simp
 ·rw[if_pos ⟨by omega,by omega⟩,if_neg h]
theorem JC(x:ZBlk)(t r:Nat)(hr:r<64):x.enc (64*(t+1)+r)=if r=0 then 2 else x.dat (28+63*t+(r-1)):=by
 unfold ZBlk.enc;rw[if_neg (by omega),show(64*(t+1)+r)%64=r by omega,show(64*(t+1)+r)/64=t+1 by omega,Nat.add_sub_cancel,Nat.mul_comm t 63]
theorem JD(x:ZBlk){t q B o n:Nat}(h1: ¬q<64*(t+1))(h2:q<64*(t+1+1))(hB:64<=B)(ho:o=28+63*t)(hn:n=(x.key++x.value).size):[Value.int .u8 (x.enc q)]=(bif Nat.ble 1 (q-64*(t+1))&&Nat.blt (q-64*(t+1)) B then [Value.int .u8 (bif Nat.blt (o+(q-64*(t+1)-1)) n then(dY (x.key++x.value) (o+(q-64*(t+1)-1)):Int)else 0)]else Cs.eff (λ_=>[Value.int .u8 0]) [(0,[Value.int .u8 2])] (q-64*(t+1))):=by
 rw[amW (by omega) hB,show q=64*(t+1)+(q-64*(t+1)) by omega,JC x t _ (by omega),Nat.add_sub_cancel_left,ho,hn];rfl
theorem af9{s:ByteArray}{o k n B:Nat}(hk:k<64)(hB:64<=B):((bif Nat.ble 1 k&&Nat.blt k B then [Value.int .u8 (bif Nat.blt (o+(k-1)) n then(dY s (o+(k-1)):Int)else 0)]else Cs.eff (λ_=>[Value.int .u8 0]) [(0,[Value.int .u8 2])] k).length.beq 1&&(bif Nat.ble 1 k&&Nat.blt k B then [Value.int .u8 (bif Nat.blt (o+(k-1)) n then(dY s (o+(k-1)):Int)else 0)]else Cs.eff (λ_=>[Value.int .u8 0]) [(0,[Value.int .u8 2])] k).all Value.oneCell')=true:=by
 rw[amW hk hB];rfl
theorem JE(x:ZBlk)(k:Nat):0<=x.dat k/\x.dat k<256:=by
 unfold ZBlk.dat
 split
 ·unfold dY
  have:=(((x.key++x.value).data.toList.getD k 0)).toNat_lt;exact⟨by omega,by omega⟩
 ·exact⟨by decide,by decide⟩
theorem BU{x:ZBlk}(h:x.may):x.key.size<256/\x.value.size<65536/\0<=x.kind/\x.kind<256/\0<=x.id/\x.id<18446744073709551616/\0<=x.ver/\x.ver<18446744073709551616/\0<=x.epoch/\x.epoch<18446744073709551616:=by
 have hC:=UH h;have hc:=tJ h.1;obtain⟨hs,h⟩:=h;unfold ZBlk.nums ZBlk.num at h;have e0:ByteArray.size ⟨#[]⟩=0:=rfl;rcases h with ⟨h0,h1,h2,h3,h4,h5⟩|⟨h0,h1,h2,h3,h4,h5,h6,h7⟩|⟨h0,h1,h2,h3,h5,h6,h7⟩|⟨h0,h1,h2,h5,h6,h7⟩
 ·rw[h4,h5];omega
 ·omega
 ·rw[h1];omega
 ·omega
theorem aa1(x:ZBlk)(hx:x.may/\x.key.size<1099511627776/\x.value.size<1099511627776):ao0 x:=by
 obtain⟨hm,hk,hv⟩:=hx;have hM:x.Nl=true:=xR.2 hm;have hc:=tJ hm.1;have hC:=UH hm;have hD:=BU hm;have hsz:(x.key++x.value).size=x.key.size+x.value.size:=ByteArray.size_append;have hcap:(cpc x.cls).toNat=x.iD:=rfl;have hb:Nat.ble (x.key++x.value).size x.iD=true:=by rw[Nat.ble_eq,hsz,<-hcap];omega
 have hN:x.iD=28+63*(x.dK-1):=by unfold ZBlk.iD ZBlk.dK;omega
 have hS:(x.dK:Int)=spn x.cls:=by unfold ZBlk.dK;omega
 have h0:x.cls=0↔x.dK=1:=by
  have:x.cls=0↔spn x.cls=1:=by unfold spn;grind
  rw[this];omega
 have e1: ∀q,q<64->x.enc q=x.jF x.dat x.iD q:=λq hq=>if_pos hq
 have hN8:x.dK<=8/\1<=x.dK:=by omega
 unfold ao0;simp only[YX,YZ,af2,af4,af0,aaY,PI,Ee,PU,afR,qI,PS,qH,afY,afZ,afU,afQ,PK,PL,PN,afW,Ed,afX,afV,aaZ,afT,afS,afO,afP];simp only[aZ,aV,aU,aA,aI,bT,bF,aO,aK,ay,aX,aW,bU,bH,bI,bJ,bV,bD,bK,bC,eY,aH,aN,ah,ak,aB,aF,aC,aG,hcap];refine⟨x,⟨hk,hv⟩,⟨rfl,rfl,rfl,rfl,rfl,rfl,rfl⟩,?_⟩;rw[hM,Bool.not_true,ig];refine⟨by omega,by omega,by omega,?_⟩;rw[hb,kM];refine⟨⟨x,⟨x.dat,0,x.iD,x.iD⟩⟩,⟨⟨by show 0+x.iD<=x.iD;omega,by show x.iD<1099511627776;omega,JE x⟩,by show 28<=x.iD;omega,hD.1,hD.2.1,hc.1,by show x.cls<256;omega,hD.2.2⟩,⟨⟨rfl,rfl,rfl,rfl,rfl,rfl,rfl⟩,rfl,rfl⟩,⟨rfl,λq _=> ?_⟩,?_⟩
 ·simp only[bQ,dI];rfl
 ·simp only[aA]
  refine⟨by decide,by omega,by unfold I64;omega,bf (λh=> ?_) λh=> ?_,λs hs=>bf (λh=> ?_) λh=> ?_⟩
  ·have h:=aS h
   refine⟨by decide,by decide,by decide,by decide,by decide,by decide,bf (λhb=> ?_) λhb=> ?_⟩
   ·have hb:=Nat.le_of_ble_eq_true hb
    refine⟨by omega,by omega,by omega,by decide,by decide,by decide,by unfold I64;omega,1,by omega,by omega,by omega,by omega,λq hq=> ?_⟩;by_cases hq1:q<64
    ·rw[bg.2 hq1,aP,e1 q hq1]
    ·rw[bQ,decide_eq_false hq1,aQ]
     exact JD x (t:=0) (by omega) (by omega) (by omega) rfl rfl
   ·refine⟨by omega,by omega,⟨by omega,by omega⟩,by decide,by decide,by decide,by unfold I64;omega,1,by omega,by omega,by omega,by omega,λq hq=> ?_⟩
    by_cases hq1:q<64
    ·rw[bg.2 hq1,aP,e1 q hq1]
    ·rw[bQ,decide_eq_false hq1,aQ]
     exact JD x (t:=0) (by omega) (by omega) (by omega) rfl rfl
  ·have h:=aT h
   exact .inl ⟨h0.2 (by omega),λq hq=>e1 q hq⟩
  ·have h:=aS h
   refine⟨by decide,by decide,by decide,by decide,by decide,by decide,bf (λhb=> ?_) λhb=> ?_⟩
   ·have hb:=Nat.le_of_ble_eq_true hb
    refine⟨by omega,by omega,by omega,by decide,λk hk=>af9 hk (by omega),by omega,by unfold I64;omega,s+1,by omega,by omega,by omega,by omega,λq hq=> ?_⟩;by_cases hq1:q<64*(s+1)
    ·rw[bg.2 hq1,aP]
    ·rw[bQ,decide_eq_false hq1,aQ]
     exact JD x hq1 (by omega) (by omega) rfl rfl
   ·refine⟨by omega,by omega,⟨by omega,by omega⟩,by decide,λk hk=>af9 hk (by omega),by omega,by unfold I64;omega,s+1,by omega,by omega,by omega,by omega,λq hq=> ?_⟩
    by_cases hq1:q<64*(s+1)
    ·rw[bg.2 hq1,aP]
    ·rw[bQ,decide_eq_false hq1,aQ]
     exact JD x hq1 (by omega) (by omega) rfl rfl
  ·have h:=aT h
   exact .inr ⟨λe=>by have:=h0.1 e;omega,by omega⟩
theorem Y2{g:Nat->Int}{a:Nat}{v:Int}(h0:0<=v): ∀w,(∀i,i<w->g (a+i)=v/256^i%256)->vO g a w=v%256^w
 |0,_=>by show(0:Int)=v%256^0;rw[Int.pow_zero,Int.emod_one]
 |w+1,h=>by
  simp only[vO];rw[Y2 h0 w λi hi=>h i (by omega),h w (by omega),Int.pow_succ];have hp:(0:Int)<256^w:=Int.pow_pos (by omega);have h1:=Int.emod_add_mul_ediv v (256^w);have h2:=Int.emod_add_mul_ediv (v/256^w) 256;have h3:=Int.emod_add_mul_ediv v (256^w*256);have h4:v/(256^w*256)=v/256^w/256:=(Int.ediv_ediv_of_nonneg (Int.le_of_lt hp)).symm;rw[h4]at h3;generalize (256:Int)^w=p at*
  have h5:p*(v/p)=p*((v/p)%256)+p*(256*(v/p/256)):=by rw[<-Int.mul_add,h2]
  have h6:p*256*(v/p/256)=p*(256*(v/p/256)):=Int.mul_assoc _ _ _;have h7:(v/p)%256*p=p*((v/p)%256):=Int.mul_comm _ _;omega
theorem JF{g:Nat->Int}{a w:Nat}{v:Int}(h0:0<=v)(h1:v<256^w)(h: ∀i,i<w->g (a+i)=v/256^i%256):vO g a w=v:=by
 rw[Y2 h0 w h];exact Int.emod_eq_of_lt h0 h1
theorem ark{x:ZBlk}(h:x.may)(k:Nat):0<=x.h32 k/\x.h32 k<256:=by
 have hD:=BU h;have hc:=tJ h.1;unfold ZBlk.h32
 repeat' split
 all_goals first|exact lU _ _|omega
theorem xY{x:ZBlk}(h:x.may)(k:Nat):0<=x.enc k/\x.enc k<256:=by
 unfold ZBlk.enc;split
 ·unfold ZBlk.jF
  split
  ·exact ark h k
  ·split
   ·exact lU _ _
   ·exact JE x _
 ·split
  ·exact⟨by decide,by decide⟩
  ·exact JE x _
theorem Ef{x:ZBlk}{k:Nat}(h:k<32):x.enc k=x.h32 k:=by
 unfold ZBlk.enc;rw[if_pos (by omega)];unfold ZBlk.jF;rw[if_pos h]
theorem ao2{x:ZBlk}(h:x.may):vO x.enc 4 2=x.value.size/\vO x.enc 8 8=x.id/\vO x.enc 16 8=x.ver/\vO x.enc 24 8=x.epoch:=by
 have hD:=BU h;refine⟨JF (by omega) (by omega) λi hi=> ?_,JF (by omega) (by omega) λi hi=> ?_,JF (by omega) (by omega) λi hi=> ?_,JF (by omega) (by omega) λi hi=> ?_⟩
 all_goals
  rw[Ef (by omega)];unfold ZBlk.h32
  repeat rw[if_neg (by omega)]
  rw[if_pos (by omega)];congr 2;congr 1;omega
theorem aa2(n:Nat)(f:Nat->UInt8):(mkStr n f).size=n:=by
 show(((List.range n).map f).toArray).size=n;simp
theorem PW{n a b:Nat}{f:Nat->UInt8}{s:ByteArray}(h1:b=a+s.size)(h2:b<=n)(h: ∀i (hi:i<s.size),f (a+i)=s.data[i]):(mkStr n f).extract a b=s:=by
 have e:((mkStr n f).extract a b).data=s.data:=by
  rw[ByteArray.data_extract];refine Array.ext ?_ λi h3 h4=> ?_
  ·show((List.map f (List.range n)).toArray.extract a b).size=s.size
   simp;omega
  ·show((List.map f (List.range n)).toArray.extract a b)[i]=_
   rw[<-h i h4];simp
 cases s;cases h':(mkStr n f).extract a b;rw[h']at e;cases e;rfl
theorem aa3(x:ZBlk)(i:Nat)(hi:i<(x.key++x.value).size):UInt8.ofNat (x.dat i).toNat=(x.key++x.value).data[i]:=by
 unfold ZBlk.dat
 rw[if_pos hi];unfold dY;rw[ay,List.getD_eq_getElem?_getD,Array.getElem?_toList];have e:(x.key++x.value).data[i]? =some (x.key++x.value).data[i]:=Array.getElem?_eq_getElem hi;rw[e,Option.getD_some];exact UInt8.ofNat_toNat
theorem arl{x:ZBlk}{s:Nat}(i:Nat):(AA.mk ⟨x.enc,0,64*s,64*s⟩ s).at_ i=x.dat i:=by
 unfold AA.at_;simp only[aA];split
 ·rename_i h
  unfold ZBlk.enc;rw[if_pos (by omega)];unfold ZBlk.jF;rw[if_neg (by omega),if_neg (by omega)];congr 1;omega
 ·rename_i h
  rw[show 64*((i-28)/63+1)+1+(i-28)%63=64*((i-28)/63+1)+(1+(i-28)%63) by omega,JC x _ _ (by omega),if_neg (by omega)];congr 1;omega
theorem aa4(x:afN)(hx:x.b.may/\x.b.key.size<1099511627776/\x.b.value.size<1099511627776/\ ∀k,k<64*x.b.dK->x.g k=x.b.enc k):ao1 x:=by
 obtain⟨hm,hk,hv,hg⟩:=hx;have hc:=tJ hm.1;have hC:=UH hm;have hD:=BU hm;have hE:=ao2 hm;have hS:(x.b.dK:Int)=spn x.b.cls:=by unfold ZBlk.dK;omega
 have g0:x.g 0=1:=by rw[hg 0 (by omega),Ef (by omega)];rfl
 have g1:x.g 1=x.b.cls:=by rw[hg 1 (by omega),Ef (by omega)];rfl
 have g2:x.g 2=x.b.kind:=by rw[hg 2 (by omega),Ef (by omega)];rfl
 have g3:x.g 3=x.b.key.size:=by rw[hg 3 (by omega),Ef (by omega)];rfl
 have hB:Bys.ok ⟨x.b.enc,0,64*x.b.dK,64*x.b.dK⟩:=⟨by simp,by show 64*x.b.dK<_;omega,xY hm⟩;have hkd:x.b.kind<=3:=by
  have:=hm.2;omega
 unfold ao1;simp only[yX,Ee,xW,AB,uo,HY,YW,YU,mP,YV,PG,uq,Eb,Ec,PE,YT,aoZ,YS];simp only[aZ,aV,aU,aA,aI,bT,bF,aO,aK,ay,aX,aW,bU,bH,bI,bJ,bV,bD,bK,bC,eY,aH,aN,ah,ak,aB,aF,aC,aG,g0,g1,g2,g3]
 refine bf (λh=>absurd (aS h) (by omega)) λ_=>⟨by decide,⟨by decide,by omega,by omega⟩,by decide,by omega,bf (λh=>absurd h (by decide)) λ_=>⟨by decide,by omega,by unfold I64;omega,bf (λh=>absurd (beq_iff_eq.1 h) hm.1) λ_=>⟨by decide,by omega,bf (λh=>absurd (aS h) (by omega)) λ_=>⟨by decide,by omega,by unfold I64;omega,by decide,by omega,by unfold I64;omega,by unfold I64;omega,bf (λh=>absurd (bne_iff_ne.1 h) (by omega)) λ_=>⟨⟨by decide,by omega⟩,by omega,by unfold I64;omega,
  ⟨⟨x.b.enc,0,64*x.b.dK,64*x.b.dK⟩,4,2⟩,⟨hB,by show 4+2<=64*x.b.dK;omega,by show 1<=2;decide,by show 2<=8;decide⟩,⟨⟨rfl,rfl⟩,rfl,rfl⟩,⟨rfl,λq hq=>(hg q hq).symm⟩,by omega,?_⟩⟩⟩⟩⟩
 simp only[aA,hE];refine⟨by unfold I64;omega,⟨⟨x.b.enc,0,64*x.b.dK,64*x.b.dK⟩,x.b.dK⟩,⟨hB,rfl,by show 1<=x.b.dK;omega,by show x.b.dK<=8;omega⟩,⟨rfl,rfl⟩,⟨rfl,λq hq=>(hg q hq).symm⟩,?_⟩;have hsz:(x.b.key++x.b.value).size=x.b.key.size+x.b.value.size:=ByteArray.size_append;have hstr: ∀i (hi:i<(x.b.key++x.b.value).size),UInt8.ofNat ((AA.mk ⟨x.b.enc,0,64*x.b.dK,64*x.b.dK⟩ x.b.dK).at_ i).toNat=(x.b.key++x.b.value).data[i]:=λi hi=>by rw[arl];exact aa3 x.b i hi
 have s1:(AA.mk ⟨x.b.enc,0,64*x.b.dK,64*x.b.dK⟩ x.b.dK).str.size=28+63*(x.b.dK-1):=aa2 _ _;have s2:(AA.mk ⟨x.b.enc,0,64*x.b.dK,64*x.b.dK⟩ x.b.dK).str.extract 0 x.b.key.size=x.b.key:=PW (by omega) (by show x.b.key.size<=28+63*(x.b.dK-1);omega) λi hi=>by
  rw[hstr (0+i) (by omega)];simp only[aA,ByteArray.data_append];exact Array.getElem_append_left hi
 have s3:(AA.mk ⟨x.b.enc,0,64*x.b.dK,64*x.b.dK⟩ x.b.dK).str.extract x.b.key.size ((x.b.key.size:Int)+(x.b.value.size:Int)).toNat=x.b.value:=PW (by omega) (by show((x.b.key.size:Int)+(x.b.value.size:Int)).toNat<=28+63*(x.b.dK-1);omega) λi hi=>by
  rw[hstr (x.b.key.size+i) (by omega)];simp only[ByteArray.data_append];have:x.b.key.data.size=x.b.key.size:=rfl;rw[Array.getElem_append_right (by omega)];congr 1;omega
 rw[s2,s3,s1];have hget: ∀a,a+8<=64->(D9.mk ⟨x.b.enc,0,64*x.b.dK,64*x.b.dK⟩ a 8).b.ok/\a+8<=64*x.b.dK/\1<=8/\8<=8:=λa ha=>⟨hB,by omega,by decide,by decide⟩
 refine⟨by unfold I64;omega,bf (λh=>absurd (aS h) (by omega)) λ_=>⟨by omega,by omega,by unfold I64;omega,by omega,by omega,by omega,
  ⟨⟨x.b.enc,0,64*x.b.dK,64*x.b.dK⟩,8,8⟩,hget 8 (by decide),⟨⟨rfl,rfl⟩,rfl,rfl⟩,⟨rfl,λq hq=>(hg q hq).symm⟩,
  ⟨⟨x.b.enc,0,64*x.b.dK,64*x.b.dK⟩,16,8⟩,hget 16 (by decide),⟨⟨rfl,rfl⟩,rfl,rfl⟩,⟨rfl,λq hq=>(hg q hq).symm⟩,
  ⟨⟨x.b.enc,0,64*x.b.dK,64*x.b.dK⟩,24,8⟩,hget 24 (by decide),⟨⟨rfl,rfl⟩,rfl,rfl⟩,⟨rfl,λq hq=>(hg q hq).symm⟩,?_⟩⟩
 simp only[aA,hE];refine⟨x.b,⟨hm,hk,hv⟩,⟨rfl,rfl,rfl,rfl,rfl,rfl,rfl⟩,?_⟩;have hb: ∀k,k<64*x.b.dK->isByte [Value.int .u8 (x.g k)]=true:=λk hk=>by rw[hg k hk];exact xX (xY hm k)
 have he: ∀k,isByte [Value.int .u8 (x.b.enc k)]=true:=λk=>xX (xY hm k)
 have hq: ∀n,n=64*x.b.dK->(!(ByteArray.toList ⟨(List.map (λk=>(⟨BitVec.ofNat 8 (x.b.enc k).toNat⟩:UInt8)) (List.range n)).toArray⟩==ByteArray.toList ⟨(List.map (λk=>(⟨BitVec.ofNat 8 (x.g k).toNat⟩:UInt8)) (List.range (64*x.b.dK))).toArray⟩))=false:=λn hn=>by
  subst hn;rw[Bool.not_eq_false',afL];congr 2;exact List.map_congr_left λk hk=>by rw[hg k (List.mem_range.1 hk)]
 have h1:x.b.cls=0->64=64*x.b.dK:=λh=>by
  have:spn x.b.cls=1:=by rw[h];rfl
  omega
 refine⟨λh=>⟨aY _,λk _=>he k,aY _,hb,?_⟩,λh=>⟨aY _,λk _=>he k,aY _,hb,?_⟩⟩
 ·rw[hq 64 (h1 h),ig]
  exact⟨trivial,trivial,trivial,trivial,trivial⟩
 ·rw[hq _ rfl,ig]
  exact⟨trivial,trivial,trivial,trivial,trivial⟩
theorem Y3:dX Tryz.prog aoY:= .cons (bP mO) (.cons (bP amM) (.cons (bP afM) (.cons (bP aoW) .nil)))
theorem amX:bZ Tryz.prog 180 amU:=jk dF mixed Y3 ari 200 5 (λ_=>rfl) (λ_=>⟨λ_=>rfl,λ_=>rfl,trivial⟩) λx hx=>Eq.mp (ako x) (aa1 x (aZ.1 hx))
theorem akq:bZ Tryz.prog 63 Ea:=dR dF mixed Y3 noA 200 5 (λ_=>rfl) (λ_=>rfl) λx hx=>Eq.mp (aa0 x) (PV x (aZ.1 hx))
theorem ao3:bZ Tryz.prog 179 UF:=dR dF mixed .nil amV 200 5 (λ_=>rfl) (λ_=>rfl) λx hx=>Eq.mp (af7 x) (UJ x (aZ.1 hx))
theorem akr:dX Tryz.prog arj:= .cons (bP mO) (.cons (bP arh) (.cons (bP ao3) (.cons (bP amX) .nil)))
theorem arn:bZ Tryz.prog 121 aoX:=dR dF mixed akr noA 200 5 (λ_=>rfl) (λ_=>rfl) λx hx=>Eq.mp (akp x) (aa4 x (aZ.1 hx))



end Go.Proofs.YtenfleoejgjklaaGreat
end
section
namespace Go.Proofs.YtenfleoejgjklaaGreat
open Go
theorem disable(w:World):(callFunc 268 #[]).run Tryz.prog w= .ok (.value (.tuple #[])) w:=run_call_mark0 Tryz.func268 (by kernel_rfl) (by kernel_rfl) (by kernel_rfl) .disable (by kernel_rfl) w
theorem enable(w:World):(callFunc 270 #[]).run Tryz.prog w= .ok (.value (.tuple #[])) w:=run_call_mark0 Tryz.func270 (by kernel_rfl) (by kernel_rfl) (by kernel_rfl) .enable (by kernel_rfl) w
theorem acquire(a:Addr)(w:World):(callFunc 271 #[.pointer (some a)]).run Tryz.prog w= .ok (.value (.tuple #[])) w:=run_call_marked Tryz.func271 (by kernel_rfl) (by kernel_rfl) (by kernel_rfl) .acquire (by kernel_rfl) a w
theorem releaseMerge(a:Addr)(w:World):(callFunc 273 #[.pointer (some a)]).run Tryz.prog w= .ok (.value (.tuple #[])) w:=run_call_marked Tryz.func273 (by kernel_rfl) (by kernel_rfl) (by kernel_rfl) .releaseMerge (by kernel_rfl) a w
set_option maxRecDepth 100000 in
set_option maxHeartbeats 1600000 in
theorem ilock_free(a:Addr)(w:World)(hc:w.cell? a=some (.int .i32 0))(hz:w.frozen? a=false):
  Calls Tryz.prog 237 #[.pointer (some a)] w λe w'=>e= .returned (.tuple #[])/\w'=w.setCell a (.int .i32 1):=by
 have hd:=disable;have he:=enable;have ha:=acquire;have hcas:=run_call_cas_hit (P:=Tryz.prog) Tryz.func269 (by kernel_rfl) (by kernel_rfl) (by kernel_rfl) .i32 (by kernel_rfl) (y:=1) hc hz;have hc':(w.setCell a (.int .i32 1)).cell? a=some (.int .i32 1):=World.cell?_setCell_same w a _ hc;have hcv:=run_convert_to_unsafe (P:=Tryz.prog) (src:=368) (dst:=372) Tryz.underlying368 Tryz.underlying372 (by kernel_rfl) hc'
 go_enter Tryz.func237,Tryz.ntmps237
 go_wp2
 all_goals first|exact⟨rfl,rfl⟩|(first|go_end0|(simp only[Exit.inBlock,Exit.then];refine bodyPost_ret (results_none rfl _ _ _) rfl ?_)|refine bodyPost_ret (results_none rfl _ _ _) rfl ?_)
 all_goals exact⟨rfl,rfl⟩
set_option maxRecDepth 100000 in
set_option maxHeartbeats 1600000 in
theorem lock_free(a:Addr)(w:World)(hc:w.cell? a=some (.int .i32 0))(hz:w.frozen? a=false):
  Calls Tryz.prog 194 #[.pointer (some a)] w λe w'=>e= .returned (.tuple #[])/\w'=w.setCell a (.int .i32 1):=by
 go_enter Tryz.func194,Tryz.ntmps194
 go_wp2_with (go_at_call 237;refine(ilock_free a w hc hz).mono ?_;rintro e w' ⟨rfl,rfl⟩)
 all_goals first|exact⟨rfl,rfl⟩|(go_wp2;go_end0;exact⟨rfl,rfl⟩)|(go_end0;exact⟨rfl,rfl⟩)
set_option maxRecDepth 100000 in
set_option maxHeartbeats 1600000 in
theorem store_deferred(a:Addr)(x:Value)(u:FrameMode)(w:World)(hc:w.cell? a=some x)(hz:w.frozen? a=false):
  CallsD Tryz.prog 196 #[.pointer (some a),.bool true] u w λe u' w'=>u'=u/\(e= .returned (.tuple #[])/\w'=w.drew.setCell a (.int .u32 1)):=by
 have hc':w.drew.cell? a=some x:=by go_simp
 have hz':w.drew.frozen? a=false:=by go_simp
 have hst:=run_call_store (P:=Tryz.prog) Tryz.func239 (by kernel_rfl) (by kernel_rfl) (by kernel_rfl) (by kernel_rfl) (k:= .u32) (y:=1) hc' hz'
 go_enter_d Tryz.func196,Tryz.ntmps196
 go_wp2
 go_region_calls
 all_goals (go_end0;exact⟨rfl,rfl⟩)
set_option maxRecDepth 100000 in
set_option maxHeartbeats 1600000 in
theorem iunlock(a:Addr)(w:World)(hc:w.cell? a=some (.int .i32 1))(hz:w.frozen? a=false):
  Calls Tryz.prog 238 #[.pointer (some a)] w λe w'=>e= .returned (.tuple #[])/\w'=w.setCell a (.int .i32 0):=by
 have hd:=disable;have he:=enable;have hr:=releaseMerge;have hadd:=run_call_add (P:=Tryz.prog) Tryz.func274 (by kernel_rfl) (by kernel_rfl) (by kernel_rfl) .i32 (by kernel_rfl) (y:= -1) (s:=0) hc hz (by simp[go_sem];rfl);have hcv:=run_convert_to_unsafe (P:=Tryz.prog) (src:=368) (dst:=372) Tryz.underlying368 Tryz.underlying372 (by kernel_rfl) hc
 go_enter Tryz.func238,Tryz.ntmps238
 go_wp2
 all_goals first|exact⟨rfl,rfl⟩|go_end0
 all_goals first|exact⟨rfl,rfl⟩|go_wp2
 all_goals first|exact⟨rfl,rfl⟩|go_end0
 all_goals first|exact⟨rfl,rfl⟩
set_option maxRecDepth 100000 in
set_option maxHeartbeats 1600000 in
theorem unlock_deferred(a:Addr)(u:FrameMode)(w:World)(hc:w.cell? a=some (.int .i32 1))(hz:w.frozen? a=false):
  CallsD Tryz.prog 195 #[.pointer (some a)] u w λe u' w'=>u'=u/\(e= .returned (.tuple #[])/\w'=w.setCell a (.int .i32 0)):=by
 go_enter_d Tryz.func195,Tryz.ntmps195
 go_wp2_with (go_at_call 238;refine(iunlock a w hc hz).mono ?_;rintro e w' ⟨rfl,rfl⟩)
 all_goals first|exact⟨rfl,rfl⟩|(go_wp2;go_end0;exact⟨rfl,rfl⟩)|(go_end0;exact⟨rfl,rfl⟩)
set_option maxRecDepth 100000 in
set_option maxHeartbeats 1600000 in
theorem slow_any(b off:Nat)(g:FuncId)(fa ca:Array Value)(w:World)(R:World->Prop)(hc:SE.nJ Tryz.prog g)
  (h0:w.cell? ⟨b,off,none⟩=some (.int .u32 0)) (h1:w.cell? ⟨b,off+1,none⟩=some (.int .i32 0)) (f0:w.frozen? ⟨b,off,none⟩=false) (f1:w.frozen? ⟨b,off+1,none⟩=false)
  (hf:Calls Tryz.prog g (fa++ca) (w.setCell ⟨b,off+1,none⟩ (.int .i32 1)) λe w'=>(∃u,e= .returned u)/\w'.cell? ⟨b,off,none⟩=some (.int .u32 0)/\w'.frozen? ⟨b,off,none⟩=false/\
   w'.cell? ⟨b,off+1,none⟩=some (.int .i32 1)/\w'.frozen? ⟨b,off+1,none⟩=false/\R w'):
  Calls Tryz.prog 148 #[.pointer (some ⟨b,off,none⟩),.func (.func g) fa ca] w λe w'=>e= .returned (.tuple #[])/\ ∃w2,R w2/\
   w'=(w2.drew.setCell ⟨b,off,none⟩ (.int .u32 1)).setCell ⟨b,off+1,none⟩ (.int .i32 0):=by
 have hl:=run_call_load (P:=Tryz.prog) Tryz.func193 (by kernel_rfl) (by kernel_rfl) (by kernel_rfl) .u32 (by kernel_rfl) (w:=w.setCell ⟨b,off+1,none⟩ (.int .i32 1)) (a:=⟨b,off,none⟩) (x:=0) ((World.cell?_setCell_other _ ⟨b,off+1,none⟩ ⟨b,off,none⟩ _ (by simp)).trans h0);have hnot: ∀(x:Bool) (w:World),(Op.unary .not (.bool x)).run Tryz.prog w= .ok (.bool (!x)) w:=λ_ _=>rfl
 have hrun:=SE.Aj hc
 go_enter_defers Tryz.func148,Tryz.ntmps148
 go_wp2_with (go_at_call 194;refine(lock_free ⟨b,off+1,none⟩ _ (by go_simp) (by go_simp)).mono ?_;rintro e w' ⟨rfl,rfl⟩)
 go_wp2
 refine hf.mono ?_
 rintro e w' ⟨⟨u,rfl⟩,c0,z0,c1,z1,hR⟩
 go_wp2
 refine leaves_cons (f:=196) (args:= #[.pointer (some ⟨b,off,none⟩),.bool true]) (by simp) (by simp[go_sem]) ?_;refine(store_deferred ⟨b,off,none⟩ (.int .u32 0) .returning _ c0 z0).mono ?_
 rintro e u' w'' ⟨rfl,rfl,rfl⟩
 refine leaves_cons (f:=195) (args:= #[.pointer (some ⟨b,off+1,none⟩)]) (by simp[settle]) (by simp[go_sem]) ?_;refine(unlock_deferred ⟨b,off+1,none⟩ _ _ ?_ ?_).mono ?_
 ·refine(World.cell?_setCell_other _ ⟨b,off,none⟩ ⟨b,off+1,none⟩ _ (by simp)).trans ?_
  rw[World.cell?_drew];exact c1
 ·simp[z1]
 rintro e u' w'' ⟨rfl,rfl,rfl⟩
 simp[Leaves,settle,results,Tryz.results148];exact⟨w',hR,rfl⟩
end Go.Proofs.YtenfleoejgjklaaGreat
end
section
namespace Go.Proofs.YtenfleoejgjklaaGreat
open Go SE
def aa5(k:IntKind)(z:Int)(x:Option AV):Bool:=match x with
 |some (.lit (.int k' z'))=>decide (k'=k)&&decide (z'=z)
 |_=>false
theorem aks{k:IntKind}{z:Int}{x:Option AV}(h:aa5 k z x=true):x=some (.lit (.int k z)):=by
 unfold aa5 at h;split at h
 ·simp only[aJ,decide_eq_true_eq]at h
  obtain⟨rfl,rfl⟩:=h;rfl
 ·cases h
def JG(i o:Nat)(K:AV->Heap->Prop)(h2:Heap):Prop:=
 bif aa5 .u32 0 (cellAt h2 i o)&&aa5 .i32 1 (cellAt h2 i (o+1))&&(setCell h2 i (o+1) (.lit (.int .i32 0))).isSome then(match setCell h2 i o (.lit (.int .u32 1))with
  |some h3=>match setCell h3 i (o+1) (.lit (.int .i32 0))with
   |some h4=>K (.tup []) h4
   |none=>False
  |none=>False)else False
def ao4(tbl:jf):WTr:=λargs h K=>match args with
 |[.ptr i o,.fn (.func g) first cap]=>bif aa5 .u32 0 (cellAt h i o)&&aa5 .i32 0 (cellAt h i (o+1))&&(setCell h i o (.lit (.int .u32 1))).isSome then(match setCell h i (o+1) (.lit (.int .i32 1))with
  |some h1=>wpF Tryz.prog tbl tt (λ_ _ _ _=>[]) 200 5 g (first++cap) h1 (λ_ h2=>JG i o K h2)
  |none=>False)else False
 |_=>False
theorem JH{h:Heap}{ρ:Ren}{T:Nat->Prop}{w:World}(hR:Rel h ρ T w){i o:Nat}{b:SE.Loc}{k:IntKind}{z:Int}(hb:ρ i=some b)(hc:aa5 k z (cellAt h i o)=true):w.cell? ⟨b.blk,b.base+o,none⟩=some (.int k z):=by
 obtain⟨b',hb',y,hy,hr⟩:=hR.cell (aks hc);obtain rfl:b'=b:=Option.some.inj (hb'.symm.trans hb);simp only[bn]at hr;subst hr;exact hy
theorem PX{h h':Heap}{i o:Nat}{k:IntKind}{z:Int}(hs:setCell h i o (.lit (.int k z))=some h'):ajE h i o k z (λx=>x=h'):=by unfold ajE;rw[hs]
theorem akt{tbl:jf}(ht:dX Tryz.prog tbl)(args:List AV)(h:Heap)(K:AV->Heap->Prop)(hq:ao4 tbl args h K):Sp Tryz.prog 148 args h K:=by
 unfold ao4 at hq;split at hq
 ·rename_i i o g first cap
  cases hc:(aa5 .u32 0 (cellAt h i o)&&aa5 .i32 0 (cellAt h i (o+1))&&(setCell h i o (.lit (.int .u32 1))).isSome)<;>rw[hc]at hq
  ·exact hq.elim
  ·simp only[aP]at hq
   simp only[aJ]at hc;obtain⟨⟨c0,c1⟩,c2⟩:=hc;split at hq
   ·rename_i h1 hs1
    have hsp:=Ar dF mixed ht _ _ _ _ _ _ _ hq;refine⟨⟨_,Tryz.func148,by kernel_rfl,by kernel_rfl⟩,λρ T w vs hR hl=> ?_⟩;simp only[dP]at hl;obtain⟨u0,_,hvs,hu0,u1,_,rfl,hu1,rfl⟩:=hl;simp only[bn]at hu0 hu1;obtain⟨b,hb,rfl⟩:=hu0;obtain⟨fa,ca,rfl,hfa,hca⟩:=hu1;have hvs':=vs2 hvs;rw[hvs'];have e1:b.base+(o+1)=b.base+o+1:=by omega
    obtain⟨h1',f1,R1,n1,K1,rfl⟩:=nX (P:=Tryz.prog) hR (PX hs1) hb;have f0:w.frozen? ⟨b.blk,b.base+o,none⟩=false:=by
     obtain⟨h5,hs5⟩:=Option.isSome_iff_exists.1 c2;exact hR.aeh hs5 hb
    have g0:=JH hR hb c0;have g1:=JH hR hb c1;rw[e1]at g1 f1;refine(slow_any b.blk (b.base+o) g fa ca w (λw2=> ∃ρ2 h2,(∀j,j<h.next->ρ2 j=ρ j)/\h.next<=h2.next/\Rel h2 ρ2 T w2/\Keeps T w w2/\JG i o K h2) hsp.1 g0 g1 f0 f1 ?_).mono ?_
    ·refine(hsp.2 ρ T _ (fa++ca) (by rw[<-e1];exact R1) (by rw[Array.toList_append];exact hfa.append hca)).mono ?_
     rintro e w2 ⟨ρ2,v3,u,h2,q1,q2,q3,q4,rfl,q5,hq⟩
     have hi:i<h1'.next:=by
      rcases Nat.lt_or_ge i h1'.next with hlt|hge
      ·exact hlt
      ·obtain⟨_,_,_,_,r4,_⟩:=R1
       rw[r4 i hge]at hb;cases hb
     have hb2:ρ2 i=some b:=(q1 i hi).trans hb;have hq0:=hq;unfold JG at hq;cases hc2:(aa5 .u32 0 (cellAt h2 i o)&&aa5 .i32 1 (cellAt h2 i (o+1))&&(setCell h2 i (o+1) (.lit (.int .i32 0))).isSome)<;>rw[hc2]at hq
     ·exact hq.elim
     ·simp only[aP]at hq
      simp only[aJ]at hc2;obtain⟨⟨d0,d1⟩,d2⟩:=hc2;split at hq
      ·rename_i h3 hs3
       obtain⟨h5,hs5⟩:=Option.isSome_iff_exists.1 d2;obtain⟨_,z1,_⟩:=nX (P:=Tryz.prog) q3 (PX hs5) hb2;obtain⟨_,z0,_⟩:=nX (P:=Tryz.prog) q3 (PX hs3) hb2;have m0:=JH q3 hb2 d0;have m1:=JH q3 hb2 d1;rw[e1]at m1 z1;exact⟨⟨u,rfl⟩,m0,z0,m1,z1,ρ2,h2,λj hj=>q1 j (by rw[n1];exact hj),by rw[<-n1];exact q2,q3,(by rw[e1]at K1;exact K1.trans q5),hq0⟩
      ·exact hq.elim
    ·rintro e w' ⟨rfl,w2,⟨ρ2,h2,q1,q2,q3,q5,hq⟩,rfl⟩
     have hi:i<h.next:=by
      rcases Nat.lt_or_ge i h.next with hlt|hge
      ·exact hlt
      ·obtain⟨_,_,_,_,r4,_⟩:=hR
       rw[r4 i hge]at hb;cases hb
     have hb2:ρ2 i=some b:=(q1 i hi).trans hb;unfold JG at hq;cases hc2:(aa5 .u32 0 (cellAt h2 i o)&&aa5 .i32 1 (cellAt h2 i (o+1))&&(setCell h2 i (o+1) (.lit (.int .i32 0))).isSome)<;>rw[hc2]at hq
     ·exact hq.elim
     ·simp only[aP]at hq
      split at hq
      ·rename_i h3 hs3
       split at hq
       ·rename_i h4 hs4
        obtain⟨h3',_,R3,n3,K3,rfl⟩:=nX (P:=Tryz.prog) q3.drew (PX hs3) hb2;obtain⟨h4',_,R4,n4,K4,rfl⟩:=nX (P:=Tryz.prog) R3 (PX hs4) hb2;rw[e1]at R4 K4;exact⟨ρ2,_,_,_,q1,by omega,R4,by simp only[bn];exact⟨_,rfl,.nil⟩,rfl,((q5.trans (Keeps.drew T w2)).trans K3).trans K4,hq⟩
       ·exact hq.elim
      ·exact hq.elim
   ·exact hq.elim
 ·exact hq.elim
def aa6(n:Nat)(k:Nat):Int:=if k=0 then 4 else if k=1 then 70 else if k=2 then 85 else if k=3 then 83 else if k=4 then 69 else(n:Int)/256^(k-5)%256
noncomputable def mQ(n:Nat)(k:Nat):Int:=if k<9 then aa6 n k else if k<13 then ny 0 (aa6 n) 9/256^(k-9)%256 else 0
noncomputable def Eh:Ctr:=det Nat (λn=>[i64 n]) 0 (λ_=>[]) (λn=>Hd (10<=n/\n<=258)) (λ_=> .tup [.slE 0 0 1 64 64,i64 0]) 1 (λn=>[.cells 312 (rowB (mQ n) 64)])
def DevM.wide(d:DevM)(k:Int):Prop:=d.st+k<1099511627776/\d.fl+k<1099511627776/\d.fe+k<1099511627776
noncomputable def Ei:jE:={X:=DevM,args:=λ_=>[.ptr 0 0],k:=1,l:=λd=>[.m d.os],pre:=λd=>Hd (d.ok/\10<=d.n/\d.wide 10),outs:=[
 {Y:=DevM,post:=λd d'=>Hd (d'.ok/\d'.n=d.n/\d'.st=d.st+2/\d'.fl=d.fl+2/\d'.fe=d.fe+1),ret:=λ_ _=>i64 0,m:=1,l:=λ_ d'=>[.m d'.os]}]}
noncomputable def aro:jf:=[(149,ctrT Eh),(150,ctrT DI),(62,ctrT DL),(105,ctrT DJ),(106,ctrT DK)]
def ao5(a:tH)(b:Nat):Prop:=(Nat.beq (List.length [Value.int .u8 (a.res (0+b))]) 1&&List.all [Value.int .u8 (a.res (0+b))] Value.oneCell')=true
def aku(a:DevM)(b:DevM):Prop:=a.fe=b.fe/\a.ba=b.ba/\a.cu=b.cu/\True
def ao6(a:DevM)(b:Tz):Prop:=((0=0/\a.n=b.d.n/\a.n=b.d.n)/\a.st=b.d.st/\a.fl=ite (b.k<b.d.n) (b.d.fl+1) b.d.fl/\aku a b.d)/\(a.n*193=b.d.n*193/\ ∀q:Nat,q<a.n*193->Cs.eff (kG a) [] q=Cs.eff (kG (b.d.flush b.k)) [] q)/\True
def akv(a:tH):Prop:= ∀k:Nat,k<a.b.n->ao5 a k
def akw(a:tH):Prop:= ∀k:Nat,k<64->ao5 a k
def Gf:Prop:=0<=64/\64<=64/\64<=64
def aga:Prop:=(0=0/\64=64/\64=64)/\(0:Int)=0/\True
def agb(a:DevM)(b:lN):Prop:=a.n*193=b.d.n*193/\ ∀q:Nat,q<a.n*193->Cs.eff (kG a) [] q=Cs.eff (kG (b.d.store b.k b.a b.b.n (λ(q_1:Nat)=>b.b.g (b.b.q+q_1)))) [] q
def agc(a:tH)(b: ∀a:Nat,Int)(c:Nat):Prop:=(a.b.q=0/\a.b.n=64/\a.c=64)/\(a.at_:Int)=9/\(a.w:Int)=4/\a.v=IntKind.wrap .u64 (ny (0:Int) b c)/\True
def agd(a:DevM)(b:DevM):Prop:=(0=0/\a.n=b.n/\a.n=b.n)/\a.st=b.st+1/\a.fl=b.fl/\aku a b
def agf:Prop:= ∃y:Unit,True/\(False/\(0:Int)=2/\True)/\False/\True
def UK(x:Nat):Prop:=
 cP (decide ((x:Int)<10)) agf (cP (decide ((x:Int)>(258:Int))) agf (∃x_1:tH,Hd x_1.ok/\((x_1.b.q=0/\x_1.b.n=9/\x_1.c=9)/\(x_1.at_:Int)=5/\(x_1.w:Int)=4/\x_1.v=IntKind.wrap .u64 (x:Int)/\True)/\((x_1.b.N=9/\ ∀q:Nat,q<x_1.b.N->[Value.int .u8 (x_1.b.g q)]=[List.getD [Value.int .u8 4,Value.int .u8 70,Value.int .u8 85,Value.int .u8 83,Value.int .u8 69,Value.int .u8 0,Value.int .u8 0,Value.int .u8 0,Value.int .u8 0] q (@Inhabited.default Value @instInhabitedValue)])/\True)/\ ∀y:Unit,True->Gf/\64<=64/\cP (Nat.ble x_1.b.n 64) (0+x_1.b.n<=x_1.b.n/\akv x_1/\Gf/\0+x_1.b.n<=x_1.b.n/\ ∃n:Nat,∃g: ∀a:Nat,Int,x_1.b.n=n/\n<1099511627776/\(∀k:Nat,k<n->[Value.int .u8 (x_1.res (0+k))]=[Value.int .u8 (g k)])/\(∀k:Nat,0<=g k/\g k<256)/\True/\ ∃x_2:tH,Hd x_2.ok/\agc x_2 g n/\((x_2.b.N=64/\ ∀q:Nat,q<x_2.b.N->[Value.int .u8 (x_2.b.g q)]=Cs.eff (λ(p:Nat)=>cond (Nat.ble 0 p&&Nat.blt p (0+x_1.b.n)) [Value.int .u8 (x_1.res (0+(p-0)))] [Value.int .u8 0]) [] q)/\True)/\ ∀y_1:Unit,True->True/\Gf/\64<=64/\cP (Nat.ble x_2.b.n 64) (0+x_2.b.n<=x_2.b.n/\akv x_2/\
 (∀k:Nat,k<64->(Nat.beq (List.length (Cs.eff (λ(p:Nat)=>cond (Nat.ble 0 p&&Nat.blt p (0+x_2.b.n)) [Value.int .u8 (x_2.res (0+(p-0)))] (Cs.eff (λ(p_1:Nat)=>cond (Nat.ble 0 p_1&&Nat.blt p_1 (0+x_1.b.n)) [Value.int .u8 (x_1.res (0+(p_1-0)))] [Value.int .u8 0]) [] p)) [] k)) 1&&List.all (Cs.eff (λ(p:Nat)=>cond (Nat.ble 0 p&&Nat.blt p (0+x_2.b.n)) [Value.int .u8 (x_2.res (0+(p-0)))] (Cs.eff (λ(p_1:Nat)=>cond (Nat.ble 0 p_1&&Nat.blt p_1 (0+x_1.b.n)) [Value.int .u8 (x_1.res (0+(p_1-0)))] [Value.int .u8 0]) [] p)) [] k) Value.oneCell')=true)/\(∀k:Nat,k<64->(Nat.beq (List.length (Cs.eff (Cs.eff (λ(p:Nat)=>cond (Nat.ble 0 p&&Nat.blt p (0+x_2.b.n)) [Value.int .u8 (x_2.res (0+(p-0)))] (Cs.eff (λ(p_1:Nat)=>cond (Nat.ble 0 p_1&&Nat.blt p_1 (0+x_1.b.n)) [Value.int .u8 (x_1.res (0+(p_1-0)))] [Value.int .u8 0]) [] p)) []) [] k)) 1&&List.all (Cs.eff (Cs.eff (λ(p:Nat)=>cond (Nat.ble 0 p&&Nat.blt p (0+x_2.b.n)) [Value.int .u8 (x_2.res (0+(p-0)))] (Cs.eff (λ(p_1:Nat)=>cond (Nat.ble 0 p_1&&Nat.blt p_1 (0+x_1.b.n)) [Value.int .u8 (x_1.res (0+(p_1-0)))] [Value.int .u8 0]) [] p)) []) [] k) Value.oneCell')=true)/\
 (∀k:Nat,k<64->(Nat.beq (List.length (Cs.eff (Cs.eff (Cs.eff (λ(p:Nat)=>cond (Nat.ble 0 p&&Nat.blt p (0+x_2.b.n)) [Value.int .u8 (x_2.res (0+(p-0)))] (Cs.eff (λ(p_1:Nat)=>cond (Nat.ble 0 p_1&&Nat.blt p_1 (0+x_1.b.n)) [Value.int .u8 (x_1.res (0+(p_1-0)))] [Value.int .u8 0]) [] p)) []) []) [] k)) 1&&List.all (Cs.eff (Cs.eff (Cs.eff (λ(p:Nat)=>cond (Nat.ble 0 p&&Nat.blt p (0+x_2.b.n)) [Value.int .u8 (x_2.res (0+(p-0)))] (Cs.eff (λ(p_1:Nat)=>cond (Nat.ble 0 p_1&&Nat.blt p_1 (0+x_1.b.n)) [Value.int .u8 (x_1.res (0+(p_1-0)))] [Value.int .u8 0]) [] p)) []) []) [] k) Value.oneCell')=true)/\Gf/\ ∃y_2:Unit,True/\aga/\(64=64/\ ∀q:Nat,q<64->[Value.int .u8 (mQ x q)]=Cs.eff (Cs.eff (Cs.eff (Cs.eff (λ(p:Nat)=>cond (Nat.ble 0 p&&Nat.blt p (0+x_2.b.n)) [Value.int .u8 (x_2.res (0+(p-0)))] (Cs.eff (λ(p_1:Nat)=>cond (Nat.ble 0 p_1&&Nat.blt p_1 (0+x_1.b.n)) [Value.int .u8 (x_1.res (0+(p_1-0)))] [Value.int .u8 0]) [] p)) []) []) []) [] q)/\True) (64<=x_2.b.n/\akw x_2/\(∀k:Nat,k<64->(Nat.beq (List.length (Cs.eff (λ(p:Nat)=>cond (Nat.ble 0 p&&Nat.blt p 64) [Value.int .u8 (x_2.res (0+(p-0)))] (Cs.eff (λ(p_1:Nat)=>cond (Nat.ble 0 p_1&&Nat.blt p_1 (0+x_1.b.n)) [Value.int .u8 (x_1.res (0+(p_1-0)))] [Value.int .u8 0]) [] p)) [] k)) 1&&List.all (Cs.eff (λ(p:Nat)=>cond (Nat.ble 0 p&&Nat.blt p 64) [Value.int .u8 (x_2.res (0+(p-0)))] (Cs.eff (λ(p_1:Nat)=>cond (Nat.ble 0 p_1&&Nat.blt p_1 (0+x_1.b.n)) [Value.int .u8 (x_1.res (0+(p_1-0)))] [Value.int .u8 0]) [] p)) [] k) Value.oneCell')=true)/\
 (∀k:Nat,k<64->(Nat.beq (List.length (Cs.eff (Cs.eff (λ(p:Nat)=>cond (Nat.ble 0 p&&Nat.blt p 64) [Value.int .u8 (x_2.res (0+(p-0)))] (Cs.eff (λ(p_1:Nat)=>cond (Nat.ble 0 p_1&&Nat.blt p_1 (0+x_1.b.n)) [Value.int .u8 (x_1.res (0+(p_1-0)))] [Value.int .u8 0]) [] p)) []) [] k)) 1&&List.all (Cs.eff (Cs.eff (λ(p:Nat)=>cond (Nat.ble 0 p&&Nat.blt p 64) [Value.int .u8 (x_2.res (0+(p-0)))] (Cs.eff (λ(p_1:Nat)=>cond (Nat.ble 0 p_1&&Nat.blt p_1 (0+x_1.b.n)) [Value.int .u8 (x_1.res (0+(p_1-0)))] [Value.int .u8 0]) [] p)) []) [] k) Value.oneCell')=true)/\(∀k:Nat,k<64->(Nat.beq (List.length (Cs.eff (Cs.eff (Cs.eff (λ(p:Nat)=>cond (Nat.ble 0 p&&Nat.blt p 64) [Value.int .u8 (x_2.res (0+(p-0)))] (Cs.eff (λ(p_1:Nat)=>cond (Nat.ble 0 p_1&&Nat.blt p_1 (0+x_1.b.n)) [Value.int .u8 (x_1.res (0+(p_1-0)))] [Value.int .u8 0]) [] p)) []) []) [] k)) 1&&List.all (Cs.eff (Cs.eff (Cs.eff (λ(p:Nat)=>cond (Nat.ble 0 p&&Nat.blt p 64) [Value.int .u8 (x_2.res (0+(p-0)))] (Cs.eff (λ(p_1:Nat)=>cond (Nat.ble 0 p_1&&Nat.blt p_1 (0+x_1.b.n)) [Value.int .u8 (x_1.res (0+(p_1-0)))] [Value.int .u8 0]) [] p)) []) []) [] k) Value.oneCell')=true)/\Gf/\ ∃y_2:Unit,True/\aga/\(64=64/\ ∀q:Nat,q<64->[Value.int .u8 (mQ x q)]=Cs.eff (Cs.eff (Cs.eff (Cs.eff (λ(p:Nat)=>cond (Nat.ble 0 p&&Nat.blt p 64) [Value.int .u8 (x_2.res (0+(p-0)))] (Cs.eff (λ(p_1:Nat)=>cond (Nat.ble 0 p_1&&Nat.blt p_1 (0+x_1.b.n)) [Value.int .u8 (x_1.res (0+(p_1-0)))] [Value.int .u8 0]) [] p)) []) []) []) [] q)/\True)) (64<=x_1.b.n/\akw x_1/\Gf/\0+x_1.b.n<=x_1.b.n/\ ∃n:Nat,∃g: ∀a:Nat,Int,x_1.b.n=n/\n<1099511627776/\
 (∀k:Nat,k<n->[Value.int .u8 (x_1.res (0+k))]=[Value.int .u8 (g k)])/\(∀k:Nat,0<=g k/\g k<256)/\True/\ ∃x_2:tH,Hd x_2.ok/\agc x_2 g n/\((x_2.b.N=64/\ ∀q:Nat,q<x_2.b.N->[Value.int .u8 (x_2.b.g q)]=Cs.eff (λ(p:Nat)=>cond (Nat.ble 0 p&&Nat.blt p 64) [Value.int .u8 (x_1.res (0+(p-0)))] [Value.int .u8 0]) [] q)/\True)/\ ∀y_1:Unit,True->True/\Gf/\64<=64/\cP (Nat.ble x_2.b.n 64) (0+x_2.b.n<=x_2.b.n/\akv x_2/\(∀k:Nat,k<64->(Nat.beq (List.length (Cs.eff (λ(p:Nat)=>cond (Nat.ble 0 p&&Nat.blt p (0+x_2.b.n)) [Value.int .u8 (x_2.res (0+(p-0)))] (Cs.eff (λ(p_1:Nat)=>cond (Nat.ble 0 p_1&&Nat.blt p_1 64) [Value.int .u8 (x_1.res (0+(p_1-0)))] [Value.int .u8 0]) [] p)) [] k)) 1&&List.all (Cs.eff (λ(p:Nat)=>cond (Nat.ble 0 p&&Nat.blt p (0+x_2.b.n)) [Value.int .u8 (x_2.res (0+(p-0)))] (Cs.eff (λ(p_1:Nat)=>cond (Nat.ble 0 p_1&&Nat.blt p_1 64) [Value.int .u8 (x_1.res (0+(p_1-0)))] [Value.int .u8 0]) [] p)) [] k) Value.oneCell')=true)/\(∀k:Nat,k<64->(Nat.beq (List.length (Cs.eff (Cs.eff (λ(p:Nat)=>cond (Nat.ble 0 p&&Nat.blt p (0+x_2.b.n)) [Value.int .u8 (x_2.res (0+(p-0)))] (Cs.eff (λ(p_1:Nat)=>cond (Nat.ble 0 p_1&&Nat.blt p_1 64) [Value.int .u8 (x_1.res (0+(p_1-0)))] [Value.int .u8 0]) [] p)) []) [] k)) 1&&List.all (Cs.eff (Cs.eff (λ(p:Nat)=>cond (Nat.ble 0 p&&Nat.blt p (0+x_2.b.n)) [Value.int .u8 (x_2.res (0+(p-0)))] (Cs.eff (λ(p_1:Nat)=>cond (Nat.ble 0 p_1&&Nat.blt p_1 64) [Value.int .u8 (x_1.res (0+(p_1-0)))] [Value.int .u8 0]) [] p)) []) [] k) Value.oneCell')=true)/\
 (∀k:Nat,k<64->(Nat.beq (List.length (Cs.eff (Cs.eff (Cs.eff (λ(p:Nat)=>cond (Nat.ble 0 p&&Nat.blt p (0+x_2.b.n)) [Value.int .u8 (x_2.res (0+(p-0)))] (Cs.eff (λ(p_1:Nat)=>cond (Nat.ble 0 p_1&&Nat.blt p_1 64) [Value.int .u8 (x_1.res (0+(p_1-0)))] [Value.int .u8 0]) [] p)) []) []) [] k)) 1&&List.all (Cs.eff (Cs.eff (Cs.eff (λ(p:Nat)=>cond (Nat.ble 0 p&&Nat.blt p (0+x_2.b.n)) [Value.int .u8 (x_2.res (0+(p-0)))] (Cs.eff (λ(p_1:Nat)=>cond (Nat.ble 0 p_1&&Nat.blt p_1 64) [Value.int .u8 (x_1.res (0+(p_1-0)))] [Value.int .u8 0]) [] p)) []) []) [] k) Value.oneCell')=true)/\Gf/\ ∃y_2:Unit,True/\aga/\(64=64/\ ∀q:Nat,q<64->[Value.int .u8 (mQ x q)]=Cs.eff (Cs.eff (Cs.eff (Cs.eff (λ(p:Nat)=>cond (Nat.ble 0 p&&Nat.blt p (0+x_2.b.n)) [Value.int .u8 (x_2.res (0+(p-0)))] (Cs.eff (λ(p_1:Nat)=>cond (Nat.ble 0 p_1&&Nat.blt p_1 64) [Value.int .u8 (x_1.res (0+(p_1-0)))] [Value.int .u8 0]) [] p)) []) []) []) [] q)/\True) (64<=x_2.b.n/\akw x_2/\(∀k:Nat,k<64->(Nat.beq (List.length (Cs.eff (λ(p:Nat)=>cond (Nat.ble 0 p&&Nat.blt p 64) [Value.int .u8 (x_2.res (0+(p-0)))] (Cs.eff (λ(p_1:Nat)=>cond (Nat.ble 0 p_1&&Nat.blt p_1 64) [Value.int .u8 (x_1.res (0+(p_1-0)))] [Value.int .u8 0]) [] p)) [] k)) 1&&List.all (Cs.eff (λ(p:Nat)=>cond (Nat.ble 0 p&&Nat.blt p 64) [Value.int .u8 (x_2.res (0+(p-0)))] (Cs.eff (λ(p_1:Nat)=>cond (Nat.ble 0 p_1&&Nat.blt p_1 64) [Value.int .u8 (x_1.res (0+(p_1-0)))] [Value.int .u8 0]) [] p)) [] k) Value.oneCell')=true)/\
 (∀k:Nat,k<64->(Nat.beq (List.length (Cs.eff (Cs.eff (λ(p:Nat)=>cond (Nat.ble 0 p&&Nat.blt p 64) [Value.int .u8 (x_2.res (0+(p-0)))] (Cs.eff (λ(p_1:Nat)=>cond (Nat.ble 0 p_1&&Nat.blt p_1 64) [Value.int .u8 (x_1.res (0+(p_1-0)))] [Value.int .u8 0]) [] p)) []) [] k)) 1&&List.all (Cs.eff (Cs.eff (λ(p:Nat)=>cond (Nat.ble 0 p&&Nat.blt p 64) [Value.int .u8 (x_2.res (0+(p-0)))] (Cs.eff (λ(p_1:Nat)=>cond (Nat.ble 0 p_1&&Nat.blt p_1 64) [Value.int .u8 (x_1.res (0+(p_1-0)))] [Value.int .u8 0]) [] p)) []) [] k) Value.oneCell')=true)/\(∀k:Nat,k<64->(Nat.beq (List.length (Cs.eff (Cs.eff (Cs.eff (λ(p:Nat)=>cond (Nat.ble 0 p&&Nat.blt p 64) [Value.int .u8 (x_2.res (0+(p-0)))] (Cs.eff (λ(p_1:Nat)=>cond (Nat.ble 0 p_1&&Nat.blt p_1 64) [Value.int .u8 (x_1.res (0+(p_1-0)))] [Value.int .u8 0]) [] p)) []) []) [] k)) 1&&List.all (Cs.eff (Cs.eff (Cs.eff (λ(p:Nat)=>cond (Nat.ble 0 p&&Nat.blt p 64) [Value.int .u8 (x_2.res (0+(p-0)))] (Cs.eff (λ(p_1:Nat)=>cond (Nat.ble 0 p_1&&Nat.blt p_1 64) [Value.int .u8 (x_1.res (0+(p_1-0)))] [Value.int .u8 0]) [] p)) []) []) [] k) Value.oneCell')=true)/\Gf/\ ∃y_2:Unit,True/\aga/\(64=64/\ ∀q:Nat,q<64->[Value.int .u8 (mQ x q)]=Cs.eff (Cs.eff (Cs.eff (Cs.eff (λ(p:Nat)=>cond (Nat.ble 0 p&&Nat.blt p 64) [Value.int .u8 (x_2.res (0+(p-0)))] (Cs.eff (λ(p_1:Nat)=>cond (Nat.ble 0 p_1&&Nat.blt p_1 64) [Value.int .u8 (x_1.res (0+(p_1-0)))] [Value.int .u8 0]) [] p)) []) []) []) [] q)/\True))))
theorem aa7(x:Nat):UK x=wpF Tryz.prog tblK tt (noA x) 200 5 149 (Eh.args x) (hO Eh.k (Eh.os x)) (λv h'=>eX Eh.k x v h' Eh.outs):=by kernel_rfl
def JI(x:DevM):Prop:=
 ∃x_1:Nat,Hd (10<=x_1/\x_1<=258)/\((x_1:Int)=(x.n:Int)/\True)/\True/\ ∀y:Unit,True-> ∃x_2:lN,Hd (x_2.d.ok/\x_2.k<x_2.d.n/\x_2.b.ok/\x_2.a+x_2.b.n<=64)/\(0=0/\(x_2.k:Int)=0/\(x_2.a:Int)=0/\(x_2.b.q=0/\x_2.b.n=64)/\True)/\(((0=0/\x_2.d.n=x.n/\x_2.d.n=x.n)/\x_2.d.st=x.st/\x_2.d.fl=x.fl/\aku x_2.d x)/\(x_2.d.n*193=x.n*193/\ ∀q:Nat,q<x_2.d.n*193->Cs.eff (kG x_2.d) [] q=Cs.eff (kG x) [] q)/\(x_2.b.N=64/\ ∀q:Nat,q<x_2.b.N->[Value.int .u8 (x_2.b.g q)]=[Value.int .u8 (mQ x_1 q)])/\True)/\ ∀y_1:Unit,True-> ∃x_3:Int,Hd (0<=x_3/\x_3<18446744073709551616)/\(x_3=0/\True)/\True/\ ∀y_2:Unit,True-> ∃x_4:lN,Hd (x_4.d.ok/\x_4.k<x_4.d.n/\x_4.b.ok/\x_4.a+x_4.b.n<=64)/\(0=0/\(x_4.k:Int)=1/\(x_4.a:Int)=0/\(x_4.b.q=0/\x_4.b.n=64)/\True)/\(agd x_4.d x_2.d/\agb x_4.d x_2/\(x_4.b.N=64/\ ∀q:Nat,q<x_4.b.N->[Value.int .u8 (x_4.b.g q)]=[Value.int .u8 (mM x_3 q)])/\True)/\ ∀y_3:Unit,True-> ∃x_5:Tz,Hd (x_5.d.ok/\x_5.k<258)/\(0=0/\(x_5.k:Int)=0/\True)/\(agd x_5.d x_4.d/\agb x_5.d x_4/\True)/\ ∀y_4:Unit,True-> ∃x_6:Tz,Hd (x_6.d.ok/\x_6.k<258)/\(0=0/\(x_6.k:Int)=1/\True)/\ao6 x_6.d x_5/\ ∀y_5:Unit,True-> ∃x_7:DevM,Hd x_7.ok/\(0=0/\True)/\ao6 x_7 x_6/\ ∀y_6:Unit,True-> ∃y_7:DevM,Hd (y_7.ok/\y_7.n=x.n/\y_7.st=x.st+2/\y_7.fl=x.fl+2/\y_7.fe=x.fe+1)/\(0:Int)=0/\((0=0/\y_7.n=x_7.n/\y_7.n=x_7.n)/\y_7.st=x_7.st/\y_7.fl=x_7.fl/\y_7.fe=x_7.fe+1/\y_7.ba=x_7.ba/\y_7.cu=x_7.cu/\True)/\(y_7.n*193=x_7.n*193/\ ∀q:Nat,q<y_7.n*193->Cs.eff (kG y_7) [] q=Cs.eff (kG x_7.fence) [] q)/\True
theorem UL(x:DevM):JI x=wpF Tryz.prog aro tt (noA x) 200 5 90 (Ei.args x) (hO 2 (flatP 1 (Ei.l x))) (λv h'=>endsPK 1 x v h' Ei.outs):=by kernel_rfl
theorem PY(v:Nat)(hv:10<=v/\v<=258):UK v:=by
 have hw:IntKind.u64.wrap (v:Int)=v:=iV (by omega) (by omega);let b0:Bys:=⟨λk=>if k=0 then 4 else if k=1 then 70 else if k=2 then 85 else if k=3 then 83 else if k=4 then 69 else 0,0,9,9⟩
 let x1:tH:=⟨b0,5,4,v,9⟩
 have ok1:x1.ok:=⟨⟨by simp[x1,b0],by simp[x1,b0],λk=>by simp only[x1,b0];grind⟩,by simp[x1,b0],by simp[x1],by simp[x1],by show(0:Int)<=v;omega,by show(v:Int)<256^4;omega⟩;have r1: ∀k,k<9->x1.res k=aa6 v k:=λk hk=>by
  simp only[tH.res,oN,aa6,x1,b0];by_cases h:k<5
  ·rw[if_neg (by omega),aA];grind
  ·rw[if_pos (by omega)];grind
 have u1: ∀k,0<=x1.res k/\x1.res k<256:=yP (λk=>ok1.1.2.2 _) _ _ _;let b1:Bys:=⟨λk=>if k<9 then x1.res k else 0,0,64,64⟩
 let x2:tH:=⟨b1,9,4,ny 0 x1.res 9,64⟩
 have c1:ny 0 x1.res 9=ny 0 (aa6 v) 9:=yO r1;have hU:=Yp 0 x1.res 9
 have ok2:x2.ok:=⟨⟨by simp[x2,b1],by simp[x2,b1],λk=>by
  show 0<=(if k<9 then x1.res k else 0)/\(if k<9 then x1.res k else 0)<256;split
  ·exact u1 k
  ·exact⟨by omega,by omega⟩⟩,by simp[x2,b1],by simp[x2],by simp[x2],hU.1,hU.2⟩
 have w64:IntKind.u64.wrap (ny 0 x1.res 9)=ny 0 x1.res 9:=iV hU.1 (by have:=hU.2;omega);have nb:x1.b.n=9:=rfl;have nb2:x2.b.n=64:=rfl;have ble9:Nat.ble 9 64=true:=rfl;have aou:Nat.ble 64 64=true:=rfl;unfold UK;simp only[agf,Gf,akv,agc,aga,akw,ao5];simp only[aZ,aV,aU,aA,aI,bT,bF,aO,aK,ay,aX,aW,bU,bH,bI,bJ,bV,bD,bK,bC,eY,aH,aN,ah,ak,aB,aF,aC,aG,hw];refine bf (λh=>absurd (aS h) (by omega)) λ_=>bf (λh=>absurd (aS h) (by omega)) λ_=> ?_
 refine⟨x1,ok1,⟨⟨rfl,rfl,rfl⟩,rfl,rfl,rfl⟩,⟨rfl,λq hq=> ?_⟩,by omega,by omega,?_⟩
 ·have hq:q<9:=hq
  match q,hq with
  |0,_|1,_|2,_|3,_|4,_|5,_|6,_|7,_|8,_=>rfl
 simp only[nb,ble9,cP,bU,bH,bI,bJ,bV,bD,bK,bC,eY,aH,aN,ah,ak,aB,aF,aC,aG,aK,aU];refine⟨by omega,by omega,by omega,9,x1.res,rfl,by omega,λ_ _=>rfl,u1,x2,ok2,⟨⟨rfl,rfl,rfl⟩,rfl,rfl,w64.symm⟩,⟨rfl,λq hq=> ?_⟩,by omega,by omega,?_⟩
 ·show(if q<9 then x1.res q else 0)=_
  rw[bQ,dI]
 simp only[nb2,aou,cP,bU,bH,bI,bJ,bV,bD,bK,bC,eY,aH,aN,ah,ak,aB,aF,aC,aG,aK,aU];refine⟨by omega,by omega,λq hq=> ?_⟩;simp[bg.2 hq];show mQ v q=oN (λk=>if 0+k<9 then x1.res (0+k)else 0) 9 4 (ny 0 x1.res 9) q;simp only[mQ,oN,c1,aA];by_cases h:q<9
 ·rw[if_pos h,if_neg (by omega),if_pos h,r1 q h]
 ·by_cases h2:q<13
  ·rw[if_neg h,if_pos h2,if_pos (by omega)]
  ·rw[if_neg h,if_neg h2,if_neg (by omega),if_neg h]
theorem PZ{v:Nat}(hv:v<=258)(k:Nat):0<=mQ v k/\mQ v k<256:=by
 unfold mQ aa6
 repeat' split
 all_goals first|exact lU _ _|omega
theorem DevM.H7{d:DevM}(h:d.ok)(k:Nat)(hf:d.fl+1<1099511627776):(d.flush k).ok:=by
 obtain⟨h1,h2,h3,h4,h5,h6⟩:=h;refine⟨h1,λp=> ?_,h3,?_,h5,h6⟩
 ·simp only[DevM.flush];split<;>exact h2 _
 ·unfold small at*;simp only[DevM.flush];split<;>omega
theorem DevM.aa8{d:DevM}(h:d.ok)(hf:d.fe+1<1099511627776):d.fence.ok:=by
 obtain⟨h1,h2,h3,h4,h5,h6⟩:=h;refine⟨h1,λp=> ?_,h3,h4,?_,h6⟩
 ·simp only[DevM.fence,DevM.iH];split<;>exact h2 _
 ·unfold small at*;simp only[DevM.fence,DevM.iH];omega
theorem DevM.tK{d:DevM}(h:d.ok)(k a n:Nat){g:Nat->Int}(hg: ∀q,0<=g q/\g q<256)(hf:d.st+1<1099511627776):(d.store k a n g).ok:=by
 obtain⟨h1,h2,h3,h4,h5,h6⟩:=h;refine⟨h1,λp=> ?_,?_,h4,h5,h6⟩
 ·simp only[DevM.store]
  split
  ·exact hg _
  ·exact h2 _
 ·unfold small at*;simp only[DevM.store];omega
theorem JJ(x:DevM)(hx:x.ok/\10<=x.n/\x.wide 10):JI x:=by
 obtain⟨ho,hn,w1,w2,w3⟩:=hx;have hn2:=ho.1;let s1:=x.store 0 0 64 (mQ x.n)
 let s2:=s1.store 1 0 64 (mM 0)
 let f1:=s2.flush 0
 let f2:=f1.flush 1
 have o1:s1.ok:=DevM.tK ho _ _ _ (PZ (by omega)) (by omega);have o2:s2.ok:=DevM.tK o1 _ _ _ (OM 0) (by show x.st+1+1<_;omega);have o3:f1.ok:=DevM.H7 o2 0 (by show x.fl+1<_;omega);have e3:f1.fl=x.fl+1:=if_pos (by show 0<x.n;omega);have o4:f2.ok:=DevM.H7 o3 1 (by rw[e3];omega);have e4:f2.fl=x.fl+2:=(if_pos (show 1<x.n by omega)).trans (by rw[e3];omega);have o5:f2.fence.ok:=DevM.aa8 o4 (by show x.fe+1<_;omega);have z1:(x.store 0 0 64 λq=>mQ x.n (0+q))=s1:=by simp only[aA];rfl
 have z2:(s1.store 1 0 64 λq=>mM 0 (0+q))=s2:=by simp only[aA];rfl
 unfold JI;simp only[aku,agd,agb,ao6];simp only[aZ,aV,aU,aA,aI,bT,bF,aO,aK,ay,aX,aW,bU,bH,bI,bJ,bV,bD,bK,bC,eY,aH,aN,ah,ak,aB,aF,aC,aG]
 refine⟨x.n,⟨hn,hn2⟩,rfl,⟨x,0,0,⟨mQ x.n,0,64,64⟩⟩,⟨ho,by show 0<x.n;omega,⟨by simp,by simp,PZ hn2⟩,by simp⟩,⟨rfl,rfl,rfl,rfl⟩,⟨⟨rfl,rfl,rfl,rfl,rfl,rfl⟩,⟨rfl,λq _=>rfl⟩,rfl,λq _=>rfl⟩,
  0,⟨by decide,by decide⟩,rfl,⟨s1,1,0,⟨mM 0,0,64,64⟩⟩,⟨o1,by show 1<x.n;omega,⟨by simp,by simp,OM 0⟩,by simp⟩,⟨rfl,rfl,rfl,rfl⟩,⟨⟨rfl,rfl,rfl,rfl,rfl,rfl⟩,⟨rfl,λq _=> ?_⟩,rfl,λq _=>rfl⟩,
  ⟨s2,0⟩,⟨o2,show 0<258 by decide⟩,rfl,⟨⟨rfl,rfl,rfl,rfl,rfl,rfl⟩,rfl,λq _=> ?_⟩,⟨f1,1⟩,⟨o3,show 1<258 by decide⟩,rfl,⟨⟨rfl,rfl,rfl,rfl,rfl,rfl⟩,rfl,λq _=>rfl⟩,f2,o4,⟨⟨rfl,rfl,rfl,rfl,rfl,rfl⟩,rfl,λq _=>rfl⟩,f2.fence,⟨o5,rfl,by show x.st+1+1=x.st+2;omega,e4,rfl⟩,⟨rfl,rfl,rfl,rfl,rfl,rfl⟩,rfl,λq _=>rfl⟩
 ·show kG s1 q=kG (x.store 0 0 64 λq=>mQ x.n (0+q)) q
  rw[z1]
 ·show kG s2 q=kG (s1.store 1 0 64 λq=>mM 0 (0+q)) q
  rw[z2]
theorem akx:bZ Tryz.prog 149 Eh:=dR dF mixed aeF noA 200 5 (λ_=>rfl) (λ_=>rfl) λx hx=>Eq.mp (aa7 x) (PY x (aZ.1 hx))
theorem aky:dX Tryz.prog aro:= .cons (bP akx) (.cons (bP ajT) (.cons (bP ajY) (.cons (bP ajW) (.cons (bP ajX) .nil))))
theorem agh:bZ Tryz.prog 90 Ei.ctr:=cO dF mixed aky 2 noA 200 5 (λ_=>⟨rfl,rfl,rfl,rfl⟩) λx hx=>Eq.mp (UL x) (JJ x (aZ.1 hx))
noncomputable def agi:jE:=qE Nat (λn=>[i64 n]) 0 (λ_=>[]) (λn=>Hd (1<=n/\n<=258)) (λ_=> .tup [.ptr 0 0,i64 0]) 1 (λn=>[.m (xA n).os])
def agj:jE:=qE Nat (λt=>[i64 t]) 0 (λ_=>[]) (λt=>Hd (1<=t/\t<=4)) (λ_=> .tup [.ptr 0 0,i64 0]) 1 (λt=>[.m (akb t).os])
def agk:jE:=qE (Nat×Int) (λp=>[i64 p.1,u64 p.2]) 0 (λ_=>[]) (λp=>Hd (1<=p.1/\p.1<=4/\0<=p.2/\p.2<=1152921504606846976)) (λ_=> .tup [.ptr 0 0,i64 0]) 1 (λp=>[.m ((aeN p.1 p.2).os 0)])
noncomputable def agl:jE:=qE Nat (λn=>[i64 n]) 0 (λ_=>[]) (λn=>Hd (1<=n/\n<=32)) (λ_=> .tup [.ptr 0 0,i64 0]) 1 (λn=>[.m (gy n n).os])
noncomputable def P5:jE:=qE DevM (λ_=>[.ptr 0 0]) 1 (λd=>[.m d.os]) (λd=>Hd d.ok) (λd=>i64 d.n) 1 (λd=>[.m d.os])
def Y4:iw:=⟨true,0,λ_=>⟨0,0,0,0,0⟩⟩
def akz:ZLn:=⟨0,0,0,0,λ_=>iI⟩
def agm:jE:=qE Unit (λ_=>[]) 0 (λ_=>[]) (λ_=>Hd True) (λ_=> .ptr 0 0) 1 (λ_=>[.m Y4.os])
def agn:jE:=qE Unit (λ_=>[]) 0 (λ_=>[]) (λ_=>Hd True) (λ_=> .ptr 0 0) 1 (λ_=>[.m akz.os])
def Bq:Prop:= ∃y:Unit,True/\(False/\(0:Int)=2/\True)/\False/\False/\True
def P6:Prop:=0=0/\(0:Int)=0/\True
def Gg(a:Nat):Prop:=0=0/\a=a/\a=a
def ao7:Prop:=258=258/\ ∀q:Nat,q<258->[Value.bool false]=[Value.bool false]
def UM(x:Nat):Prop:=
 cP (decide ((x:Int)<1)) Bq (cP (decide ((x:Int)>(258:Int))) Bq ((0<=(x:Int)/\(x:Int)<=(x:Int)/\193*(x:Int)<=281474976710656/\(x:Int)<4611686018427387904)/\ ∃y:Unit,True/\P6/\(Gg x/\(0:Int)=0/\(0:Int)=0/\(0:Int)=0/\(0:Int)=0/\(0:Int)=0/\True)/\(x*193=x*193/\ ∀q:Nat,∀j:Nat,q<x->j<193-> ∃v:Value,getElem? (List.replicate 192 (Value.int .u8 0)++[Value.bool false]) j=some v/\Cs.eff (kG (xA x)) [] (q*193+j)=[v])/\True))
theorem aa9(x:Nat):UM x=wpF Tryz.prog [] tt (noA x) 200 5 48 (agi.args x) (hO 0 (flatP 0 (agi.l x))) (λv h'=>endsPK 0 x v h' agi.outs):=by kernel_rfl
def UN(x:Nat):Prop:=
 cP (decide ((x:Int)<1)) Bq (cP (decide ((x:Int)>(4:Int))) Bq ((0<=(x:Int)/\(x:Int)<=(x:Int)/\8*(x:Int)<=281474976710656/\(x:Int)<4611686018427387904)/\ ∃y:Unit,True/\P6/\((1:Int)=1/\Gg x/\True)/\(x=x/\ ∀q:Nat,q<x->[Value.int .u64 0]=[Value.int .u64 0])/\True))
theorem abb(x:Nat):UN x=wpF Tryz.prog pI tt (noA x) 200 5 79 (agj.args x) (hO 0 (flatP 0 (agj.l x))) (λv h'=>endsPK 0 x v h' agj.outs):=by kernel_rfl
def UO(x:Nat×Int):Prop:=
 cP (decide ((x.1:Int)<1)) Bq (cP (decide ((x.1:Int)>(4:Int))) Bq (cP (decide (x.2>(1152921504606846976:Int))) (∃y:Unit,True/\(False/\(0:Int)=10/\True)/\False/\False/\True) ((0<=(x.1:Int)/\(x.1:Int)<=(x.1:Int)/\8*(x.1:Int)<=281474976710656/\(x.1:Int)<4611686018427387904)/\ ∃y:Unit,True/\P6/\((x.2+1=IntKind.wrap .u64 (x.2+1)/\x.2=x.2/\(0:Int)=0/\(0=0/\x.1=x.1/\x.1=x.1)/\True)/\ao7/\ao7/\Value.nilFunc=Value.nilFunc/\True)/\(x.1=x.1/\ ∀q:Nat,q<x.1->[Value.int .i64 0]=[Value.int .i64 0])/\True)))
theorem abd(x:Nat×Int):UO x=wpF Tryz.prog pI tt (noA x) 200 5 81 (agk.args x) (hO 0 (flatP 0 (agk.l x))) (λv h'=>endsPK 0 x v h' agk.outs):=by kernel_rfl
def UQ(x:Nat):Prop:=
 cP (decide ((x:Int)<1)) Bq (I64 (256:Int)/\((8:Int)=0->False)/\I64 (32:Int)/\cP (decide ((x:Int)>(32:Int))) Bq ((0<=(x:Int)/\(x:Int)<=(x:Int)/\24*(x:Int)<=281474976710656/\(x:Int)<4611686018427387904)/\(∃s:Nat,s<=x/\True/\((s:Int)=0/\True)/\(Gg x/\True)/\(x*10=x*10/\ ∀q:Nat,∀j:Nat,q<x->j<10-> ∃v:Value,getElem? [Value.int .i64 0,Value.bool false,Value.bool false,Value.bool false,Value.bool false,Value.bool false,Value.bool false,Value.bool false,Value.bool false,Value.int .i64 0] j=some v/\Cs.eff (gQ (gy x s)) [] (q*10+j)=[v])/\True)/\(∀s:Nat,s<=x->cP (decide ((s:Int)<(x:Int))) ((0<=(s:Int)/\(s:Int)<(x:Int))/\(0+s)*10+0<x*10/\I64 ((s:Int)+1)/\ ∃s_1:Nat,s_1<=x/\x-s_1<x-s/\((s_1:Int)=(s:Int)+1/\True)/\(Gg x/\True)/\(x*10=x*10/\ ∀q:Nat,q<x*10->Cs.eff (gQ (gy x s_1)) [] q=Cs.eff (gQ (gy x s)) [((0+s)*10+0,[Value.int .i64 (-(1:Int))])] q)/\True) (∃y:Unit,True/\P6/\(Gg x/\True)/\(x*10=x*10/\ ∀q:Nat,q<x*10->Cs.eff (gQ (gy x x)) [] q=Cs.eff (gQ (gy x s)) [] q)/\True))/\True))
theorem abe(x:Nat):UQ x=wpF Tryz.prog [] tt (amN x) 200 5 82 (agl.args x) (hO 0 (flatP 0 (agl.l x))) (λv h'=>endsPK 0 x v h' agl.outs):=by kernel_rfl
def UR(x:DevM):Prop:=
 ∃y:Unit,True/\(x.n:Int)=(x.n:Int)/\(Gg x.n/\x.st=x.st/\x.fl=x.fl/\x.fe=x.fe/\x.ba=x.ba/\x.cu=x.cu/\True)/\(x.n*193=x.n*193/\ ∀q:Nat,q<x.n*193->Cs.eff (kG x) [] q=Cs.eff (kG x) [] q)/\True
theorem abf(x:DevM):UR x=wpF Tryz.prog pI tt (noA x) 200 5 80 (P5.args x) (hO 2 (flatP 1 (P5.l x))) (λv h'=>endsPK 1 x v h' P5.outs):=by kernel_rfl
def agp(x:Unit):Prop:=
 ∃y:Unit,True/\0=0/\(Value.slice none 0 0=Value.slice none 0 0/\True)/\True
theorem agq(x:Unit):agp x=wpF Tryz.prog [] tt (noA x) 200 5 84 (agm.args x) (hO 0 (flatP 0 (agm.l x))) (λv h'=>endsPK 0 x v h' agm.outs):=by kernel_rfl
def agr(x:Unit):Prop:=
 ∃y:Unit,True/\0=0/\(Value.slice none 0 0=Value.slice none 0 0/\(0:Int)=0/\(0:Int)=0/\True)/\True
theorem ags(x:Unit):agr x=wpF Tryz.prog [] tt (noA x) 200 5 87 (agn.args x) (hO 0 (flatP 0 (agn.l x))) (λv h'=>endsPK 0 x v h' agn.outs):=by kernel_rfl
theorem P7(x:Nat)(hx:1<=x/\x<=258):UM x:=by
 have h:=TJ x hx;unfold aeL at h;simp only[Yx,nO,lq]at h;unfold UM;simp only[Bq,P6,Gg];simp only[aZ,aV,aU,aA,aI,bT,bF,aO,aK,ay,aX,aW,bU,bH,bI,bJ,bV,bD,bK,bC,eY,aH,aN,ah,ak,aB,aF,aC,aG]at h ⊢;exact h
theorem P8(x:Nat)(hx:1<=x/\x<=4):UN x:=by
 have h:=Uo x hx;unfold afo at h;simp only[YI,lC]at h;unfold UN;simp only[Bq,P6,Gg];simp only[aZ,aV,aU,aA,aI,bT,bF,aO,aK,ay,aX,aW,bU,bH,bI,bJ,bV,bD,bK,bC,eY,aH,aN,ah,ak,aB,aF,aC,aG]at h ⊢;exact h
theorem P9(x:Nat×Int)(hx:1<=x.1/\x.1<=4/\0<=x.2/\x.2<=1152921504606846976):UO x:=by
 have h:=TK x hx;unfold aeO at h;simp only[Yz,Yy,Hl]at h;unfold UO;simp only[Bq,P6,ao7];simp only[aZ,aV,aU,aA,aI,bT,bF,aO,aK,ay,aX,aW,bU,bH,bI,bJ,bV,bD,bK,bC,eY,aH,aN,ah,ak,aB,aF,aC,aG]at h ⊢;exact h
theorem Qa(x:Nat)(hx:1<=x/\x<=32):UQ x:=by
 have h:=Ue x hx;unfold ae5 at h;simp only[YF,nP,xI]at h;unfold UQ;simp only[Bq,Gg,P6];simp only[aZ,aV,aU,aA,aI,bT,bF,aO,aK,ay,aX,aW,bU,bH,bI,bJ,bV,bD,bK,bC,eY,aH,aN,ah,ak,aB,aF,aC,aG]at h ⊢;exact h
theorem Qb(x:DevM)(_:x.ok):UR x:=by
 unfold UR;simp only[Gg];simp only[aZ,aV,aU,aA,aI,bT,bF,aO,aK,ay,aX,aW,bU,bH,bI,bJ,bV,bD,bK,bC,eY,aH,aN,ah,ak,aB,aF,aC,aG]
theorem akA:bZ Tryz.prog 48 agi.ctr:=cO dF mixed .nil 0 noA 200 5 (λ_=>⟨rfl,rfl,rfl,rfl⟩) λx hx=>Eq.mp (aa9 x) (P7 x (aZ.1 hx))
theorem akB:bZ Tryz.prog 79 agj.ctr:=cO dF mixed dS 0 noA 200 5 (λ_=>⟨rfl,rfl,rfl,rfl⟩) λx hx=>Eq.mp (abb x) (P8 x (aZ.1 hx))
theorem akC:bZ Tryz.prog 81 agk.ctr:=cO dF mixed dS 0 noA 200 5 (λ_=>⟨rfl,rfl,rfl,rfl⟩) λx hx=>Eq.mp (abd x) (P9 x (aZ.1 hx))
theorem akD:bZ Tryz.prog 82 agl.ctr:=cO dF mixed .nil 0 amN 200 5 (λ_=>⟨rfl,rfl,rfl,rfl⟩) λx hx=>Eq.mp (abe x) (Qa x (aZ.1 hx))
theorem akE:bZ Tryz.prog 80 P5.ctr:=cO dF mixed dS 2 noA 200 5 (λ_=>⟨rfl,rfl,rfl,rfl⟩) λx hx=>Eq.mp (abf x) (Qb x (aZ.1 hx))
theorem UU(x:Unit):agp x:=by
 unfold agp;simp only[aZ,aV,aU,aA,aI,bT,bF,aO,aK,ay,aX,aW,bU,bH,bI,bJ,bV,bD,bK,bC,eY,aH,aN,ah,ak,aB,aF,aC,aG]
theorem akF:bZ Tryz.prog 84 agm.ctr:=cO dF mixed .nil 0 noA 200 5 (λ_=>⟨rfl,rfl,rfl,rfl⟩) λx _=>Eq.mp (agq x) (UU x)
theorem UW(x:Unit):agr x:=by
 unfold agr;simp only[aZ,aV,aU,aA,aI,bT,bF,aO,aK,ay,aX,aW,bU,bH,bI,bJ,bV,bD,bK,bC,eY,aH,aN,ah,ak,aB,aF,aC,aG]
theorem akG:bZ Tryz.prog 87 agn.ctr:=cO dF mixed .nil 0 noA 200 5 (λ_=>⟨rfl,rfl,rfl,rfl⟩) λx _=>Eq.mp (ags x) (UW x)
structure ZEff where
 kind:Int
 key:ByteArray
 value:ByteArray
 id:Int
 ver:Int
 epoch:Int
 group:Int
def ZEff.cs(e:ZEff):List Value:=[.int .i64 e.kind,.string e.key,.string e.value,.int .u64 e.id,.int .u64 e.ver,.int .u64 e.epoch,.int .i64 e.group]
structure UY where
 d:DevM
 p:ZPool
 r:ZRd
 c:iM
 b:iw
 l:ZLn
 id:Int
 ver:Int
 n:Nat
 e:Nat->ZEff
namespace UY
end UY
structure ZNew where
 n:Nat
 t:Nat
noncomputable def arp:jf:=[(90,ctrT Ei.ctr)]

theorem UZ(n:Nat)(h:n<=258):(xA n).ok:=⟨h,λ_=>⟨Int.le_refl 0,(by decide:(0:Int)<256)⟩,⟨Int.le_refl 0,(by decide:(0:Int)<1099511627776)⟩,⟨Int.le_refl 0,(by decide:(0:Int)<1099511627776)⟩,⟨Int.le_refl 0,(by decide:(0:Int)<1099511627776)⟩,
 ⟨Int.le_refl 0,(by decide:(0:Int)<1099511627776)⟩,⟨Int.le_refl 0,(by decide:(0:Int)<1099511627776)⟩⟩
theorem akH:dX Tryz.prog arp:= .cons (bP agh) .nil
structure acH where
 b:iw
 l:ZLn
 k:Int
def acH.inL(x:acH):Prop:= ∃i,i<x.l.n/\(x.l.get i).line=x.k
def acH.inB(x:acH):Prop:= ∃i,i<x.b.n/\((x.b.e i).line=x.k\/(x.b.e i).anti=x.k)


def iM.notes(c:iM)(t:Nat)(l:Int):Nat->iM
 |0=>c
 |i+1=>(c.notes t l i).note t (l+i)
structure ZChg where
 a:UY
 t:Nat
 e:Int
 v:ByteArray
 key:ByteArray
 had:Bool
 old:ZLnk
 k:Nat
 c:Int
namespace ZChg
end ZChg





structure ZFr where
 key:ByteArray
 value:ByteArray
 epoch:Int
 had:Bool
 old:ZLnk
 line:Int
 cls:Int
 piece:Int
 code:Int
 found:Bool
 ans:ByteArray
 aep:Int
namespace ZFr
end ZFr
def abg(g:Nat->Int)(n:Nat):dB:= .room 5 (rowB g n)
structure ao8 where
 k:Int
 key:ByteArray
 value:ByteArray
 to:ByteArray
 ph:Int
 ep:Int
 pos:ByteArray
 past:Bool
 lev:Int
 had:Bool
 okey:ByteArray
 oid:Int
 over:Int
 ao9:Int
 ocls:Int
 line:Int
 cls:Int
 piece:Int
 at_:Int
 code:Int
 found:Bool
 ans:ByteArray
 aep:Int
def ao8.l(x:ao8):List AV:=[i64 x.k,.lit (.string x.key),.lit (.string x.value),.lit (.string x.to),gY,i64 x.ph,u64 x.ep,.lit (.string x.pos),boo x.past,i64 x.lev,boo x.had,.lit (.string x.okey),u64 x.oid,u64 x.over,i64 x.ao9,i64 x.ocls,i64 x.line,i64 x.cls,i64 x.piece,gY,i64 x.at_,gY,i64 x.code,boo x.found,.lit (.string x.ans),gY,gY,u64 x.aep]
noncomputable def yY:Ctr:=det ao8 (λx=>[.agg x.l]) 0 (λ_=>[]) (λ_=>True) (λx=> .agg x.l) 0 (λ_=>[])
inductive Tg where
 |i|u|s|b|n
def acI:Tg->AV->Bool
 | .i,.lit (.int .i64 _)=>true
 | .u,.lit (.int .u64 _)=>true
 | .s,.lit (.string _)=>true
 | .b,.lit (.bool _)=>true
 | .n,.lit (.slice none 0 0)=>true
 |_,_=>false
def shp:List Tg->List AV->Bool
 |[],[]=>true
 |t::ts,v::vs=>acI t v&&shp ts vs
 |_,_=>false
def tgs:List Tg:=[.i,.s,.s,.s,.n,.i,.u,.s,.b,.i,.b,.s,.u,.u,.i,.i,.i,.i,.i,.n,.i,.n,.i,.b,.s,.n,.n,.u]
theorem dW{t:Tg}{ts:List Tg}{l:List AV}(h:shp (t::ts) l=true): ∃v vs,l=v::vs/\acI t v=true/\shp ts vs=true:=by
 cases l with
 |nil=>simp[shp]at h
 |cons v vs=>simp only[shp,aJ]at h;exact⟨v,vs,rfl,h.1,h.2⟩
theorem apa{l:List AV}(h:shp [] l=true):l=[]:=by
 cases l with
 |nil=>rfl
 |cons v vs=>simp[shp]at h
theorem aiT{v:AV}(h:acI .i v=true): ∃z,v=i64 z:=by
 unfold acI at h;split at h<;>first|contradiction|exact⟨_,rfl⟩
theorem tg_u{v:AV}(h:acI .u v=true): ∃z,v=u64 z:=by
 unfold acI at h;split at h<;>first|contradiction|exact⟨_,rfl⟩
theorem aqf{v:AV}(h:acI .s v=true): ∃z,v= .lit (.string z):=by
 unfold acI at h;split at h<;>first|contradiction|exact⟨_,rfl⟩
theorem tg_b{v:AV}(h:acI .b v=true): ∃z,v=boo z:=by
 unfold acI at h;split at h<;>first|contradiction|exact⟨_,rfl⟩
theorem arq{v:AV}(h:acI .n v=true):v=gY:=by
 unfold acI at h;split at h<;>first|contradiction|rfl
theorem shp_l{l:List AV}(h:shp tgs l=true): ∃x:ao8,l=x.l:=by
 obtain⟨v0,r0,rfl,a0,h0⟩:=dW h;obtain⟨v1,r1,rfl,a1,h1⟩:=dW h0;obtain⟨v2,r2,rfl,a2,h2⟩:=dW h1;obtain⟨v3,r3,rfl,a3,h3⟩:=dW h2;obtain⟨v4,r4,rfl,a4,h4⟩:=dW h3;obtain⟨v5,r5,rfl,a5,h5⟩:=dW h4;obtain⟨v6,r6,rfl,a6,h6⟩:=dW h5;obtain⟨v7,r7,rfl,a7,h7⟩:=dW h6;obtain⟨v8,r8,rfl,a8,h8⟩:=dW h7;obtain⟨v9,r9,rfl,a9,h9⟩:=dW h8;obtain⟨v10,r10,rfl,a10,h10⟩:=dW h9;obtain⟨v11,r11,rfl,a11,h11⟩:=dW h10;obtain⟨v12,r12,rfl,a12,h12⟩:=dW h11;obtain⟨v13,r13,rfl,a13,h13⟩:=dW h12;obtain⟨v14,r14,rfl,a14,h14⟩:=dW h13;obtain⟨v15,r15,rfl,a15,h15⟩:=dW h14;obtain⟨v16,r16,rfl,a16,h16⟩:=dW h15;obtain⟨v17,r17,rfl,a17,h17⟩:=dW h16;obtain⟨v18,r18,rfl,a18,h18⟩:=dW h17;obtain⟨v19,r19,rfl,a19,h19⟩:=dW h18;obtain⟨v20,r20,rfl,a20,h20⟩:=dW h19;obtain⟨v21,r21,rfl,a21,h21⟩:=dW h20;obtain⟨v22,r22,rfl,a22,h22⟩:=dW h21;obtain⟨v23,r23,rfl,a23,h23⟩:=dW h22;obtain⟨v24,r24,rfl,a24,h24⟩:=dW h23;obtain⟨v25,r25,rfl,a25,h25⟩:=dW h24;obtain⟨v26,r26,rfl,a26,h26⟩:=dW h25;obtain⟨v27,r27,rfl,a27,h27⟩:=dW h26;obtain rfl:=apa h27;obtain⟨z0,rfl⟩:=aiT a0;obtain⟨z1,rfl⟩:=aqf a1;obtain⟨z2,rfl⟩:=aqf a2;obtain⟨z3,rfl⟩:=aqf a3;obtain rfl:=arq a4;obtain⟨z5,rfl⟩:=aiT a5;obtain⟨z6,rfl⟩:=tg_u a6;obtain⟨z7,rfl⟩:=aqf a7;obtain⟨z8,rfl⟩:=tg_b a8;obtain⟨z9,rfl⟩:=aiT a9;obtain⟨z10,rfl⟩:=tg_b a10;obtain⟨z11,rfl⟩:=aqf a11;obtain⟨z12,rfl⟩:=tg_u a12;obtain⟨z13,rfl⟩:=tg_u a13;obtain⟨z14,rfl⟩:=aiT a14;obtain⟨z15,rfl⟩:=aiT a15;obtain⟨z16,rfl⟩:=aiT a16;obtain⟨z17,rfl⟩:=aiT a17;obtain⟨z18,rfl⟩:=aiT a18;obtain rfl:=arq a19;obtain⟨z20,rfl⟩:=aiT a20;obtain rfl:=arq a21;obtain⟨z22,rfl⟩:=aiT a22;obtain⟨z23,rfl⟩:=tg_b a23;obtain⟨z24,rfl⟩:=aqf a24;obtain rfl:=arq a25;obtain rfl:=arq a26;obtain⟨z27,rfl⟩:=tg_u a27;exact⟨⟨z0,z1,z2,z3,z5,z6,z7,z8,z9,z10,z11,z12,z13,z14,z15,z16,z17,z18,z20,z22,z23,z24,z27⟩,rfl⟩
def abh:Prop:=Value.slice none 0 0=Value.slice none 0 0
def Ej(x:ao8):Prop:=
 ∃y:Unit,True/\(x.k=x.k/\x.key=x.key/\x.value=x.value/\x.to=x.to/\abh/\x.ph=x.ph/\x.ep=x.ep/\x.pos=x.pos/\x.past=x.past/\x.lev=x.lev/\x.had=x.had/\x.okey=x.okey/\x.oid=x.oid/\x.over=x.over/\x.ao9=x.ao9/\x.ocls=x.ocls/\x.line=x.line/\x.cls=x.cls/\x.piece=x.piece/\abh/\x.at_=x.at_/\abh/\x.code=x.code/\x.found=x.found/\x.ans=x.ans/\abh/\abh/\x.aep=x.aep/\True)/\True
theorem Qc(x:ao8):Ej x=wpF Tryz.prog [] tt (noA x) 200 6 52 (yY.args x) (hO yY.k (yY.os x)) (λv h'=>eX yY.k x v h' yY.outs):=by kernel_rfl
theorem JK{P:Program}{f:FuncId}{X:Type}{args:X->List AV}{pre:X->Prop}{ret:X->AV}(hC:bZ P f (det X args 0 (λ_=>[]) pre ret 0 (λ_=>[])))(x:X)(hp:pre x)(h:Heap)(ha:(args x).all kF=true)(hr:kF (ret x)=true){K:AV->Heap->Prop}(hK:K (ret x) h):Sp P f (args x) h K:=
 (Yj h (Ti hC x hp) (λ_ _ hv=>hv) ha hr).mono λ_ _ hh=>by obtain⟨rfl,rfl⟩:=hh;exact hK
def agt:WTr:=λargs h K=>match args with
 |[.lit (.int .i64 c)]=>K (i64 (spn c)) h
 |_=>False
theorem JL(args:List AV)(h:Heap)(K:AV->Heap->Prop)(hq:agt args h K):Sp Tryz.prog 113 args h K:=by
 unfold agt at hq;split at hq
 ·exact JK mO _ trivial h rfl rfl hq
 ·exact hq.elim
namespace ZChg
end ZChg
def emp:ByteArray:=⟨#[]⟩
theorem Gh(x:ao8):Ej x:=by
 unfold Ej;simp only[abh];simp only[aZ,aV,aU,aA,aI,bT,bF,aO,aK,ay,aX,aW,bU,bH,bI,bJ,bV,bD,bK,bC,eY,aH,aN,ah,ak,aB,aF,aC,aG]
theorem abj:bZ Tryz.prog 52 yY:=dR dF mixed .nil noA 200 6 (λ_=>rfl) (λ_=>rfl) λx _=>Eq.mp (Qc x) (Gh x)
def noAn0:FuncId->qA:=λ_ _ _ _=>[]
noncomputable def agu:WTr:=λargs h K=>match args with
 |[.agg l]=>bif shp tgs l then K (.agg l) h else wpF Tryz.prog [] tt noAn0 200 6 52 args h K
 |_=>False
theorem agv(args:List AV)(h:Heap)(K:AV->Heap->Prop)(hq:agu args h K):Sp Tryz.prog 52 args h K:=by
 unfold agu at hq;split at hq
 ·rename_i l
  cases hs:shp tgs l<;>rw[hs]at hq
  ·exact Ar dF mixed .nil _ _ _ _ _ _ _ hq
  ·obtain⟨x,rfl⟩:=shp_l hs
   refine(Yj h (Ti abj x trivial) (λ_ _ hv=>hv) (by rfl) (by rfl)).mono ?_
   rintro v h' ⟨rfl,rfl⟩
   exact hq
 ·exact hq.elim
def apb:WTr:=λargs h K=>match args with
 |[.lit (.int .i64 c)]=>K (i64 (ned c)) h
 |_=>False
theorem akI(args:List AV)(h:Heap)(K:AV->Heap->Prop)(hq:apb args h K):Sp Tryz.prog 201 args h K:=by
 unfold apb at hq;split at hq
 ·exact JK aeX _ trivial h rfl rfl hq
 ·exact hq.elim
noncomputable def Em:jf:=[(52,agu)]
noncomputable def apc:jf:=Em++[(113,agt),(63,ctrT Ea),(62,ctrT Hq.ctr)]
noncomputable def apd:jf:=Em++[(211,ctrT OY.ctr)]




theorem qJ(c:iM)(t:Nat)(l:Int): ∀i,(c.notes t l i).t=c.t
 |0=>rfl
 |i+1=>qJ c t l i
theorem oP(c:iM)(t:Nat)(l:Int): ∀i,(c.notes t l i).now=c.now
 |0=>rfl
 |i+1=>oP c t l i
theorem U0(c:iM)(t:Nat)(l:Int)(hc: ∀k,0<=c.o k): ∀i k,0<=(c.notes t l i).o k/\(c.notes t l i).o k<=c.o k+i
 |0,k=>⟨hc k,by show c.o k<=c.o k+((0:Nat):Int);omega⟩
 |i+1,k=>by
  have ih:=U0 c t l hc i k;show 0<=(if k=t/\0<=l+i/\l+i<258 then(c.notes t l i).o k+1 else(c.notes t l i).o k)/\(if k=t/\0<=l+i/\l+i<258 then(c.notes t l i).o k+1 else(c.notes t l i).o k)<=_;split<;>omega
theorem xZ{c:iM}(h:c.ok)(hc: ∀k,c.o k+8<1099511627776)(t:Nat)(l:Int){i:Nat}(hi:i<=8):(c.notes t l i).ok:=by
 have hd: ∀i,(c.notes t l i).dur=c.dur/\(c.notes t l i).OL=c.OL:=λi=>by
  induction i with
  |zero=>exact⟨rfl,rfl⟩
  |succ i ih=>exact ih
 refine⟨by rw[qJ];exact h.1,by rw[qJ];exact h.2.1,by rw[oP];exact h.2.2.1,by rw[(hd i).1];exact h.2.2.2.1,by rw[(hd i).2];exact h.2.2.2.2.1,λk=> ?_⟩;have h1:=U0 c t l (λk=>(h.2.2.2.2.2 k).1) i k;have h2:=hc k;exact⟨h1.1,by omega⟩
theorem uV(b:ZBlk):b.dK<=8/\(b.dK:Int)=spn b.cls:=by
 have:=dM b.cls;unfold ZBlk.dK;omega
theorem ZLnk.ext5{a b:ZLnk}(h1:a.key=b.key)(h2:a.id=b.id)(h3:a.ver=b.ver)(h4:a.line=b.line)(h5:a.cls=b.cls):a=b:=by
 cases a;cases b;simp_all
theorem Y5(d:DevM)(k a n:Nat)(g:Nat->Int):d.store k a n (λq=>g (0+q))=d.store k a n g:=by
 simp only[aA]
theorem BX{b:ZBlk}(h:b.may):1<=b.dK:=by
 have:=dM b.cls;have h0:=h.1;unfold ZBlk.dK;omega

theorem Qd{c:Int}(h:0<=c/\c<=3):spn c≠0:=by
 rcases dM c with h'|h'|h'|h'|h'<;>omega
theorem agw{c:Int}(h:0<=c/\c<=3):ZBlk.may ⟨c,0,0,0,0,⟨#[]⟩,⟨#[]⟩⟩:=⟨Qd h,.inl ⟨rfl,rfl,rfl,rfl,rfl,rfl⟩⟩
theorem Y6{c:Int}(h:0<=c/\c<=3)(k:Nat):0<=(ZBlk.mk c 0 0 0 0 ⟨#[]⟩ ⟨#[]⟩).jF (λ_=>0) (cpc c).toNat k/\(ZBlk.mk c 0 0 0 0 ⟨#[]⟩ ⟨#[]⟩).jF (λ_=>0) (cpc c).toNat k<256:=by
 have hd:(ZBlk.mk c 0 0 0 0 ⟨#[]⟩ ⟨#[]⟩).dat=λ_=>0:=by
  funext i;unfold ZBlk.dat;rw[if_neg];exact Nat.not_lt_zero i
 by_cases hk:k<64
 ·have:=xY (agw h) k
  unfold ZBlk.enc at this;rw[if_pos hk,hd]at this;exact this
 ·unfold ZBlk.jF
  rw[if_neg (by omega),if_neg (by omega)];exact⟨Int.le_refl 0,show(0:Int)<256 by decide⟩
theorem agx{s:ByteArray}{a k:Nat}(hk:a+k<s.size):dY (s.extract a s.size) k=dY s (a+k):=by
 unfold dY;rw[ByteArray.data_extract];have h1:a+k<s.data.size:=hk;simp only[List.getD_eq_getElem?_getD,Array.getElem?_toList,Array.getElem?_extract];rw[if_pos (by have:s.size=s.data.size:=rfl;omega)]
theorem agy(x:ZBlk){m:Nat}(h:64<=m):0<=x.enc m/\x.enc m<256:=by
 unfold ZBlk.enc;rw[if_neg (by omega)];split
 ·decide
 ·exact JE _ _
theorem jl:dX Tryz.prog Em:= .cons agv .nil
theorem Y7:dX Tryz.prog apc:= .append jl (.cons JL (.cons (bP akq) (.cons (bP O9) .nil)))
theorem Y8:dX Tryz.prog apd:= .append jl (.cons (bP ake) .nil)


end Go.Proofs.YtenfleoejgjklaaGreat
end
section
namespace Go.Proofs.YtenfleoejgjklaaGreat.SE
open Go
theorem qK{P:Program}{T:WTr}{f:FuncId}(hT: ∀args h K,T args h K->Sp P f args h K){C:jE}(N:Nat)
  (hk: ∀x,(C.l x).length=C.k/\(flatP C.k (C.l x)).length=N/\(C.l x).all (PO.good C.k)=true/\gI C.k (C.args x)=true)
  (hq: ∀x,C.pre x->T (C.args x) (hO N (flatP C.k (C.l x))) (λv h'=>endsPK C.k x v h' C.outs)):bZ P f C.ctr:=λx hp=>by
 obtain⟨h1,h2,h3,h4⟩:=hk x;refine⟨by simp only[jE.ctr,List.length_map];exact h1,?_⟩;have hs:=hT _ _ _ (hq x hp);rw[<-h2,<-h1]at hs;refine⟨hs.1,λρ T w vs hR hl=> ?_⟩;have hR0:Rel (hOf ((C.l x).map PO.ab)) ρ T w:=by rw[hOf,List.length_map,h1];exact hR
 obtain⟨ρ',r1,r2,r3⟩:=Rel.aer (by rw[h1];exact h3) hR0;refine(hs.2 ρ' T w vs r3 (dP.mono r2 _ _ hl)).mono ?_
 rintro e w' ⟨ρ2,v,u,h',c1,c2,c3,c4,c5,c6,c7⟩
 obtain⟨v0,h0,g1,g2⟩:=yN c7;obtain⟨ρ3,q1,q2,q3⟩:=g1.2 ρ2 T w' u c3 c4;refine⟨ρ3,v0,u,h0,λj hj=> ?_,?_,q2,q3,c5,c6,g2⟩
 ·have hj':j<C.k:=hj
  have hle:C.k<=(flatP C.k (C.l x)).length:=by unfold flatP;rw[List.length_append,gB,h1];omega
  rw[q1 j (by rw[h1];exact hj'),c1 j (by show j<(flatP _ _).length;rw[h1];omega),r1 j (by rw[h1];exact hj')]
 ·have:=g1.1;rw[h1]at this;exact this
end Go.Proofs.YtenfleoejgjklaaGreat.SE
end
section
namespace Go.Proofs.YtenfleoejgjklaaGreat
open Go SE

namespace UY
end UY

structure ZPb where
 a:UY
 f:ZFr
 t:Nat
 ln:Nat
namespace ZPb
end ZPb


theorem amY{P:Program}{f:FuncId}(b:Bool){T U:WTr}(hT: ∀args h K,T args h K->Sp P f args h K)(hU: ∀args h K,U args h K->Sp P f args h K): ∀args h K,(bif b then T else U) args h K->Sp P f args h K:=by
 cases b
 ·exact hU
 ·exact hT
def intL(l:List AV)(i:Nat):Int:=match l[i]? with
 |some (AV.lit (.int _ z))=>z
 |_=>0
def hasB(l:List AV):Bool:=match l[19]? with
 |some (AV.slW _ _ _ _)=>true
 |_=>false
structure ZCl where
 k:Int
 key:ByteArray
 value:ByteArray
 to:ByteArray
def ZCl.l(x:ZCl):List AV:=[i64 x.k,.lit (.string x.key),.lit (.string x.value),.lit (.string x.to),gY]
def ZCl.fr(x:ZCl):List AV:=x.l++[i64 0,u64 0,.lit (.string ⟨#[]⟩),boo false,i64 0,boo false,.lit (.string ⟨#[]⟩),u64 0,u64 0,i64 0,i64 0,i64 (-1),i64 0,i64 0,gY,i64 0,gY,i64 0,boo false,.lit (.string ⟨#[]⟩),gY,gY,u64 0]
noncomputable def H8:Ctr:=det ZCl (λx=>[.agg x.l]) 0 (λ_=>[]) (λ_=>True) (λx=> .agg x.fr) 0 (λ_=>[])
def Qe:WTr:=λargs h K=>match args with
 |[.agg [.lit (.int .i64 k),.lit (.string key),.lit (.string v),.lit (.string to),.lit (.slice none 0 0)]]=>K (.agg (ZCl.mk k key v to).fr) h
 |_=>False
def agz(code:Int)(found:Bool)(v:ByteArray)(ep:Int):AV:= .agg [i64 code,boo found,.lit (.string v),gY,gY,u64 ep]
def byAt(h:Heap):Bool:=match cellAt h 3 19 with
 |some (.slW _ _ _ _)=>true
 |_=>false
structure ZRun where
 a:UY
 t:Nat
 key:ByteArray
 v:ByteArray
 b:ZBlk
namespace ZRun
end ZRun
def ape(k:Int)(key v:ByteArray):AV:= .agg [i64 k,.lit (.string key),.lit (.string v),.lit (.string ⟨#[]⟩),gY]
def abk:Prop:=Value.slice none 0 0=Value.slice none 0 0
def akJ:Prop:=ByteArray.mk #[]=ByteArray.mk #[]
def ars:Prop:=false=false/\akJ/\abk/\abk/\(0:Int)=0/\True
def amZ:Prop:=(0:Int)=0/\ars
def JM(x:ZCl):Prop:=
 ∃y:Unit,True/\(x.k=x.k/\x.key=x.key/\x.value=x.value/\x.to=x.to/\abk/\(0:Int)=0/\(0:Int)=0/\akJ/\false=false/\(0:Int)=0/\false=false/\akJ/\(0:Int)=0/\(0:Int)=0/\(0:Int)=0/\(0:Int)=0/\(-(1:Int))=(-(1:Int))/\(0:Int)=0/\(0:Int)=0/\abk/\(0:Int)=0/\abk/\amZ)/\True
theorem U1(x:ZCl):JM x=wpF Tryz.prog [] tt (noA x) 200 6 17 (H8.args x) (hO H8.k (H8.os x)) (λv h'=>eX H8.k x v h' H8.outs):=by kernel_rfl
def JO(f:Nat->Bool):Nat->Nat
 |0=>0
 |n+1=>JO f n+(bif f n then 1 else 0)
theorem agA(f:Nat->Bool): ∀n,JO f n<=n
 |0=>aY _
 |n+1=>by
  have:=agA f n;simp only[JO];cases f n<;>simp<;>omega
theorem agB{f:Nat->Bool}{k:Nat}(hf:f k=false): ∀{n},k<n->JO f n<n
 |n+1,h=>by
  simp only[JO];by_cases e:k=n
  ·subst e;rw[hf];have:=agA f k;simp;omega
  ·have:=agB hf (n:=n) (by omega)
   cases f n<;>simp<;>omega
theorem tN{f g:Nat->Bool}: ∀{n},(∀k,k<n->f k=g k)->JO f n=JO g n
 |0,_=>rfl
 |n+1,h=>by simp only[JO];rw[tN λk hk=>h k (by omega),h n (by omega)]
theorem Y9{f:Nat->Bool}{k:Nat}(hf:f k=false): ∀{n},k<n->JO (λq=>if q=k then true else f q) n=JO f n+1
 |n+1,h=>by
  simp only[JO];by_cases e:k=n
  ·subst e
   rw[tN (g:=f) λq hq=>if_neg (by omega),hf];simp
  ·rw[Y9 hf (n:=n) (by omega),if_neg (by omega)];omega
theorem Qg{f:Nat->Bool}(h: ∀k,f k=false): ∀n,JO f n=0
 |0=>rfl
 |n+1=>by simp only[JO,h,Qg h n];rfl
namespace ZPool
def at_(p:ZPool)(L:Int)(i j:Nat):Prop:=i<p.n/\0<=p.cls i/\j<many (p.cls i)/\p.tk i j=true/\L=2+i*8+j*spn (p.cls i)
def has(p:ZPool)(L:Int):Prop:= ∃i j,p.at_ L i j
def good(p:ZPool):Prop:=p.ok/\ ∀i,i<p.n->(p.cls i= -1-> ∀k,p.tk i k=false)/\(∀k,p.tk i k=true->k<many (p.cls i))/\p.cnt i=(JO (p.tk i) 8:Nat)
end ZPool
theorem oQ{p:ZPool}(hp:p.good){c:Int}{i k:Nat}(h:p.takes c i k):i<p.n/\k<ZPool.many c/\p.tk i k=false/\(p.cls i=c\/p.cls i= -1):=by
 obtain⟨h1,h2,h3,h4⟩:=h;refine⟨h1,h2,?_,?_⟩
 ·rcases h4 with ⟨h4,_⟩|⟨h4,_⟩
  ·rw[if_pos h4]at h3;exact h3
  ·exact(hp.2 i h1).1 h4 k
 ·rcases h4 with ⟨h4,_⟩|⟨h4,_⟩
  ·exact .inl h4
  ·exact .inr h4
theorem apf(c:Int):ZPool.many c<=8:=by rcases gG c with h|h|h|h|h<;>omega
theorem agC{p:ZPool}(hp:p.good){c:Int}(hc:0<=c/\c<=3){i k:Nat}(h:p.takes c i k):(p.take c i k).good:=by
 obtain⟨h1,h2,h3,h4⟩:=oQ hp h;obtain⟨⟨o1,o2,o3⟩,hg⟩:=hp;have hm:=apf c;have hlt:JO (p.tk i) 8<8:=agB h3 (by omega);refine⟨⟨o1,o2,λj hj=> ?_⟩,λj hj=> ?_⟩
 ·have hj':j<p.n:=hj
  have a1:=o3 j hj';have a2:=(hg j hj').2.2;by_cases e:j=i
  ·subst e
   refine⟨by show-1<=(if j=j then c else _);rw[if_pos rfl];omega,by show(if j=j then c else _)<=3;rw[if_pos rfl];omega,by show 0<=(if j=j then p.cnt j+1 else _);rw[if_pos rfl];omega,by show(if j=j then p.cnt j+1 else _)<=8;rw[if_pos rfl];omega⟩
  ·refine⟨by show-1<=(if j=i then c else p.cls j);rw[if_neg e];omega,by show(if j=i then c else p.cls j)<=3;rw[if_neg e];omega,by show 0<=(if j=i then p.cnt j+1 else p.cnt j);rw[if_neg e];omega,by show(if j=i then p.cnt j+1 else p.cnt j)<=8;rw[if_neg e];omega⟩
 ·have hj':j<p.n:=hj
  have a2:=hg j hj';by_cases e:j=i
  ·subst e
   refine⟨λhh=> ?_,λq hq=> ?_,?_⟩
   ·have:(if j=j then c else p.cls j)= -1:=hh
    rw[if_pos rfl]at this;omega
   ·have hq:(if j=j/\q=k then true else p.tk j q)=true:=hq
    show q<ZPool.many (if j=j then c else p.cls j);rw[if_pos rfl];by_cases eq:q=k
    ·omega
    ·rw[if_neg (λhh=>eq hh.2)]at hq
     have:=a2.2.1 q hq;rcases h4 with h4|h4
     ·rwa [h4]at this
     ·rw[a2.1 h4 q]at hq;cases hq
   ·show(if j=j then p.cnt j+1 else p.cnt j)=(JO (λq=>if j=j/\q=k then true else p.tk j q) 8:Nat)
    have e1:JO (λq=>if j=j/\q=k then true else p.tk j q) 8=JO (p.tk j) 8+1:=by
     rw[<-Y9 h3 (show k<8 by omega)];exact tN λq _=>by by_cases e:q=k<;>simp[e]
    rw[if_pos rfl,a2.2.2,e1];omega
  ·refine⟨λhh q=> ?_,λq hq=> ?_,?_⟩
   ·have hh:(if j=i then c else p.cls j)= -1:=hh
    rw[if_neg e]at hh;show(if j=i/\q=k then true else p.tk j q)=false;rw[if_neg (λh=>e h.1)];exact a2.1 hh q
   ·have hq:(if j=i/\q=k then true else p.tk j q)=true:=hq
    rw[if_neg (λh=>e h.1)]at hq;show q<ZPool.many (if j=i then c else p.cls j);rw[if_neg e];exact a2.2.1 q hq
   ·show(if j=i then p.cnt j+1 else p.cnt j)=(JO (λq=>if j=i/\q=k then true else p.tk j q) 8:Nat)
    rw[if_neg e,a2.2.2,tN (g:=p.tk j) (λq _=>if_neg (λh=>e h.1))]
theorem akK{p:ZPool}(hp:p.good){c:Int}(hc:0<=c/\c<=3){i k:Nat}(h:p.takes c i k){L:Int}{i' j':Nat}(hL:p.at_ L i' j'):L+spn (p.cls i')<=2+i*8+k*spn c\/2+i*8+k*spn c+spn c<=L:=by
 obtain⟨h1,h2,h3,h4⟩:=oQ hp h;obtain⟨a1,a2,a3,a4,rfl⟩:=hL;have a5:=(hp.1.2.2 i' a1).2.1;by_cases e:i'=i
 ·subst e
  have hcc:p.cls i'=c:=by
   rcases h4 with h4|h4
   ·exact h4
   ·omega
  rw[hcc]at a3 ⊢;have hne:j'≠k:=λe=>by subst e;rw[h3]at a4;cases a4
  rcases gG c with m|m|m|m|m<;>obtain⟨m1,m2,m3⟩:=m<;>rw[m2]<;>omega
 ·rcases gG c with m|m|m|m|m<;>rcases gG (p.cls i')with m'|m'|m'|m'|m'<;>obtain⟨m1,m2,m3⟩:=m<;>obtain⟨m1',m2',m3'⟩:=m'<;>rw[m2,m2']<;>omega
theorem akL{p:ZPool}(hp:p.good){c:Int}(hc:0<=c/\c<=3){i k:Nat}(h:p.takes c i k): ¬p.has (2+i*8+k*spn c):=λ⟨i',j',hL⟩=>by
 have h1:=akK hp hc h hL;have h2:=Qd hc;have h3:=Qd ⟨hL.2.1,(hp.1.2.2 i' hL.1).2.1⟩;have s1:=dM c;have s2:=dM (p.cls i');omega
theorem apg{p:ZPool}(hp:p.good){c:Int}{i k:Nat}(h:p.takes c i k){L:Int}{i' j':Nat}(hL:p.at_ L i' j'):(p.take c i k).at_ L i' j'/\(p.take c i k).cls i'=p.cls i':=by
 obtain⟨h1,h2,h3,h4⟩:=oQ hp h;obtain⟨a1,a2,a3,a4,a5⟩:=hL;have hcl:(p.take c i k).cls i'=p.cls i':=by
  show(if i'=i then c else p.cls i')=_;split
  ·rename_i e
   subst e;rcases h4 with h4|h4
   ·exact h4.symm
   ·omega
  ·rfl
 refine⟨⟨a1,by rw[hcl];exact a2,by rw[hcl];exact a3,?_,by rw[hcl];exact a5⟩,hcl⟩;show(if i'=i/\j'=k then true else p.tk i' j')=true;split
 ·rfl
 ·exact a4
theorem at_new{p:ZPool}(hp:p.good){c:Int}(hc:0<=c){i k:Nat}(h:p.takes c i k):(p.take c i k).at_ (2+i*8+k*spn c) i k/\(p.take c i k).cls i=c:=by
 obtain⟨h1,h2,h3,h4⟩:=oQ hp h;have hcl:(p.take c i k).cls i=c:=if_pos rfl;refine⟨⟨h1,by rw[hcl];exact hc,by rw[hcl];exact h2,if_pos ⟨rfl,rfl⟩,by rw[hcl]⟩,hcl⟩
theorem abl{p:ZPool}(hp:p.good){c:Int}(hc:0<=c/\c<=3){i j:Nat}(h:p.takes c i j):((2+i*8+j*(spn c).toNat:Nat):Int)=2+i*8+j*spn c/\2+i*8+j*(spn c).toNat+(spn c).toNat<=2+p.n*8:=by
 obtain⟨h1,h2,_,_⟩:=oQ hp h;rcases gG c with m|m|m|m|m<;>obtain⟨m1,m2,m3⟩:=m<;>rw[m2]<;>simp only[show Int.toNat 1=1 from rfl,show Int.toNat 2=2 from rfl,show Int.toNat 4=4 from rfl,show Int.toNat 8=8 from rfl,show Int.toNat 0=0 from rfl]<;>omega
section
variable{x:ZRun}
theorem JQ(x:ZCl):JM x:=by
 unfold JM;simp only[abk,akJ,amZ,ars];simp only[aZ,aV,aU,aA,aI,bT,bF,aO,aK,ay,aX,aW,bU,bH,bI,bJ,bV,bD,bK,bC,eY,aH,aN,ah,ak,aB,aF,aC,aG]
theorem agD:bZ Tryz.prog 17 H8:=dR dF mixed .nil noA 200 6 (λ_=>rfl) (λ_=>rfl) λx _=>Eq.mp (U1 x) (JQ x)
theorem En(args:List AV)(h:Heap)(K:AV->Heap->Prop)(hq:Qe args h K):Sp Tryz.prog 17 args h K:=by
 unfold Qe at hq;split at hq
 ·rename_i k key v to
  exact JK agD ⟨k,key,v,to⟩ trivial h rfl rfl hq
 ·exact hq.elim
end
section
variable{x:ZRun}
end

section
variable{a:UY}{t N:Nat}{b:Nat->ZBlk}
theorem agE{x y:ZBlk}(hk:x.key=y.key)(hv:x.value=y.value){m:Nat}(hm:64<=m):x.enc m=y.enc m:=by
 unfold ZBlk.enc;rw[if_neg (show¬m<64 by omega),if_neg (show¬m<64 by omega)];unfold ZBlk.dat
 rw[hk,hv]
theorem yZ(d:DevM)(k:Nat)(g:Nat->Int)(m r:Nat)(hr:r<64):(d.store k 0 64 g).b (m*193+r)=if m=k then g r else d.b (m*193+r):=by
 show(if k*193+0<=m*193+r/\m*193+r<k*193+0+64 then g (m*193+r-(k*193+0))else d.b (m*193+r))=_;by_cases h:m=k
 ·subst h;rw[if_pos (by omega),if_pos rfl,show m*193+r-(m*193+0)=r by omega]
 ·rw[if_neg (by omega),if_neg h]
theorem akM{p p':ZPool}(h: ∀L i j,p.at_ L i j->p'.at_ L i j/\p'.cls i=p.cls i){L:Int}(hp:p.has L):p'.has L:=by
 obtain⟨i,j,h1⟩:=hp;exact⟨i,j,(h _ _ _ h1).1⟩
theorem agF{b:iw}{e:gX}{l:ZLn}{L:Int}(h:acH.inB ⟨b.put e,l,L⟩):acH.inB ⟨b,l,L⟩\/e.line=L\/e.anti=L:=by
 obtain⟨i,hi,hh⟩:=h;unfold iw.put at hi hh;by_cases hn:b.n<258
 ·simp only[if_pos hn]at hi hh
  by_cases e:i=b.n
  ·simp only[if_pos e]at hh;exact .inr hh
  ·simp only[if_neg e]at hh;exact .inl ⟨i,by show i<b.n;omega,hh⟩
 ·simp only[if_neg hn]at hi hh;exact .inl ⟨i,hi,hh⟩
theorem aru{b:iw}(h:b.ok)(e:gX):(b.put e).ok:=by
 unfold iw.put;split
 ·exact⟨by show b.n+1<=258;omega,λh=>nomatch h⟩
 ·exact h
theorem take_at{p:ZPool}(hp:p.good){c:Int}{i k:Nat}(h:p.takes c i k): ∀L i' j',p.at_ L i' j'->(p.take c i k).at_ L i' j'/\(p.take c i k).cls i'=p.cls i':=λ_ _ _ hL=>apg hp h hL
end

noncomputable def bkt(s:ByteArray):Nat:=hide (nY s%8).toNat
theorem am0(s:ByteArray):bkt s=(nY s%8).toNat:=iG _
theorem oU(s:ByteArray):bkt s<8:=by rw[am0];omega
noncomputable def Eo:Ctr:=det ByteArray (λs=>[.lit (.string s)]) 0 (λ_=>[]) (λs=>Hd (s.size<1099511627776)) (λs=>i64 (bkt s)) 0 (λ_=>[])
def akN(c m:Int):Bool:=IntKind.u32.wrap ((BitVec.ofInt 32 (Int.fdiv c m)&&&BitVec.ofInt 32 1).toNat:Nat)==0
def aph(c:Int):Nat:=if akN c 2147483648=true then 1 else if akN c 1073741824=true then 2 else if akN c 536870912=true then 3 else 4
noncomputable def lvl(s:ByteArray):Nat:=hide (aph (nY s))
theorem Qh(s:ByteArray):lvl s=aph (nY s):=iG _
theorem am1(s:ByteArray):1<=lvl s/\lvl s<=4:=by
 rw[Qh];unfold aph
 repeat' (split)
 all_goals omega
noncomputable def Za:Ctr:={X:=ByteArray,args:=λs=>[.lit (.string s)],k:=0,os:=λ_=>[],pre:=λs=>Hd (s.size<1099511627776),outs:=[
 {Y:=Unit,post:=λs _=>Hd (lvl s=1),ret:=λ_ _=>i64 1,m:=0,os:=λ_ _=>[]},
 {Y:=Unit,post:=λs _=>Hd (lvl s=2),ret:=λ_ _=>i64 2,m:=0,os:=λ_ _=>[]},
 {Y:=Unit,post:=λs _=>Hd (lvl s=3),ret:=λ_ _=>i64 3,m:=0,os:=λ_ _=>[]},
 {Y:=Unit,post:=λs _=>Hd (lvl s=4),ret:=λ_ _=>i64 4,m:=0,os:=λ_ _=>[]}]}
noncomputable def apj:jf:=[(232,ctrT SX)]
def kl(a b:ByteArray):Bool:=Op.bytesLess a.toList b.toList
theorem Zb: ∀a:List UInt8,Op.bytesLess a a=false
 |[]=>by simp[Op.bytesLess]
 |x::a=>by simp[Op.bytesLess,Zb a]
theorem JR: ∀{a b c:List UInt8},Op.bytesLess a b=true->Op.bytesLess b c=true->Op.bytesLess a c=true
 |_,[],_,h,_=>by simp[Op.bytesLess]at h
 |_,_::_,[],_,h=>by simp[Op.bytesLess]at h
 |[],_::_,_::_,_,_=>by simp[Op.bytesLess]
 |x::a,y::b,z::c,h,k=>by
  simp only[Op.bytesLess,Bool.or_eq_true,decide_eq_true_eq,aJ,beq_iff_eq]at h k ⊢;rcases h with h|⟨rfl,h⟩
  ·rcases k with k|⟨rfl,k⟩
   ·exact .inl (UInt8.lt_trans h k)
   ·exact .inl h
  ·rcases k with k|⟨rfl,k⟩
   ·exact .inl k
   ·exact .inr ⟨rfl,JR h k⟩
theorem agG: ∀(a b:List UInt8),Op.bytesLess a b=false->Op.bytesLess b a=false->a=b
 |[],[],_,_=>rfl
 |[],_::_,h,_=>by simp[Op.bytesLess]at h
 |_::_,[],_,h=>by simp[Op.bytesLess]at h
 |x::a,y::b,h,k=>by
  simp only[Op.bytesLess,Bool.or_eq_false_iff,decide_eq_false_iff_not,Bool.and_eq_false_iff,beq_eq_false_iff_ne]at h k;have hxy:x=y:=by
   have h1:=UInt8.not_lt.1 h.1;have h2:=UInt8.not_lt.1 k.1;exact UInt8.le_antisymm h2 h1
  subst hxy;rw[agG a b (h.2.resolve_left (λhh=>hh rfl)) (k.2.resolve_left (λhh=>hh rfl))]
theorem lD(a:ByteArray):kl a a=false:=Zb _
theorem jm{a b c:ByteArray}(h:kl a b=true)(k:kl b c=true):kl a c=true:=JR h k
theorem iy(a:ByteArray):a.toList=a.data.toList:=ByteArray.toList_eq a
theorem Zc{a b:ByteArray}(h:kl a b=false)(k:kl b a=false):a=b:=by
 have:=agG _ _ h k;rw[iy,iy]at this;exact ByteArray.ext (Array.toList_inj.1 this)
abbrev Lks:=List ZLnk
def srt(L:Lks):Prop:=L.Pairwise λa b=>kl a.key b.key=true
def fF(L:Lks)(s:ByteArray):Option ZLnk:=L.find? λl=>decide (l.key=s)
def iW:Lks->ZLnk->Lks
 |[],l=>[l]
 |x::L,l=>if x.key=l.key then l::L else if kl l.key x.key=true then l::x::L else x::iW L l
def fQ(L:Lks)(s:ByteArray):Lks:=L.filter λl=> !decide (l.key=s)
noncomputable def nextL(L:Lks)(b:Nat)(pos:ByteArray)(past:Bool):Option ZLnk:=L.find? λl=>decide (bkt l.key=b)&&(!past||kl pos l.key)
def lrow(L:Lks):Cs:= .row 5 L.length (λi=>(L.getD i iI).cs) []
def ZLnk.ent(l:ZLnk)(b:Nat):ZF:=⟨l.key,l.cs,b⟩
structure ZMs where
 n:Nat
 lk:Nat->ZLnk
 born:Nat->Nat
 clk:Nat
def ZMs.ms(m:ZMs):MS:=⟨m.n,λj=>(m.lk j).ent (m.born j),m.clk⟩
def ZMs.put(m:ZMs)(j:Nat)(l:ZLnk):ZMs:=⟨m.n,λq=>if q=j then l else m.lk q,m.born,m.clk⟩
def ZMs.add(m:ZMs)(l:ZLnk):ZMs:=⟨m.n+1,λq=>if q=m.n then l else m.lk q,λq=>if q=m.n then m.clk else m.born q,m.clk+1⟩
def ZMs.del(m:ZMs)(j:Nat):ZMs:=⟨m.n-1,λq=>if q<j then m.lk q else m.lk (q+1),λq=>if q<j then m.born q else m.born (q+1),m.clk⟩
theorem arv(m:ZMs)(j:Nat)(l:ZLnk):m.ms.put j l.key l.cs=(m.put j l).ms:=by
 simp only[MS.put,ZMs.ms,ZMs.put,MS.mk.injEq,aU,aV];funext q;rw[dA];by_cases h:q=j
 ·subst h;simp[ZLnk.ent]
 ·simp[h]
theorem arw(m:ZMs)(l:ZLnk):m.ms.add l.key l.cs=(m.add l).ms:=by
 simp only[MS.add,ZMs.ms,ZMs.add,MS.mk.injEq,aU,aV];funext q;rw[dA];by_cases h:q=m.n
 ·subst h;simp[ZLnk.ent]
 ·simp[h]
theorem arx(m:ZMs)(j:Nat):m.ms.del j=(m.del j).ms:=by
 simp only[MS.del,ZMs.ms,ZMs.del,MS.mk.injEq,aU,aV];funext q;rw[bQ];by_cases h:q<j
 ·simp[h]
 ·simp[h]
abbrev iJ:=Nat->ZMs
noncomputable def Qi(t:iJ):List dB:=[.cells 172 (.av [.mp 1,.mp 2,.mp 3,.mp 4,.mp 5,.mp 6,.mp 7,.mp 8]),.nC (t 0).ms,.nC (t 1).ms,.nC (t 2).ms,.nC (t 3).ms,.nC (t 4).ms,.nC (t 5).ms,.nC (t 6).ms,.nC (t 7).ms]
structure kJ (L:Lks) (t:iJ):Prop where
 srt:srt L
 size:L.length<=258
 key: ∀l∈L,l.key.size<1099511627776
 mem: ∀b,b<8-> ∀j,j<(t b).n->(t b).lk j∈L/\bkt ((t b).lk j).key=b
 all: ∀l∈L,∃j,j<(t (bkt l.key)).n/\(t (bkt l.key)).lk j=l
 inj: ∀b,b<8-> ∀i j,i<(t b).n->j<(t b).n->((t b).lk i).key=((t b).lk j).key->i=j
 born: ∀b,b<8-> ∀j,j<(t b).n->(t b).born j<(t b).clk
 bi: ∀b,b<8-> ∀i j,i<(t b).n->j<(t b).n->(t b).born i=(t b).born j->i=j
noncomputable def tabA(L:Lks):Own:=hide (NP λh=> ∃t:iJ,kJ L t/\h=hOf (Qi t))
theorem agH(L:Lks):tabA L=NP λh=> ∃t:iJ,kJ L t/\h=hOf (Qi t):=iG _
theorem akO{a b:ByteArray}(h:kl a b=true):a≠b:=λe=>by subst e;rw[lD]at h;cases h
theorem U2{a b:ByteArray}(h:kl a b=true):kl b a=false:=by
 cases hb:kl b a with
 |false=>rfl
 |true=>have:=jm h hb;rw[lD]at this;cases this
theorem JU: ∀{L:Lks},srt L-> ∀{l l':ZLnk},l∈L->l'∈L->l.key=l'.key->l=l'
 |[],_,_,_,h,_,_=>by cases h
 |x::L,hs,l,l',h,h',e=>by
  obtain⟨h1,h2⟩:=List.pairwise_cons.1 hs;rcases List.mem_cons.1 h with g|g<;>rcases List.mem_cons.1 h' with g'|g'
  ·rw[g,g']
  ·subst g;exact(akO (h1 _ g') e).elim
  ·subst g';exact(akO (h1 _ g) e.symm).elim
  ·exact JU h2 g g' e
theorem lQ{L:Lks}{s:ByteArray}{l:ZLnk}(h:fF L s=some l):l∈L/\l.key=s:=
 ⟨List.mem_of_find?_eq_some h,by have:=List.find?_some h;exact aS this⟩
theorem x9{L:Lks}(hs:srt L){l:ZLnk}{s:ByteArray}(h:l∈L)(e:l.key=s):fF L s=some l:=by
 cases hf:fF L s with
 |none=>
  have:=List.find?_eq_none.1 hf l h;exact(this (decide_eq_true e)).elim
 |some l'=>
  obtain⟨h1,h2⟩:=lQ hf;rw[JU hs h h1 (e.trans h2.symm)]
theorem yc{L:Lks}{s:ByteArray}(h: ∀l∈L,l.key≠s):fF L s=none:=
 List.find?_eq_none.2 λl hl=>by rw[decide_eq_true_eq];exact h l hl
theorem tV{L:Lks}{s:ByteArray}(h:fF L s=none): ∀l∈L,l.key≠s:=λl hl e=>List.find?_eq_none.1 h l hl (decide_eq_true e)
theorem fZ: ∀{L:Lks} {l x:ZLnk},srt L->(x∈iW L l↔x=l\/(x∈L/\x.key≠l.key))
 |[],l,x,_=>by simp[iW]
 |y::L,l,x,hs=>by
  obtain⟨h1,h2⟩:=List.pairwise_cons.1 hs;unfold iW;by_cases e:y.key=l.key
  ·rw[if_pos e]
   simp only[List.mem_cons];constructor
   ·rintro (h|h)
    ·exact .inl h
    ·exact .inr ⟨.inr h,λe2=>akO (h1 x h) (e.trans e2.symm)⟩
   ·rintro (h|⟨h|h,h3⟩)
    ·exact .inl h
    ·exact(h3 (by rw[h];exact e)).elim
    ·exact .inr h
  ·rw[if_neg e]
   by_cases k:kl l.key y.key=true
   ·rw[if_pos k]
    simp only[List.mem_cons];constructor
    ·rintro (h|h|h)
     ·exact .inl h
     ·exact .inr ⟨.inl h,by rw[h];exact e⟩
     ·exact .inr ⟨.inr h,λe2=>by
       have:=jm k (h1 x h)
       exact akO this e2.symm⟩
    ·rintro (h|⟨h,_⟩)
     ·exact .inl h
     ·exact .inr h
   ·rw[if_neg k]
    simp only[List.mem_cons,fZ h2];constructor
    ·rintro (h|h|⟨h,h3⟩)
     ·exact .inr ⟨.inl h,by rw[h];exact e⟩
     ·exact .inl h
     ·exact .inr ⟨.inr h,h3⟩
    ·rintro (h|⟨h|h,h3⟩)
     ·exact .inr (.inl h)
     ·exact .inl h
     ·exact .inr (.inr ⟨h,h3⟩)
theorem tX: ∀{L:Lks} {l:ZLnk},srt L->srt (iW L l)
 |[],l,_=>by simp[iW,srt]
 |y::L,l,hs=>by
  obtain⟨h1,h2⟩:=List.pairwise_cons.1 hs;unfold iW;by_cases e:y.key=l.key
  ·rw[if_pos e]
   exact List.pairwise_cons.2 ⟨λx hx=>by rw[<-e];exact h1 x hx,h2⟩
  ·rw[if_neg e]
   by_cases k:kl l.key y.key=true
   ·rw[if_pos k]
    exact List.pairwise_cons.2 ⟨λx hx=>by
     rcases List.mem_cons.1 hx with rfl|hx
     ·exact k
     ·exact jm k (h1 x hx),hs⟩
   ·rw[if_neg k]
    refine List.pairwise_cons.2 ⟨λx hx=> ?_,tX h2⟩;rcases (fZ h2).1 hx with rfl|⟨hx,_⟩
    ·cases hy:kl y.key x.key with
     |true=>rfl
     |false=>exact(e (Zc hy (by simpa using k))).elim
    ·exact h1 x hx
theorem Zd: ∀{L:Lks} {l:ZLnk},(iW L l).length<=L.length+1
 |[],l=>by simp[iW]
 |y::L,l=>by
  unfold iW;by_cases e:y.key=l.key
  ·rw[if_pos e];simp
  ·rw[if_neg e]
   by_cases k:kl l.key y.key=true
   ·rw[if_pos k];simp
   ·rw[if_neg k];have:=Zd (L:=L) (l:=l);simp;omega
theorem Ep{L:Lks}{s:ByteArray}{x:ZLnk}:x∈fQ L s↔x∈L/\x.key≠s:=by
 unfold fQ;rw[List.mem_filter];simp
theorem Qj{L:Lks}{s:ByteArray}(h:srt L):srt (fQ L s):=List.Pairwise.filter _ h
theorem akP{L:Lks}{l:ZLnk}{s:ByteArray}(h:srt L):fF (iW L l) s=if s=l.key then some l else fF L s:=by
 have hs:=tX (l:=l) h;by_cases e:s=l.key
 ·rw[if_pos e];exact x9 hs ((fZ h).2 (.inl rfl)) e.symm
 ·rw[if_neg e]
  cases hf:fF L s with
  |some x=>
   obtain⟨h1,h2⟩:=lQ hf;exact x9 hs ((fZ h).2 (.inr ⟨h1,λe2=>e (h2.symm.trans e2)⟩)) h2
  |none=>
   refine yc λx hx=> ?_
   rcases (fZ h).1 hx with rfl|⟨hx,_⟩
   ·exactλe2=>e e2.symm
   ·exact tV hf x hx
def vP(t:iJ)(b:Nat)(m:ZMs):iJ:=λq=>if q=b then m else t q
theorem kJ.found{L:Lks}{t:iJ}(h:kJ L t){s:ByteArray}{b j:Nat}(hb:bkt s=b)(hj:j<(t b).n)(hk:((t b).lk j).key=s):fF L s=some ((t b).lk j):=by
 have:=oU s;exact x9 h.srt (h.mem b (by omega) j hj).1 hk
theorem kJ.none{L:Lks}{t:iJ}(h:kJ L t){s:ByteArray}{b:Nat}(hb:bkt s=b)(hn: ∀j,j<(t b).n->((t b).lk j).key≠s):fF L s=none:=by
 refine yc λl hl e=> ?_
 obtain⟨j,h1,h2⟩:=h.all l hl;rw[e,hb]at h1 h2;exact hn j h1 (by rw[h2];exact e)
theorem kJ.put{L:Lks}{t:iJ}(h:kJ L t){l:ZLnk}{b j:Nat}(hb:bkt l.key=b)(hj:j<(t b).n)(hk:((t b).lk j).key=l.key)(hl:(iW L l).length<=258)(hs:l.key.size<1099511627776):kJ (iW L l) (vP t b ((t b).put j l)):=by
 have hb8:b<8:=by have:=oU l.key;omega
 refine⟨tX h.srt,hl,λx hx=> ?_,λc hc q hq=> ?_,λx hx=> ?_,λc hc p q hp hq e=> ?_,λc hc q hq=> ?_,λc hc p q hp hq e=> ?_⟩
 ·rcases (fZ h.srt).1 hx with rfl|⟨hx,_⟩
  ·exact hs
  ·exact h.key x hx
 ·unfold vP at hq ⊢
  by_cases hcb:c=b
  ·subst hcb
   rw[if_pos rfl]at hq ⊢;show(if q=j then l else(t c).lk q)∈_/\bkt (if q=j then l else(t c).lk q).key=c;by_cases hqj:q=j
   ·rw[if_pos hqj];exact⟨(fZ h.srt).2 (.inl rfl),hb⟩
   ·rw[if_neg hqj]
    have hm:=h.mem c hc q hq;exact⟨(fZ h.srt).2 (.inr ⟨hm.1,λe=>hqj (h.inj c hc q j hq hj (e.trans hk.symm))⟩),hm.2⟩
  ·rw[if_neg hcb]at hq ⊢
   have hm:=h.mem c hc q hq;exact⟨(fZ h.srt).2 (.inr ⟨hm.1,λe=>hcb (by rw[<-hm.2,e];exact hb)⟩),hm.2⟩
 ·unfold vP
  rcases (fZ h.srt).1 hx with rfl|⟨hx,hne⟩
  ·rw[hb,if_pos rfl];exact⟨j,hj,if_pos rfl⟩
  ·obtain⟨q,h1,h2⟩:=h.all x hx
   by_cases hcb:bkt x.key=b
   ·rw[hcb]at h1 h2 ⊢
    rw[if_pos rfl];have hqj:q≠j:=λe=>hne (by rw[<-h2,e];exact hk)
    exact⟨q,h1,(if_neg hqj).trans h2⟩
   ·rw[if_neg hcb];exact⟨q,h1,h2⟩
 ·unfold vP at hp hq e
  by_cases hcb:c=b
  ·subst hcb
   rw[if_pos rfl]at hp hq e;have hkey: ∀q,((if q=j then l else(t c).lk q:ZLnk)).key=((t c).lk q).key:=λq=>by
    by_cases hqj:q=j
    ·rw[if_pos hqj,hqj];exact hk.symm
    ·rw[if_neg hqj]
   refine h.inj c hc p q hp hq ?_;rw[<-hkey,<-hkey];exact e
  ·rw[if_neg hcb]at hp hq e;exact h.inj c hc p q hp hq e
 ·unfold vP at hq ⊢
  by_cases hcb:c=b
  ·subst hcb;rw[if_pos rfl]at hq ⊢;exact h.born c hc q hq
  ·rw[if_neg hcb]at hq ⊢;exact h.born c hc q hq
 ·unfold vP at hp hq e
  by_cases hcb:c=b
  ·subst hcb;rw[if_pos rfl]at hp hq e;exact h.bi c hc p q hp hq e
  ·rw[if_neg hcb]at hp hq e;exact h.bi c hc p q hp hq e
theorem kJ.add{L:Lks}{t:iJ}(h:kJ L t){l:ZLnk}{b:Nat}(hb:bkt l.key=b)(hn: ∀j,j<(t b).n->((t b).lk j).key≠l.key)(hl:(iW L l).length<=258)(hs:l.key.size<1099511627776):kJ (iW L l) (vP t b ((t b).add l)):=by
 have hb8:b<8:=by have:=oU l.key;omega
 have hno:=tV (h.none hb hn);have low: ∀{c q},q<(vP t b ((t b).add l) c).n->(c=b/\q=(t b).n/\(vP t b ((t b).add l) c).lk q=l/\(vP t b ((t b).add l) c).born q=(t b).clk)\/(q<(t c).n/\(vP t b ((t b).add l) c).lk q=(t c).lk q/\(vP t b ((t b).add l) c).born q=(t c).born q):=λ{c q} hq=>by
  unfold vP at hq ⊢;by_cases hcb:c=b
  ·subst hcb
   rw[if_pos rfl]at hq ⊢;have hq:q<(t c).n+1:=hq;by_cases hqn:q=(t c).n
   ·exact .inl ⟨rfl,hqn,if_pos hqn,if_pos hqn⟩
   ·exact .inr ⟨by omega,if_neg hqn,if_neg hqn⟩
  ·rw[if_neg hcb]at hq ⊢;exact .inr ⟨hq,rfl,rfl⟩
 have clk: ∀c,(t c).clk<=(vP t b ((t b).add l) c).clk:=λc=>by
  unfold vP;by_cases hcb:c=b
  ·subst hcb;rw[if_pos rfl];show _<=(t c).clk+1;omega
  ·rw[if_neg hcb];exact aY _
 refine⟨tX h.srt,hl,λx hx=> ?_,λc hc q hq=> ?_,λx hx=> ?_,λc hc p q hp hq e=> ?_,λc hc q hq=> ?_,λc hc p q hp hq e=> ?_⟩
 ·rcases (fZ h.srt).1 hx with rfl|⟨hx,_⟩
  ·exact hs
  ·exact h.key x hx
 ·rcases low hq with ⟨rfl,_,e,_⟩|⟨hq,e,_⟩
  ·rw[e];exact⟨(fZ h.srt).2 (.inl rfl),hb⟩
  ·rw[e]
   have hm:=h.mem c hc q hq;exact⟨(fZ h.srt).2 (.inr ⟨hm.1,hno _ hm.1⟩),hm.2⟩
 ·unfold vP
  rcases (fZ h.srt).1 hx with rfl|⟨hx,hne⟩
  ·rw[hb,if_pos rfl];exact⟨(t b).n,Nat.lt_succ_self _,if_pos rfl⟩
  ·obtain⟨q,h1,h2⟩:=h.all x hx
   by_cases hcb:bkt x.key=b
   ·rw[hcb]at h1 h2 ⊢
    rw[if_pos rfl];exact⟨q,Nat.lt_succ_of_lt h1,(if_neg (Nat.ne_of_lt h1)).trans h2⟩
   ·rw[if_neg hcb];exact⟨q,h1,h2⟩
 ·rcases low hp with ⟨rfl,e1,e2,_⟩|⟨hp,e2,_⟩<;>rcases low hq with ⟨e0,f1,f2,_⟩|⟨hq,f2,_⟩
  ·omega
  ·rw[e2,f2]at e;exact(hno _ (h.mem c hc q hq).1 e.symm).elim
  ·rw[e2,f2]at e;exact(hno _ (h.mem c hc p hp).1 e).elim
  ·rw[e2,f2]at e;exact h.inj c hc p q hp hq e
 ·rcases low hq with ⟨rfl,_,_,e⟩|⟨hq,_,e⟩
  ·rw[e];unfold vP;rw[if_pos rfl];exact Nat.lt_succ_self _
  ·rw[e];exact Nat.lt_of_lt_of_le (h.born c hc q hq) (clk c)
 ·rcases low hp with ⟨e1,g1,_,e2⟩|⟨gp,_,e2⟩<;>rcases low hq with ⟨f1,g2,_,f2⟩|⟨gq,_,f2⟩
  ·omega
  ·rw[e2,f2]at e;have:=h.born c hc q gq;subst e1;omega
  ·rw[e2,f2]at e;have:=h.born c hc p gp;subst f1;omega
  ·rw[e2,f2]at e;exact h.bi c hc p q gp gq e
theorem kJ.del{L:Lks}{t:iJ}(h:kJ L t){s:ByteArray}{b j:Nat}(hb:bkt s=b)(hj:j<(t b).n)(hk:((t b).lk j).key=s):kJ (fQ L s) (vP t b ((t b).del j)):=by
 have hb8:b<8:=by have:=oU s;omega
 have low: ∀{c q},q<(vP t b ((t b).del j) c).n-> ∃p,p<(t c).n/\(c=b->p≠j)/\(vP t b ((t b).del j) c).lk q=(t c).lk p/\(vP t b ((t b).del j) c).born q=(t c).born p/\(((c=b->q<j)/\p=q)\/(c=b/\p=q+1/\j<=q)):=λ{c q} hq=>by
  unfold vP at hq ⊢;by_cases hcb:c=b
  ·subst hcb
   rw[if_pos rfl]at hq ⊢;have hq:q<(t c).n-1:=hq;by_cases hqj:q<j
   ·exact⟨q,by omega,λ_=>by omega,if_pos hqj,if_pos hqj,.inl ⟨λ_=>hqj,rfl⟩⟩
   ·exact⟨q+1,by omega,λ_=>by omega,if_neg hqj,if_neg hqj,.inr ⟨rfl,rfl,by omega⟩⟩
  ·rw[if_neg hcb]at hq ⊢;exact⟨q,hq,λe=>absurd e hcb,rfl,rfl,.inl ⟨λe=>absurd e hcb,rfl⟩⟩
 refine⟨Qj h.srt,Nat.le_trans (List.length_filter_le _ _) h.size,λx hx=>h.key x (Ep.1 hx).1,λc hc q hq=> ?_,λx hx=> ?_,λc hc p q hp hq e=> ?_,λc hc q hq=> ?_,λc hc p q hp hq e=> ?_⟩
 ·obtain⟨p,h1,h2,h3,_⟩:=low hq
  have hm:=h.mem c hc p h1;rw[h3]
  exact⟨Ep.2 ⟨hm.1,λe=>by
   have hcb:c=b:=by rw[<-hm.2,e];exact hb
   subst hcb
   exact h2 rfl (h.inj c hc p j h1 hj (e.trans hk.symm))⟩,hm.2⟩
 ·obtain⟨hx,hne⟩:=Ep.1 hx
  obtain⟨q,h1,h2⟩:=h.all x hx;unfold vP;by_cases hcb:bkt x.key=b
  ·rw[hcb]at h1 h2 ⊢
   rw[if_pos rfl];have hqj:q≠j:=λe=>hne (by rw[<-h2,e];exact hk)
   by_cases hlt:q<j
   ·exact⟨q,by show q<(t b).n-1;omega,(if_pos hlt).trans h2⟩
   ·exact⟨q-1,by show q-1<(t b).n-1;omega,(if_neg (by omega)).trans (by rw[show q-1+1=q by omega];exact h2)⟩
  ·rw[if_neg hcb];exact⟨q,h1,h2⟩
 ·obtain⟨p',a1,a2,a3,_,a5⟩:=low hp
  obtain⟨q',b1,b2,b3,_,b5⟩:=low hq;rw[a3,b3]at e;have:=h.inj c hc p' q' a1 b1 e;rcases a5 with ⟨a5,a6⟩|⟨a5,a7,a8⟩<;>rcases b5 with ⟨b5,b6⟩|⟨b5,b7,b8⟩
  ·omega
  ·have:=a5 b5;omega
  ·have:=b5 a5;omega
  ·omega
 ·obtain⟨p,h1,h2,_,h4,_⟩:=low hq
  rw[h4];have:=h.born c hc p h1;unfold vP;by_cases hcb:c=b
  ·subst hcb;rw[if_pos rfl];exact this
  ·rw[if_neg hcb];exact this
 ·obtain⟨p',a1,a2,_,a3,a5⟩:=low hp
  obtain⟨q',b1,b2,_,b3,b5⟩:=low hq;rw[a3,b3]at e;have:=h.bi c hc p' q' a1 b1 e;rcases a5 with ⟨a5,a6⟩|⟨a5,a7,a8⟩<;>rcases b5 with ⟨b5,b6⟩|⟨b5,b7,b8⟩
  ·omega
  ·have:=a5 b5;omega
  ·have:=b5 a5;omega
  ·omega
theorem abm:qB Tryz.prog 227 Extern.BytealgCompare.compare:=⟨Tryz.f227,by kernel_rfl,by kernel_rfl,by kernel_rfl,by kernel_rfl,by kernel_rfl⟩
def arz:jf:=[(227,cmpX)]
theorem akQ:dX Tryz.prog arz:= .FV (aoe abm) .nil
def tY(L:Lks)(s:ByteArray):Nat:=L.findIdx λl=> !kl l.key s
structure ZTq where
 L:Lks
 s:ByteArray
def ZTq.at_(x:ZTq)(k:Nat):ZLnk:=x.L.getD k iI
structure ZIj where
 i:Nat
 j:Nat
noncomputable def arA:Ctr:=det ZTq (λx=>[.slR 0 0 5 x.L.length,.lit (.string x.s)]) 1 (λx=>[.ro (lrow x.L)]) (λx=>Hd (srt x.L/\x.L.length<1099511627776)) (λx=> .tup [i64 (tY x.L x.s),boo (fF x.L x.s).isSome]) 1 (λx=>[.ro (lrow x.L)])
noncomputable def am2(x:ZTq):FuncId->qA:=λf=>bif Nat.beq f 298 then(λb _ _=>bif Nat.beq b 0 then [
 {σ:=ZIj,fr:=λs=>[(9,i64 s.i),(10,i64 s.j)],ob:=λ_=>[],inv:=λs=>Hd (s.i<=s.j/\s.j<=x.L.length/\(∀q,q<s.i->kl (x.at_ q).key x.s=true)/\ ∀q,s.j<=q->q<x.L.length->kl (x.at_ q).key x.s=false),meas:=λs=>s.j-s.i}]else [])elseλ_ _ _=>[]
theorem apk{L:Lks}{s:ByteArray}{i:Nat}(hi:i<=L.length)(h1: ∀q,q<i->kl (L.getD q iI).key s=true)(h2:i<L.length->kl (L.getD i iI).key s=false):tY L s=i:=by
 unfold tY;rcases Nat.lt_or_ge i L.length with h|h
 ·rw[List.findIdx_eq h]
  have g: ∀q (hq:q<L.length),L.getD q iI=L[q]:=λq hq=>by rw[List.getD_eq_getElem?_getD,List.getElem?_eq_getElem hq];rfl
  refine⟨?_,λq hq=> ?_⟩
  ·have:=h2 h;rw[g i h]at this;rw[this];rfl
  ·have:=h1 q hq;rw[g q (by omega)]at this;rw[this];rfl
 ·have hl:i=L.length:=by omega
  subst hl;rw[List.findIdx_eq_length];intro l hl;obtain⟨q,hq,rfl⟩:=List.getElem_of_mem hl;have:=h1 q hq;rw[List.getD_eq_getElem?_getD,List.getElem?_eq_getElem hq]at this;simp only[Option.getD_some]at this;rw[this];rfl
theorem agJ{L:Lks}(h:srt L){i j:Nat}(hij:i<j)(hj:j<L.length):kl (L.getD i iI).key (L.getD j iI).key=true:=by
 have:=List.pairwise_iff_getElem.1 h i j (by omega) hj hij;simp only[List.getD_eq_getElem?_getD,List.getElem?_eq_getElem hj,List.getElem?_eq_getElem (show i<L.length by omega),Option.getD_some];exact this
theorem agK{L:Lks}{i:Nat}(h:i<L.length):L.getD i iI∈L:=by
 rw[List.getD_eq_getElem?_getD,List.getElem?_eq_getElem h];exact List.getElem_mem h
theorem arB{L:Lks}(hs:srt L){s:ByteArray}{i:Nat}(hi:i<=L.length)(h1: ∀q,q<i->kl (L.getD q iI).key s=true)(h2: ∀q,i<=q->q<L.length->kl (L.getD q iI).key s=false):(fF L s).isSome=(decide (i<L.length)&&decide ((L.getD i iI).key=s)):=by
 cases hf:fF L s with
 |some l=>
  obtain⟨g1,g2⟩:=lQ hf;obtain⟨q,hq,rfl⟩:=List.getElem_of_mem g1;have e:L.getD q iI=L[q]:=by rw[List.getD_eq_getElem?_getD,List.getElem?_eq_getElem hq];rfl
  have hiq:i=q:=by
   rcases Nat.lt_trichotomy i q with h|h|h
   ·have:=agJ hs h hq
    rw[e,g2]at this;rw[h2 i (aY _) (by omega)]at this;cases this
   ·exact h
   ·have:=h1 q h
    rw[e,g2,lD]at this;cases this
  subst hiq;rw[e,g2];simp[hq]
 |none=>
  have:=tV hf;by_cases hl:i<L.length
  ·have hne:=this _ (agK hl)
   simp only[Option.isSome_none,decide_eq_true hl,aH];exact(decide_eq_false hne).symm
  ·simp[hl]
def agL(a:ZIj)(b:ZTq):Prop:=Hd (a.i<=a.j/\a.j<=List.length b.L/\(∀q:Nat,q<a.i->kl (ZLnk.key (b.at_ q)) b.s=true)/\ ∀q:Nat,a.j<=q->q<List.length b.L->kl (ZLnk.key (b.at_ q)) b.s=false)
def abn(a:Lks):Prop:=(lrow a=lrow a/\true=true)/\True
def apl(x:ZTq):Prop:=
 (∃s:ZIj,agL s x/\True/\((s.i:Int)=0/\(s.j:Int)=((List.length x.L:Nat):Int)/\True)/\abn x.L)/\(∀s:ZIj,agL s x->cP (decide ((s.i:Int)<(s.j:Int))) (I64 ((s.i:Int)+(s.j:Int))/\(0:Int)<=1/\I64 (Int.fdiv (IntKind.wrap .u64 ((s.i:Int)+(s.j:Int))) (2:Int))/\(0<=Int.fdiv (IntKind.wrap .u64 ((s.i:Int)+(s.j:Int))) (2:Int)/\Int.fdiv (IntKind.wrap .u64 ((s.i:Int)+(s.j:Int))) (2:Int)<((List.length x.L:Nat):Int))/\0+Int.toNat (Int.fdiv (IntKind.wrap .u64 ((s.i:Int)+(s.j:Int))) (2:Int))<List.length x.L/\cP (decide (aef (ZLnk.key (List.getD x.L (0+Int.toNat (Int.fdiv (IntKind.wrap .u64 ((s.i:Int)+(s.j:Int))) (2:Int))) iI)) x.s<0)) (I64 (Int.fdiv (IntKind.wrap .u64 ((s.i:Int)+(s.j:Int))) (2:Int)+1)/\ ∃s_1:ZIj,agL s_1 x/\s_1.j-s_1.i<s.j-s.i/\((s_1.i:Int)=Int.fdiv (IntKind.wrap .u64 ((s.i:Int)+(s.j:Int))) (2:Int)+1/\(s_1.j:Int)=(s.j:Int)/\True)/\abn x.L) (∃s_1:ZIj,agL s_1 x/\s_1.j-s_1.i<s.j-s.i/\((s_1.i:Int)=(s.i:Int)/\(s_1.j:Int)=Int.fdiv (IntKind.wrap .u64 ((s.i:Int)+(s.j:Int))) (2:Int)/\True)/\abn x.L)) (cP (decide ((s.i:Int)<((List.length x.L:Nat):Int))) ((0<=(s.i:Int)/\(s.i:Int)<((List.length x.L:Nat):Int))/\0+s.i<List.length x.L/\ ∃y:Unit,True/\(((tY x.L x.s:Nat):Int)=(s.i:Int)/\ @Option.isSome ZLnk (fF x.L x.s)=BEq.beq (aef (ZLnk.key (List.getD x.L (0+s.i) iI)) x.s) (0:Int)/\True)/\abn x.L) (∃y:Unit,True/\(((tY x.L x.s:Nat):Int)=(s.i:Int)/\ @Option.isSome ZLnk (fF x.L x.s)=false/\True)/\abn x.L)))/\True
theorem akR(x:ZTq):apl x=wpF Tryz.prog arz tt (am2 x) 200 6 280 (arA.args x) (hO 1 (arA.os x)) (λv h'=>eX 1 x v h' arA.outs):=by kernel_rfl
theorem arC(a b:ByteArray):aef a b<0↔kl a b=true:=aeg a b
theorem akS(a b:ByteArray):(aef a b==0)=decide (a=b):=by
 have h:aef a b=0↔a=b:=by
  unfold aef;rw[iG];rw[(nN a.data.toList b.data.toList).2];exact⟨λe=>ByteArray.ext (Array.toList_inj.1 e),λe=>by rw[e]⟩
 rw[Bool.eq_iff_iff];simp[h]
theorem abo(x:ZTq)(hs:srt x.L)(hn:x.L.length<1099511627776):apl x:=by
 unfold apl;simp only[agL,abn];simp only[aZ,aV,aU,aA,aI,bT,bF,aO,aK,ay,aX,aW,bU,bH,bI,bJ,bV,bD,bK,bC,eY,aH,aN,ah,ak,aB,aF,aC,aG];have hz: ∀q,x.at_ q=x.L.getD q iI:=λ_=>rfl
 refine⟨⟨⟨0,x.L.length⟩,⟨Nat.zero_le _,aY _,λq h=>absurd h (Nat.not_lt_zero q),λq h h'=>absurd (Nat.lt_of_lt_of_le h' h) (Nat.lt_irrefl _)⟩,rfl,rfl⟩,λs hI=> ?_⟩;obtain⟨h1,h2,h3,h4⟩:=hI;refine bf (λh=> ?_) λh=> ?_
 ·have h:=aS h
  have hw:IntKind.wrap .u64 ((s.i:Int)+(s.j:Int))=(s.i:Int)+(s.j:Int):=iV (by omega) (by omega);rw[hw];have hd:Int.fdiv ((s.i:Int)+(s.j:Int)) 2=(((s.i+s.j)/2:Nat):Int):=by rw[Int.fdiv_eq_ediv_of_nonneg _ (by decide)];omega
  rw[hd];simp only[ay];refine⟨by unfold I64;omega,by omega,by unfold I64;omega,by omega,by omega,bf (λhc=> ?_) λhc=> ?_⟩
  ·have hc:=(arC _ _).1 (aS hc)
   refine⟨by unfold I64;omega,⟨(s.i+s.j)/2+1,s.j⟩,⟨by show(s.i+s.j)/2+1<=s.j;omega,h2,λq hq=> ?_,h4⟩,by show s.j-((s.i+s.j)/2+1)<s.j-s.i;omega,by show(((s.i+s.j)/2+1:Nat):Int)=_;omega,rfl⟩;rcases Nat.lt_or_ge q ((s.i+s.j)/2)with hq'|hq'
   ·rw[hz];exact jm (agJ hs hq' (by omega)) hc
   ·have:q=(s.i+s.j)/2:=by have:q<(s.i+s.j)/2+1:=hq;omega
    subst this;exact hc
  ·have hc:=aT hc
   have hc:kl (x.L.getD ((s.i+s.j)/2) iI).key x.s=false:=by
    cases hk:kl (x.L.getD ((s.i+s.j)/2) iI).key x.s
    ·rfl
    ·exact absurd ((arC _ _).2 hk) hc
   refine⟨⟨s.i,(s.i+s.j)/2⟩,⟨by show s.i<=(s.i+s.j)/2;omega,by show(s.i+s.j)/2<=_;omega,h3,λq hq hq'=> ?_⟩,by show(s.i+s.j)/2-s.i<s.j-s.i;omega,rfl,rfl⟩;have hq:(s.i+s.j)/2<=q:=hq;rcases Nat.lt_or_ge ((s.i+s.j)/2) q with g|g
   ·rw[hz]
    cases hk:kl (x.L.getD q iI).key x.s
    ·rfl
    ·have:=jm (agJ hs g hq') hk
     rw[hc]at this;cases this
   ·have:q=(s.i+s.j)/2:=by omega
    subst this;exact hc
 ·have h:=aT h
  have hij:s.i=s.j:=by omega
  have hp:tY x.L x.s=s.i:=apk (by omega) h3 λhl=>h4 s.i (by omega) hl
  have ha:=arB hs (s:=x.s) (i:=s.i) (by omega) h3 λq hq=>h4 q (by omega)
  refine bf (λhl=> ?_) λhl=> ?_
  ·have hl:=aS hl
   refine⟨by omega,by omega,by rw[hp],?_⟩;rw[ha];have:s.i<x.L.length:=by omega
   rw[decide_eq_true this,aH];exact(akS _ _).symm
  ·have hl:=aT hl
   refine⟨by rw[hp],?_⟩;rw[ha];rw[decide_eq_false (show¬s.i<x.L.length by omega),Bool.false_and]
theorem arD:bZ Tryz.prog 280 arA:=dR dF mixed akQ am2 200 6 (λ_=>rfl) (λ_=>rfl) λx hx=>Eq.mp (akR x) (abo x (aZ.1 hx).1 (aZ.1 hx).2)
noncomputable section
theorem U3:qB Tryz.prog 300 (Extern.SlicesOverlaps.overlaps #[123,123] #[4]):=⟨Tryz.f300,by kernel_rfl,by kernel_rfl,by kernel_rfl,by kernel_rfl,by kernel_rfl⟩
theorem akT: ∀w,(Go.sizeOf 41).run Tryz.prog w= .ok 5 w:=λw=>by rw[Tryz.sizeOf41]
def akU:jf:=[(300,aoi)]
theorem JV:dX Tryz.prog akU:= .FV (ajJ U3 Tryz.underlying123 akT) .nil
structure ZIn where
 n:Nat
 f:Nat->ZLnk
 i:Nat
 l:ZLnk
def insL(f:Nat->ZLnk)(i:Nat)(x:ZLnk)(q:Nat):ZLnk:=bif Nat.blt q i then f q else bif Nat.beq q i then x else f (q-1)
def qL(l:ZLnk):dB:= .cells 41 (.av [.lit (.string l.key),u64 l.id,u64 l.ver,i64 l.line,i64 l.cls])
def y5(n:Nat)(f:Nat->ZLnk):dB:= .room 41 (.row 5 n (λq=>(f q).cs) [])
def agM(x:ZIn)(c:Nat):Cs:= .row 5 c (λq=>bif Nat.blt q (x.n+1)then(insL x.f x.i x.l q).cs else []) []
def apm(x:ZIn)(c:Nat):Cs:= .row 5 c (λq=>bif Nat.blt q x.n then(x.f q).cs else []) []
def U4:Ctr:={X:=ZIn×Nat,args:=λx=>[.slE 0 0 5 x.1.n x.2,i64 x.1.i,.sl 1 0 1 1],k:=2,os:=λx=>[.room 41 (apm x.1 x.2),qL x.1.l],pre:=λx=>Hd (x.1.i<=x.1.n/\x.1.n<=x.2/\x.1.n<=300),outs:=[
 {Y:=Unit,post:=λx _=>Hd (x.1.n+1<=x.2),ret:=λx _=> .slE 0 0 5 (x.1.n+1) x.2,m:=2,os:=λx _=>[.room 41 (agM x.1 x.2),qL x.1.l]},
 {Y:=Unit,post:=λ_ _=>True,ret:=λx _=> .slW 2 0 5 (x.1.n+1),m:=3,os:=λx _=>[.room 41 (apm x.1 x.2),qL x.1.l,y5 (x.1.n+1) (insL x.1.f x.1.i x.1.l)]}]}
def insLC:Ctr:=det ZIn (λx=>[.slW 0 0 5 x.n,i64 x.i,.sl 1 0 1 1]) 2 (λx=>[y5 x.n x.f,qL x.l]) (λx=>Hd (x.i<=x.n/\x.n<=300)) (λx=> .slW 2 0 5 (x.n+1)) 3 (λx=>[.abs Bf,qL x.l,y5 (x.n+1) (insL x.f x.i x.l)])
end
def Es(a:ZIn×Nat):Prop:=a.1.l.key=a.1.l.key/\a.1.l.id=a.1.l.id/\a.1.l.ver=a.1.l.ver/\a.1.l.line=a.1.l.line/\a.1.l.cls=a.1.l.cls/\True
def agN(a:ZIn×Nat)(b:Nat):Prop:=(Nat.beq (List.length (Cs.eff (λ(q:Nat)=>cond (Nat.blt q a.1.n) (ZLnk.cs (a.1.f q)) (@List.nil Value)) [] (0+a.1.i+b))) 5&&List.all (Cs.eff (λ(q:Nat)=>cond (Nat.blt q a.1.n) (ZLnk.cs (a.1.f q)) (@List.nil Value)) [] (0+a.1.i+b)) Value.oneCell')=true
def agO(a:ZIn×Nat):Prop:=List.all [List.take 5 [Value.string a.1.l.key,Value.int .u64 a.1.l.id,Value.int .u64 a.1.l.ver,Value.int .i64 a.1.l.line,Value.int .i64 a.1.l.cls]] (λ(l:List Value)=>Nat.beq (List.length l) 5&&List.all l Value.oneCell')=true
def akV(a:ZIn×Nat):Prop:=a.2=a.2/\ ∀q:Nat,q<a.2->Cs.eff (λ(q_1:Nat)=>cond (Nat.blt q_1 a.1.n) (ZLnk.cs (a.1.f q_1)) (@List.nil Value)) [] q=Cs.eff (λ(q_1:Nat)=>cond (Nat.blt q_1 a.1.n) (ZLnk.cs (a.1.f q_1)) (@List.nil Value)) [] q
def agP(a:ZIn×Nat):Prop:=a.1.i-0+Int.toNat ((a.1.n:Int)+1-(a.1.i:Int))<=a.1.i-0+Int.toNat ((a.1.n:Int)+1-(a.1.i:Int))
def Ze(a:ZIn×Nat):Prop:=Int.toNat ((a.1.n:Int)+1)-0<=a.2-0/\a.2-0<=a.2-0
def agQ(a:ZIn×Nat):Prop:=agP a/\agP a
def Zf(a:ZIn×Nat):Prop:=a.1.i<=Int.toNat ((a.1.n:Int)+1)-0/\Ze a
def Qk(a:ZIn×Nat):Prop:=a.1.n+1=a.1.i-0+Int.toNat ((a.1.n:Int)+1-(a.1.i:Int))
def Zg(a:ZIn×Nat):Prop:= ∃y:Unit,Hd (a.1.n+1<=a.2)/\False/\(a.2=a.2/\ ∀q:Nat,q<a.2->Cs.eff (λ(q_1:Nat)=>cond (Nat.blt q_1 (a.1.n+1)) (ZLnk.cs (insL a.1.f a.1.i a.1.l q_1)) (@List.nil Value)) [] q=Cs.eff (λ(q_1:Nat)=>cond (Nat.blt q_1 a.1.n) (ZLnk.cs (a.1.f q_1)) (@List.nil Value)) [] q)/\Es a/\True
def Zh(a:ZIn×Nat):Prop:=0+a.1.i+(Int.toNat ((a.1.n:Int)+1)-0-a.1.i)<=a.2
def U5(x:ZIn×Nat):Prop:=
 0<=(x.1.i:Int)/\(x.1.i<=x.1.n/\x.1.n<=x.2/\x.2<=x.2)/\cP (BEq.beq (x.1.i:Int) (x.1.n:Int)) (0+x.1.n<=x.2/\cP (Nat.ble (x.1.n+1) x.2) (agO x/\0+(x.1.n+1)<=x.2/\((∃y:Unit,Hd (x.1.n+1<=x.2)/\(0=0/\x.1.n+1=x.1.n+1/\x.2=x.2)/\(x.2=x.2/\ ∀q:Nat,q<x.2->Cs.eff (λ(q_1:Nat)=>cond (Nat.blt q_1 (x.1.n+1)) (ZLnk.cs (insL x.1.f x.1.i x.1.l q_1)) (@List.nil Value)) [] q=Cs.eff (λ(q_1:Nat)=>cond (Nat.blt q_1 x.1.n) (ZLnk.cs (x.1.f q_1)) (@List.nil Value)) [(0+x.1.n,List.take 5 [Value.string x.1.l.key,Value.int .u64 x.1.l.id,Value.int .u64 x.1.l.ver,Value.int .i64 x.1.l.line,Value.int .i64 x.1.l.cls])] q)/\Es x/\True)\/ ∃y:Unit,True/\False/\(x.2=x.2/\ ∀q:Nat,q<x.2->Cs.eff (λ(q_1:Nat)=>cond (Nat.blt q_1 x.1.n) (ZLnk.cs (x.1.f q_1)) (@List.nil Value)) [] q=Cs.eff (λ(q_1:Nat)=>cond (Nat.blt q_1 x.1.n) (ZLnk.cs (x.1.f q_1)) (@List.nil Value)) [(0+x.1.n,List.take 5 [Value.string x.1.l.key,Value.int .u64 x.1.l.id,Value.int .u64 x.1.l.ver,Value.int .i64 x.1.l.line,Value.int .i64 x.1.l.cls])] q)/\Es x/\False/\True)) ((2*(x.1.n+1)+1000)*48<=281474976710656/\(Zg x\/ ∃y:Unit,True/\(0=0/\x.1.n+1=x.1.n+1)/\akV x/\Es x/\(x.1.n+1=x.1.n+List.length [List.take 5 [Value.string x.1.l.key,Value.int .u64 x.1.l.id,Value.int .u64 x.1.l.ver,Value.int .i64 x.1.l.line,Value.int .i64 x.1.l.cls]]/\
 ∀q:Nat,q<x.1.n+1->[Value.string (ZLnk.key (insL x.1.f x.1.i x.1.l q)),Value.int .u64 (ZLnk.id (insL x.1.f x.1.i x.1.l q)),Value.int .u64 (ZLnk.ver (insL x.1.f x.1.i x.1.l q)),Value.int .i64 (ZLnk.line (insL x.1.f x.1.i x.1.l q)),Value.int .i64 (ZLnk.cls (insL x.1.f x.1.i x.1.l q))]=Cs.eff (λ(k:Nat)=>Cs.eff (λ(q_1:Nat)=>cond (Nat.blt q_1 x.1.n) (ZLnk.cs (x.1.f q_1)) (@List.nil Value)) [] (0+k)) [(x.1.n,List.take 5 [Value.string x.1.l.key,Value.int .u64 x.1.l.id,Value.int .u64 x.1.l.ver,Value.int .i64 x.1.l.line,Value.int .i64 x.1.l.cls])] q)/\True))) (I64 ((x.1.n:Int)+1)/\cP (decide ((x.1.n:Int)+1>(x.2:Int))) (0<=(x.1.i:Int)/\(0<=x.1.i/\x.1.i<=x.2/\x.2<=x.2)/\I64 ((x.1.n:Int)+1)/\I64 ((x.1.n:Int)+1-(x.1.i:Int))/\0+(x.1.i-0)<=x.2/\0<=(x.1.n:Int)+1-(x.1.i:Int)/\x.2-0<x.1.i-0+Int.toNat ((x.1.n:Int)+1-(x.1.i:Int))/\(2*(x.1.i-0+Int.toNat ((x.1.n:Int)+1-(x.1.i:Int)))+1000)*48<=281474976710656/\0<=(x.1.i:Int)/\(x.1.i<=x.1.i-0+Int.toNat ((x.1.n:Int)+1-(x.1.i:Int))/\agQ x)/\0+x.1.i+(x.1.i-0+Int.toNat ((x.1.n:Int)+1-(x.1.i:Int))-x.1.i)<=x.1.i-0+Int.toNat ((x.1.n:Int)+1-(x.1.i:Int))/\1<=x.1.i-0+Int.toNat ((x.1.n:Int)+1-(x.1.i:Int))-x.1.i/\agO x/\I64 ((x.1.i:Int)+1)/\0<=(x.1.i:Int)+1/\(Int.toNat ((x.1.i:Int)+1)<=x.1.i-0+Int.toNat ((x.1.n:Int)+1-(x.1.i:Int))/\agQ x)/\0<=(x.1.i:Int)/\(x.1.i<=x.1.n/\x.1.n<=x.2/\x.2<=x.2)/\0+Int.toNat ((x.1.i:Int)+1)+(x.1.i-0+Int.toNat ((x.1.n:Int)+1-(x.1.i:Int))-Int.toNat ((x.1.i:Int)+1))<=x.1.i-0+Int.toNat ((x.1.n:Int)+1-(x.1.i:Int))/\
 cP (Nat.ble (x.1.n-x.1.i) (x.1.i-0+Int.toNat ((x.1.n:Int)+1-(x.1.i:Int))-Int.toNat ((x.1.i:Int)+1))) (0+x.1.i+(x.1.n-x.1.i)<=x.2/\(∀k:Nat,k<x.1.n-x.1.i->agN x k)/\True/\(Zg x\/ ∃y:Unit,True/\(0=0/\Qk x)/\akV x/\Es x/\(Qk x/\ ∀q:Nat,q<x.1.n+1->[Value.string (ZLnk.key (insL x.1.f x.1.i x.1.l q)),Value.int .u64 (ZLnk.id (insL x.1.f x.1.i x.1.l q)),Value.int .u64 (ZLnk.ver (insL x.1.f x.1.i x.1.l q)),Value.int .i64 (ZLnk.line (insL x.1.f x.1.i x.1.l q)),Value.int .i64 (ZLnk.cls (insL x.1.f x.1.i x.1.l q))]=Cs.eff (λ(p:Nat)=>cond (Nat.ble (0+Int.toNat ((x.1.i:Int)+1)) p&&Nat.blt p (0+Int.toNat ((x.1.i:Int)+1)+(x.1.n-x.1.i))) (Cs.eff (λ(q_1:Nat)=>cond (Nat.blt q_1 x.1.n) (ZLnk.cs (x.1.f q_1)) (@List.nil Value)) [] (0+x.1.i+(p-(0+Int.toNat ((x.1.i:Int)+1))))) (Cs.eff (λ(q_1:Nat)=>cond (Nat.blt q_1 (x.1.i-0)) (Cs.eff (λ(k:Nat)=>Cs.eff (λ(q_2:Nat)=>cond (Nat.blt q_2 x.1.n) (ZLnk.cs (x.1.f q_2)) (@List.nil Value)) [] (0+k)) [] q_1) [Value.string (ByteArray.mk #[]),Value.int .u64 0,Value.int .u64 0,Value.int .i64 0,Value.int .i64 0]) [(0+x.1.i,List.take 5 [Value.string x.1.l.key,Value.int .u64 x.1.l.id,Value.int .u64 x.1.l.ver,Value.int .i64 x.1.l.line,Value.int .i64 x.1.l.cls])] p)) [] q)/\True)) (0+x.1.i+(x.1.i-0+Int.toNat ((x.1.n:Int)+1-(x.1.i:Int))-Int.toNat ((x.1.i:Int)+1))<=x.2/\(∀k:Nat,k<x.1.i-0+Int.toNat ((x.1.n:Int)+1-(x.1.i:Int))-Int.toNat ((x.1.i:Int)+1)->agN x k)/\True/\(Zg x\/ ∃y:Unit,True/\(0=0/\Qk x)/\akV x/\Es x/\(Qk x/\
 ∀q:Nat,q<x.1.n+1->[Value.string (ZLnk.key (insL x.1.f x.1.i x.1.l q)),Value.int .u64 (ZLnk.id (insL x.1.f x.1.i x.1.l q)),Value.int .u64 (ZLnk.ver (insL x.1.f x.1.i x.1.l q)),Value.int .i64 (ZLnk.line (insL x.1.f x.1.i x.1.l q)),Value.int .i64 (ZLnk.cls (insL x.1.f x.1.i x.1.l q))]=Cs.eff (λ(p:Nat)=>cond (Nat.ble (0+Int.toNat ((x.1.i:Int)+1)) p&&Nat.blt p (0+Int.toNat ((x.1.i:Int)+1)+(x.1.i-0+Int.toNat ((x.1.n:Int)+1-(x.1.i:Int))-Int.toNat ((x.1.i:Int)+1)))) (Cs.eff (λ(q_1:Nat)=>cond (Nat.blt q_1 x.1.n) (ZLnk.cs (x.1.f q_1)) (@List.nil Value)) [] (0+x.1.i+(p-(0+Int.toNat ((x.1.i:Int)+1))))) (Cs.eff (λ(q_1:Nat)=>cond (Nat.blt q_1 (x.1.i-0)) (Cs.eff (λ(k:Nat)=>Cs.eff (λ(q_2:Nat)=>cond (Nat.blt q_2 x.1.n) (ZLnk.cs (x.1.f q_2)) (@List.nil Value)) [] (0+k)) [] q_1) [Value.string (ByteArray.mk #[]),Value.int .u64 0,Value.int .u64 0,Value.int .i64 0,Value.int .i64 0]) [(0+x.1.i,List.take 5 [Value.string x.1.l.key,Value.int .u64 x.1.l.id,Value.int .u64 x.1.l.ver,Value.int .i64 x.1.l.line,Value.int .i64 x.1.l.cls])] p)) [] q)/\True))) (I64 ((x.1.n:Int)+1)/\0<=(x.1.n:Int)+1/\(0<=Int.toNat ((x.1.n:Int)+1)/\Int.toNat ((x.1.n:Int)+1)<=x.2/\x.2<=x.2)/\I64 ((x.1.i:Int)+1)/\0<=(x.1.i:Int)+1/\(Int.toNat ((x.1.i:Int)+1)<=Int.toNat ((x.1.n:Int)+1)-0/\Ze x)/\0<x.2*5/\I64 ((x.1.i:Int)+1)/\0<=(x.1.i:Int)+1/\(Int.toNat ((x.1.i:Int)+1)<=Int.toNat ((x.1.n:Int)+1)-0/\Ze x)/\0<=(x.1.i:Int)/\Zf x/\0+Int.toNat ((x.1.i:Int)+1)+(Int.toNat ((x.1.n:Int)+1)-0-Int.toNat ((x.1.i:Int)+1))<=x.2/\
 cP (Nat.ble (Int.toNat ((x.1.n:Int)+1)-0-x.1.i) (Int.toNat ((x.1.n:Int)+1)-0-Int.toNat ((x.1.i:Int)+1))) (Zh x/\(∀k:Nat,k<Int.toNat ((x.1.n:Int)+1)-0-x.1.i->agN x k)/\True/\0<=(x.1.i:Int)/\Zf x/\Zh x/\1<=Int.toNat ((x.1.n:Int)+1)-0-x.1.i/\agO x/\((∃y:Unit,Hd (x.1.n+1<=x.2)/\(0=0/\x.1.n+1=Int.toNat ((x.1.n:Int)+1)-0/\x.2=x.2-0)/\(x.2=x.2/\ ∀q:Nat,q<x.2->Cs.eff (λ(q_1:Nat)=>cond (Nat.blt q_1 (x.1.n+1)) (ZLnk.cs (insL x.1.f x.1.i x.1.l q_1)) (@List.nil Value)) [] q=Cs.eff (λ(p:Nat)=>cond (Nat.ble (0+Int.toNat ((x.1.i:Int)+1)) p&&Nat.blt p (0+Int.toNat ((x.1.i:Int)+1)+(Int.toNat ((x.1.n:Int)+1)-0-x.1.i))) (Cs.eff (λ(q_1:Nat)=>cond (Nat.blt q_1 x.1.n) (ZLnk.cs (x.1.f q_1)) (@List.nil Value)) [] (0+x.1.i+(p-(0+Int.toNat ((x.1.i:Int)+1))))) (Cs.eff (λ(q_1:Nat)=>cond (Nat.blt q_1 x.1.n) (ZLnk.cs (x.1.f q_1)) (@List.nil Value)) [] p)) [(0+x.1.i,List.take 5 [Value.string x.1.l.key,Value.int .u64 x.1.l.id,Value.int .u64 x.1.l.ver,Value.int .i64 x.1.l.line,Value.int .i64 x.1.l.cls])] q)/\Es x/\True)\/ ∃y:Unit,True/\False/\(x.2=x.2/\
 ∀q:Nat,q<x.2->Cs.eff (λ(q_1:Nat)=>cond (Nat.blt q_1 x.1.n) (ZLnk.cs (x.1.f q_1)) (@List.nil Value)) [] q=Cs.eff (λ(p:Nat)=>cond (Nat.ble (0+Int.toNat ((x.1.i:Int)+1)) p&&Nat.blt p (0+Int.toNat ((x.1.i:Int)+1)+(Int.toNat ((x.1.n:Int)+1)-0-x.1.i))) (Cs.eff (λ(q_1:Nat)=>cond (Nat.blt q_1 x.1.n) (ZLnk.cs (x.1.f q_1)) (@List.nil Value)) [] (0+x.1.i+(p-(0+Int.toNat ((x.1.i:Int)+1))))) (Cs.eff (λ(q_1:Nat)=>cond (Nat.blt q_1 x.1.n) (ZLnk.cs (x.1.f q_1)) (@List.nil Value)) [] p)) [(0+x.1.i,List.take 5 [Value.string x.1.l.key,Value.int .u64 x.1.l.id,Value.int .u64 x.1.l.ver,Value.int .i64 x.1.l.line,Value.int .i64 x.1.l.cls])] q)/\Es x/\False/\True)) (0+x.1.i+(Int.toNat ((x.1.n:Int)+1)-0-Int.toNat ((x.1.i:Int)+1))<=x.2/\(∀k:Nat,k<Int.toNat ((x.1.n:Int)+1)-0-Int.toNat ((x.1.i:Int)+1)->agN x k)/\True/\0<=(x.1.i:Int)/\Zf x/\Zh x/\1<=Int.toNat ((x.1.n:Int)+1)-0-x.1.i/\agO x/\((∃y:Unit,Hd (x.1.n+1<=x.2)/\(0=0/\x.1.n+1=Int.toNat ((x.1.n:Int)+1)-0/\x.2=x.2-0)/\(x.2=x.2/\
 ∀q:Nat,q<x.2->Cs.eff (λ(q_1:Nat)=>cond (Nat.blt q_1 (x.1.n+1)) (ZLnk.cs (insL x.1.f x.1.i x.1.l q_1)) (@List.nil Value)) [] q=Cs.eff (λ(p:Nat)=>cond (Nat.ble (0+Int.toNat ((x.1.i:Int)+1)) p&&Nat.blt p (0+Int.toNat ((x.1.i:Int)+1)+(Int.toNat ((x.1.n:Int)+1)-0-Int.toNat ((x.1.i:Int)+1)))) (Cs.eff (λ(q_1:Nat)=>cond (Nat.blt q_1 x.1.n) (ZLnk.cs (x.1.f q_1)) (@List.nil Value)) [] (0+x.1.i+(p-(0+Int.toNat ((x.1.i:Int)+1))))) (Cs.eff (λ(q_1:Nat)=>cond (Nat.blt q_1 x.1.n) (ZLnk.cs (x.1.f q_1)) (@List.nil Value)) [] p)) [(0+x.1.i,List.take 5 [Value.string x.1.l.key,Value.int .u64 x.1.l.id,Value.int .u64 x.1.l.ver,Value.int .i64 x.1.l.line,Value.int .i64 x.1.l.cls])] q)/\Es x/\True)\/ ∃y:Unit,True/\False/\(x.2=x.2/\ ∀q:Nat,q<x.2->Cs.eff (λ(q_1:Nat)=>cond (Nat.blt q_1 x.1.n) (ZLnk.cs (x.1.f q_1)) (@List.nil Value)) [] q=Cs.eff (λ(p:Nat)=>cond (Nat.ble (0+Int.toNat ((x.1.i:Int)+1)) p&&Nat.blt p (0+Int.toNat ((x.1.i:Int)+1)+(Int.toNat ((x.1.n:Int)+1)-0-Int.toNat ((x.1.i:Int)+1)))) (Cs.eff (λ(q_1:Nat)=>cond (Nat.blt q_1 x.1.n) (ZLnk.cs (x.1.f q_1)) (@List.nil Value)) [] (0+x.1.i+(p-(0+Int.toNat ((x.1.i:Int)+1))))) (Cs.eff (λ(q_1:Nat)=>cond (Nat.blt q_1 x.1.n) (ZLnk.cs (x.1.f q_1)) (@List.nil Value)) [] p)) [(0+x.1.i,List.take 5 [Value.string x.1.l.key,Value.int .u64 x.1.l.id,Value.int .u64 x.1.l.ver,Value.int .i64 x.1.l.line,Value.int .i64 x.1.l.cls])] q)/\Es x/\False/\True))))
theorem abp(x:ZIn×Nat):U5 x=wpF Tryz.prog akU tt (noA x) 200 6 281 (U4.args x) (hO U4.k (U4.os x)) (λv h'=>eX U4.k x v h' U4.outs):=by kernel_rfl
theorem agR(l:ZLnk):(@List.all (List Value) [List.take 5 [Value.string l.key,Value.int .u64 l.id,Value.int .u64 l.ver,Value.int .i64 l.line,Value.int .i64 l.cls]] (λl=>Nat.beq l.length 5&&List.all l Value.oneCell'))=true:=rfl
theorem iY{a b:Nat}(h: ¬a<b):Nat.blt a b=false:=by
 cases hb:Nat.blt a b
 ·rfl
 ·exact absurd (bg.1 hb) h
theorem H9{a b:Nat}(h: ¬a<=b):Nat.ble a b=false:=by
 cases hb:Nat.ble a b
 ·rfl
 ·exact absurd (Nat.le_of_ble_eq_true hb) h
theorem y7{f:Nat->ZLnk}{i q:Nat}{x:ZLnk}(h:q<i):insL f i x q=f q:=by unfold insL;rw[bg.2 h];rfl
theorem qM{f:Nat->ZLnk}{i:Nat}{x:ZLnk}:insL f i x i=x:=by unfold insL;rw[iY (Nat.lt_irrefl i)];simp
theorem Et{f:Nat->ZLnk}{i q:Nat}{x:ZLnk}(h:i<q):insL f i x q=f (q-1):=by unfold insL;rw[iY (by omega),eP (by omega)];rfl
theorem Ql(x:ZIn×Nat)(hx:x.1.i<=x.1.n/\x.1.n<=x.2/\x.1.n<=300):U5 x:=by
 obtain⟨⟨n,f,i,l⟩,c⟩:=x;obtain⟨h1,h2,h3⟩:=hx;dsimp only at h1 h2 h3;unfold U5;simp only[agO,Es,Zg,akV,agQ,agN,Qk,Ze,Zf,Zh,agP];have e1:(((n:Nat):Int)+1-(i:Int)).toNat=n+1-i:=by omega
 have e2:((i:Int)+1).toNat=i+1:=by omega
 have e3:((n:Int)+1).toNat=n+1:=by omega
 have e4:i+(n+1-i)=n+1:=by omega
 simp only[aZ,aV,aU,aA,aI,bT,bF,aO,aK,ay,aX,aW,aN,e1,e2,e3,e4,agR];have hb: ∀a b:Nat,a<=b->Nat.ble a b=true:=λa b h=>by simpa using h
 simp only[Cs.eff];refine⟨by omega,⟨by omega,by omega,by omega⟩,bf (λhi=> ?_) (λhi=> ?_)⟩
 ·have hi:i=n:=by have:=eq_of_beq hi;omega
  subst hi;have row: ∀q,q<i+1->(insL f i l q).cs=(bif Nat.beq q i then l.cs else(bif Nat.blt q i then(f q).cs else [])):=λq hq=>by
   by_cases h:q=i
   ·subst h;simp[qM]
   ·rw[eP h,bg.2 (show q<i by omega),y7 (by omega)];rfl
  refine⟨by omega,bf (λhc=> ?_) (λhc=> ?_)⟩
  ·have hc:i+1<=c:=by simpa using hc
   refine⟨by omega,.inl ⟨hc,λq hq=> ?_⟩⟩;by_cases h:q<i+1
   ·rw[bg.2 h,aP];exact row q h
   ·rw[iY h,iY (show¬q<i by omega),eP (by omega)];rfl
  ·exact⟨by omega,.inr ⟨by simp,λq hq=>row q hq⟩⟩
 ·have hi:i<n:=by
   rcases Nat.lt_or_ge i n with h|h
   ·exact h
   ·have:i=n:=by omega
    subst this;simp at hi
  have old: ∀k,k<n-i->(Nat.beq (bif Nat.blt (i+k) n then(f (i+k)).cs else []).length 5&&(bif Nat.blt (i+k) n then(f (i+k)).cs else []).all Value.oneCell')=true:=λk hk=>by
   rw[bg.2 (show i+k<n by omega)];rfl
  refine⟨by unfold I64;omega,bf (λhc=> ?_) (λhc=> ?_)⟩
  ·have hc:=aS hc
   refine⟨by omega,⟨by omega,by omega,by omega⟩,by unfold I64;omega,by unfold I64;omega,by omega,by omega,by omega,by omega,by omega,⟨by omega,by omega⟩,by omega,by omega,by unfold I64;omega,by omega,⟨by omega,by omega⟩,by omega,⟨by omega,by omega,by omega⟩,by omega,?_⟩;have fin: ∀N,N=n-i-> ∀q,q<n+1->(insL f i l q).cs=(bif Nat.ble (i+1) q&&Nat.blt q (i+1+N)then(bif Nat.blt (i+(q-(i+1))) n then(f (i+(q-(i+1)))).cs else [])else(bif Nat.beq q i then l.cs else(bif Nat.blt q i then(bif Nat.blt q n then(f q).cs else [])else iI.cs))):=by
    rintro N rfl q hq
    by_cases h1:q<i
    ·rw[H9 (show¬i+1<=q by omega),eP (show q≠i by omega),bg.2 h1,bg.2 (show q<n by omega),y7 h1];rfl
    ·by_cases h2:q=i
     ·subst h2
      rw[H9 (show¬q+1<=q by omega),qM];simp
     ·rw[hb _ _ (show i+1<=q by omega),bg.2 (show q<i+1+(n-i) by omega),bg.2 (show i+(q-(i+1))<n by omega),Et (by omega),show i+(q-(i+1))=q-1 by omega];rfl
   refine bf (λhb2=>⟨by omega,old,.inr (λq hq=>fin _ rfl q hq)⟩) (λhb2=> ?_);exact absurd (Nat.ble_eq_true_of_le (show n-i<=n+1-(i+1) by omega)) (by rw[hb2];decide)
  ·have hc:=aT hc
   have en:n+1-(i+1)=n-i:=by omega
   rw[en];refine⟨by unfold I64;omega,by omega,⟨by omega,by omega,by omega⟩,by unfold I64;omega,by omega,⟨by omega,by omega,by omega⟩,by omega,by unfold I64;omega,by omega,⟨by omega,by omega,by omega⟩,by omega,⟨by omega,by omega,by omega⟩,by omega,bf (λhb2=> ?_) (λ_=>⟨by omega,old,by omega,⟨by omega,by omega,by omega⟩,by omega,by omega,.inl ⟨by omega,λq hq=> ?_⟩⟩)⟩
   ·have:=Nat.le_of_ble_eq_true hb2;omega
   ·by_cases h0:q<n+1
    ·rw[bg.2 h0,aP]
     by_cases h1:q<i
     ·rw[H9 (show¬i+1<=q by omega),eP (show q≠i by omega),bg.2 (show q<n by omega),y7 h1];rfl
     ·by_cases h2:q=i
      ·subst h2
       rw[qM];simp[ZLnk.cs]
      ·rw[eP h2,hb _ _ (show i+1<=q by omega),bg.2 (show q<i+1+(n-i) by omega),bg.2 (show i+(q-(i+1))<n by omega),Et (by omega),show i+(q-(i+1))=q-1 by omega];rfl
    ·rw[iY h0,eP (show q≠i by omega),iY (show¬q<i+1+(n-i) by omega),iY (show¬q<n by omega)];simp
theorem akW:bZ Tryz.prog 281 U4:=jk dF mixed JV (C:=U4) noA 200 6 (λ_=>rfl) (λ_=>⟨λ_=>rfl,λ_=>rfl,trivial⟩) λx hx=>Eq.mp (abp x) (Ql x (aZ.1 hx))
theorem abq(x:ZIn)(c:Nat): ∀q,q<x.n+1->(bif Nat.blt q (x.n+1)then(insL x.f x.i x.l q).cs else [])=(insL x.f x.i x.l q).cs:=λq hq=>by rw[bg.2 hq];rfl
theorem apn:bZ Tryz.prog 281 insLC:=λx hx=>⟨rfl,by
 have hx:=aZ.1 hx;refine Ak (Ov (k:=2) (e:=41) (g:=λk=>(x.f k).cs) (wr:=[]) (os:=[qL x.l]) rfl λc hc=> ?_);refine((akW (x,c) (aZ.2 ⟨hx.1,hc,hx.2⟩)).2).mono λv h' hh=> ?_
 refine⟨.slW 2 0 5 (x.n+1),hO 3 [.abs Bf,qL x.l,y5 (x.n+1) (insL x.f x.i x.l)],?_,by with_unfolding_all exact Or.inl ⟨(),trivial,rfl,rfl⟩⟩;have hh:(∃y:Unit,Hd (x.n+1<=c)/\v= .slE 0 0 5 (x.n+1) c/\h'=hO 2 [.room 41 (agM x c),qL x.l])\/(∃y:Unit,True/\v= .slW 2 0 5 (x.n+1)/\h'=hO 3 [.room 41 (apm x c),qL x.l,y5 (x.n+1) (insL x.f x.i x.l)])\/False:=by
  with_unfolding_all exact hh
 rcases hh with ⟨_,h1,rfl,rfl⟩|⟨_,_,rfl,rfl⟩|hh
 ·refine(Ou (k:=2) (rest:=[qL x.l]) rfl (aZ.1 h1)).trans ?_
  refine tq (m:=3) rfl rfl (by decide) λi o o' hi hi'=> ?_
  match i,hi,hi' with
  |0,hi,hi'=>cases hi;cases hi';exactλ_ _ _ _ _ h=>h
  |1,hi,hi'=>cases hi;cases hi';exactλ_ _ _ _ _ h=>h
  |2,hi,hi'=>cases hi;cases hi';exact Dy (abq x c)
 ·exact ajL (m:=3) rfl (show(2:Nat)<=3 by decide)
 ·exact hh.elim⟩
noncomputable section
structure ZDl where
 n:Nat
 f:Nat->ZLnk
 i:Nat
def Ia(f:Nat->ZLnk)(i:Nat)(q:Nat):ZLnk:=bif Nat.blt q i then f q else f (q+1)
def openD(x:ZDl)(c:Nat):Cs:= .row 5 c (λq=>bif Nat.blt q x.n then(x.f q).cs else []) []
def cutD(x:ZDl)(c:Nat):Cs:= .row 5 c (λq=>bif Nat.blt q (x.n-1)then(Ia x.f x.i q).cs else bif Nat.blt q x.n then iI.cs else []) []
def abr:Ctr:=det (ZDl×Nat) (λx=>[.slE 0 0 5 x.1.n x.2,i64 x.1.i,i64 ((x.1.i:Int)+1)]) 1 (λx=>[.room 41 (openD x.1 x.2)]) (λx=>Hd (x.1.i<x.1.n/\x.1.n<=x.2/\x.1.n<=300)) (λx=> .slE 0 0 5 (x.1.n-1) x.2) 1 (λx=>[.room 41 (cutD x.1 x.2)])
def delLC:Ctr:=det ZDl (λx=>[.slW 0 0 5 x.n,i64 x.i,i64 ((x.i:Int)+1)]) 1 (λx=>[y5 x.n x.f]) (λx=>Hd (x.i<x.n/\x.n<=300)) (λx=> .slW 1 0 5 (x.n-1)) 2 (λx=>[.abs Bf,y5 (x.n-1) (Ia x.f x.i)])
end
def apo(a:ZDl×Nat):Prop:=(a.2=a.2/\ ∀q:Nat,q<a.2->Cs.eff (λ(q_1:Nat)=>cond (Nat.blt q_1 (a.1.n-1)) (ZLnk.cs (Ia a.1.f a.1.i q_1)) (cond (Nat.blt q_1 a.1.n) iI.cs (@List.nil Value))) [] q=Cs.eff (λ(q_1:Nat)=>cond (Nat.blt q_1 a.1.n) (ZLnk.cs (a.1.f q_1)) (@List.nil Value)) [] q)/\True
def U6(x:ZDl×Nat):Prop:=
 0<=(x.1.n:Int)/\0<=(x.1.i:Int)+1/\0<=(x.1.i:Int)/\(x.1.i<=Int.toNat ((x.1.i:Int)+1)/\Int.toNat ((x.1.i:Int)+1)<=x.1.n/\x.1.n<=x.2)/\cP (BEq.beq (x.1.i:Int) ((x.1.i:Int)+1)) (∃y:Unit,True/\(0=0/\x.1.n-1=x.1.n/\x.2=x.2)/\apo x) (0<=(x.1.i:Int)/\(0<=x.1.i/\x.1.i<=x.2/\x.2<=x.2)/\0<=(x.1.i:Int)+1/\(Int.toNat ((x.1.i:Int)+1)<=x.1.n/\x.1.n<=x.2/\x.2<=x.2)/\0+(x.1.i-0)<=x.2/\0+Int.toNat ((x.1.i:Int)+1)+(x.1.n-Int.toNat ((x.1.i:Int)+1))<=x.2/\cP (Nat.beq (x.1.n-Int.toNat ((x.1.i:Int)+1)) 0) (True/\True/\0<=(x.1.n:Int)/\0<=((x.1.i-0:Nat):Int)/\(x.1.i-0<=x.1.n/\x.1.n<=x.2-0/\x.2-0<=x.2-0)/\0+(x.1.i-0)+(x.1.n-(x.1.i-0))<=x.2/\ ∃y:Unit,True/\(0=0/\x.1.n-1=x.1.i-0/\x.2=x.2-0)/\(x.2=x.2/\ ∀q:Nat,q<x.2->Cs.eff (λ(q_1:Nat)=>cond (Nat.blt q_1 (x.1.n-1)) (ZLnk.cs (Ia x.1.f x.1.i q_1)) (cond (Nat.blt q_1 x.1.n) iI.cs (@List.nil Value))) [] q=Cs.eff (λ(p:Nat)=>cond (Nat.ble (0+(x.1.i-0)) p&&Nat.blt p (0+(x.1.i-0)+(x.1.n-(x.1.i-0)))) [Value.string (ByteArray.mk #[]),Value.int .u64 0,Value.int .u64 0,Value.int .i64 0,Value.int .i64 0] (Cs.eff (λ(q_1:Nat)=>cond (Nat.blt q_1 x.1.n) (ZLnk.cs (x.1.f q_1)) (@List.nil Value)) [] p)) [] q)/\
 True) (cP (Nat.ble (x.1.i-0+(x.1.n-Int.toNat ((x.1.i:Int)+1))) (x.2-0)) ((∀k:Nat,k<x.1.n-Int.toNat ((x.1.i:Int)+1)->(Nat.beq (List.length (Cs.eff (λ(q:Nat)=>cond (Nat.blt q x.1.n) (ZLnk.cs (x.1.f q)) (@List.nil Value)) [] (0+Int.toNat ((x.1.i:Int)+1)+k))) 5&&List.all (Cs.eff (λ(q:Nat)=>cond (Nat.blt q x.1.n) (ZLnk.cs (x.1.f q)) (@List.nil Value)) [] (0+Int.toNat ((x.1.i:Int)+1)+k)) Value.oneCell')=true)/\0+(x.1.i-0+(x.1.n-Int.toNat ((x.1.i:Int)+1)))<=x.2/\True/\True/\0<=(x.1.n:Int)/\0<=((x.1.i-0+(x.1.n-Int.toNat ((x.1.i:Int)+1)):Nat):Int)/\(x.1.i-0+(x.1.n-Int.toNat ((x.1.i:Int)+1))<=x.1.n/\x.1.n<=x.2-0/\x.2-0<=x.2-0)/\0+(x.1.i-0+(x.1.n-Int.toNat ((x.1.i:Int)+1)))+(x.1.n-(x.1.i-0+(x.1.n-Int.toNat ((x.1.i:Int)+1))))<=x.2/\ ∃y:Unit,True/\(0=0/\x.1.n-1=x.1.i-0+(x.1.n-Int.toNat ((x.1.i:Int)+1))/\x.2=x.2-0)/\(x.2=x.2/\
 ∀q:Nat,q<x.2->Cs.eff (λ(q_1:Nat)=>cond (Nat.blt q_1 (x.1.n-1)) (ZLnk.cs (Ia x.1.f x.1.i q_1)) (cond (Nat.blt q_1 x.1.n) iI.cs (@List.nil Value))) [] q=Cs.eff (λ(p:Nat)=>cond (Nat.ble (0+(x.1.i-0+(x.1.n-Int.toNat ((x.1.i:Int)+1)))) p&&Nat.blt p (0+(x.1.i-0+(x.1.n-Int.toNat ((x.1.i:Int)+1)))+(x.1.n-(x.1.i-0+(x.1.n-Int.toNat ((x.1.i:Int)+1)))))) [Value.string (ByteArray.mk #[]),Value.int .u64 0,Value.int .u64 0,Value.int .i64 0,Value.int .i64 0] (Cs.eff (λ(p_1:Nat)=>cond (Nat.ble (0+(x.1.i-0)) p_1&&Nat.blt p_1 (0+(x.1.i-0)+(x.1.n-Int.toNat ((x.1.i:Int)+1)))) (Cs.eff (λ(q_1:Nat)=>cond (Nat.blt q_1 x.1.n) (ZLnk.cs (x.1.f q_1)) (@List.nil Value)) [] (0+Int.toNat ((x.1.i:Int)+1)+(p_1-(0+(x.1.i-0))))) (Cs.eff (λ(q_1:Nat)=>cond (Nat.blt q_1 x.1.n) (ZLnk.cs (x.1.f q_1)) (@List.nil Value)) [] p_1)) [] p)) [] q)/\True) ((2*(x.1.i-0+(x.1.n-Int.toNat ((x.1.i:Int)+1)))+1000)*48<=281474976710656/\True/\True/\0<=(x.1.n:Int)/\0<=((x.1.i-0+(x.1.n-Int.toNat ((x.1.i:Int)+1)):Nat):Int)/\(x.1.i-0+(x.1.n-Int.toNat ((x.1.i:Int)+1))<=x.1.n/\x.1.n<=x.1.i-0+(x.1.n-Int.toNat ((x.1.i:Int)+1))/\x.1.i-0+(x.1.n-Int.toNat ((x.1.i:Int)+1))<=x.1.i-0+(x.1.n-Int.toNat ((x.1.i:Int)+1)))/\0+(x.1.i-0+(x.1.n-Int.toNat ((x.1.i:Int)+1)))+(x.1.n-(x.1.i-0+(x.1.n-Int.toNat ((x.1.i:Int)+1))))<=x.1.i-0+(x.1.n-Int.toNat ((x.1.i:Int)+1))/\ ∃y:Unit,True/\False/\apo x)))
theorem abt(x:ZDl×Nat):U6 x=wpF Tryz.prog akU tt (noA x) 200 6 282 (abr.args x) (hO abr.k (abr.os x)) (λv h'=>eX abr.k x v h' abr.outs):=by kernel_rfl
theorem Qm(x:ZDl×Nat)(hx:x.1.i<x.1.n/\x.1.n<=x.2/\x.1.n<=300):U6 x:=by
 obtain⟨⟨n,f,i⟩,c⟩:=x;obtain⟨h1,h2,h3⟩:=hx;dsimp only at h1 h2 h3;unfold U6;simp only[apo];have e2:((i:Int)+1).toNat=i+1:=by omega
 simp only[aZ,aV,aU,aA,aI,bT,bF,aO,aK,ay,aX,aW,aN,e2];have hb: ∀a b:Nat,a<=b->Nat.ble a b=true:=λa b h=>by simpa using h
 simp only[Cs.eff];refine⟨by omega,by omega,by omega,⟨by omega,by omega,by omega⟩,bf (λh=> ?_) λ_=>⟨by omega,⟨by omega,by omega,by omega⟩,by omega,⟨by omega,by omega,by omega⟩,by omega,by omega,bf (λh=> ?_) λh=>bf (λ_=> ?_) λhb2=> ?_⟩⟩
 ·exact absurd (eq_of_beq h) (by omega)
 ·have hn:n=i+1:=by have:=au h;omega
  subst hn;refine⟨by omega,by omega,⟨by omega,by omega,by omega⟩,by omega,by omega,λq hq=> ?_⟩;by_cases h1:q<i
  ·rw[bg.2 (show q<i+1-1 by omega),H9 (show¬i<=q by omega),bg.2 (show q<i+1 by omega)]
   unfold Ia;rw[bg.2 h1];rfl
  ·by_cases h2:q=i
   ·rw[iY (show¬q<i+1-1 by omega),hb _ _ (show i<=q by omega),bg.2 (show q<i+1 by omega),bg.2 (show q<i+(i+1-i) by omega)];rfl
   ·rw[iY (show¬q<i+1-1 by omega),iY (show¬q<i+1 by omega),iY (show¬q<i+(i+1-i) by omega),hb _ _ (show i<=q by omega)];rfl
 ·have hlt:i+1<n:=by
   rcases Nat.lt_or_ge (i+1) n with g|g
   ·exact g
   ·have:n-(i+1)=0:=by omega
    rw[this]at h;cases h
  refine⟨λk hk=> ?_,by omega,by omega,by omega,⟨by omega,by omega,by omega⟩,by omega,by omega,λq hq=> ?_⟩
  ·rw[bg.2 (show i+1+k<n by omega)];rfl
  ·by_cases h1:q<n-1
   ·rw[bg.2 h1,H9 (show¬i+(n-(i+1))<=q by omega)]
    by_cases h4:q<i
    ·rw[H9 (show¬i<=q by omega),bg.2 (show q<n by omega)]
     unfold Ia;rw[bg.2 h4];rfl
    ·rw[hb _ _ (show i<=q by omega),bg.2 (show q<i+(n-(i+1)) by omega),bg.2 (show i+1+(q-i)<n by omega),show i+1+(q-i)=q+1 by omega]
     unfold Ia;rw[iY h4];rfl
   ·by_cases h4:q<n
    ·rw[iY h1,bg.2 h4,hb _ _ (show i+(n-(i+1))<=q by omega),bg.2 (show q<i+(n-(i+1))+(n-(i+(n-(i+1)))) by omega)];rfl
    ·rw[iY h1,iY h4,hb _ _ (show i+(n-(i+1))<=q by omega),iY (show¬q<i+(n-(i+1))+(n-(i+(n-(i+1)))) by omega),hb _ _ (show i<=q by omega),iY (show¬q<i+(n-(i+1)) by omega)];rfl
 ·exact absurd (Nat.ble_eq_true_of_le (show i+(n-(i+1))<=c by omega)) (by rw[hb2];decide)
theorem akX:bZ Tryz.prog 282 abr:=dR dF mixed JV noA 200 6 (λ_=>rfl) (λ_=>rfl) λx hx=>Eq.mp (abt x) (Qm x (aZ.1 hx))
theorem apq(x:ZDl)(c:Nat): ∀q,q<x.n-1->(bif Nat.blt q (x.n-1)then(Ia x.f x.i q).cs else bif Nat.blt q x.n then iI.cs else [])=(Ia x.f x.i q).cs:=λq hq=>by rw[bg.2 hq];rfl
theorem apr:bZ Tryz.prog 282 delLC:=λx hx=>⟨rfl,by
 have hx:=aZ.1 hx;refine Ak (Ov (k:=1) (e:=41) (g:=λk=>(x.f k).cs) (wr:=[]) (os:=[]) rfl λc hc=> ?_);refine((akX (x,c) (aZ.2 ⟨hx.1,hc,hx.2⟩)).2).mono λv h' hh=> ?_
 refine⟨.slW 1 0 5 (x.n-1),hO 2 [.abs Bf,y5 (x.n-1) (Ia x.f x.i)],?_,by with_unfolding_all exact Or.inl ⟨(),trivial,rfl,rfl⟩⟩;have hh:(∃y:Unit,True/\v= .slE 0 0 5 (x.n-1) c/\h'=hO 1 [.room 41 (cutD x c)])\/False:=by
  with_unfolding_all exact hh
 rcases hh with ⟨_,h1,rfl,rfl⟩|hh
 ·refine(Ou (k:=1) (rest:=[]) rfl (show x.n-1<=c by omega)).trans ?_
  refine tq (m:=2) rfl rfl (by decide) λi o o' hi hi'=> ?_
  match i,hi,hi' with
  |0,hi,hi'=>cases hi;cases hi';exactλ_ _ _ _ _ h=>h
  |1,hi,hi'=>cases hi;cases hi';exact Dy (apq x c)
 ·exact hh.elim⟩
def JW(s:ByteArray):Prop:=
 ∃x:ByteArray,x.size<1099511627776/\(x=s/\True)/\True/\ ∀y:Unit,True->((8:Int)=0->False)/\I64 (Int.tmod (nY x) (8:Int))/\ ∃y_1:Unit,True/\((bkt s:Nat):Int)=Int.tmod (nY x) (8:Int)/\True
theorem U7(s:ByteArray):JW s=wpF Tryz.prog apj tt (noA s) 200 5 183 (Eo.args s) (hO 0 (Eo.os s)) (λv h'=>eX 0 s v h' Eo.outs):=by kernel_rfl
def U8(s:ByteArray):Prop:=
 ∃x:ByteArray,x.size<1099511627776/\(x=s/\True)/\True/\ ∀y:Unit,True->I64 (31:Int)/\(0:Int)<=31/\cP (BEq.beq (IntKind.wrap .u32 ((@BitVec.toNat 32 (@HAnd.hAnd (@BitVec 32) (@BitVec 32) (@BitVec 32) (@instHAndOfAndOp (@BitVec 32) (@BitVec.instAndOp 32)) (@BitVec.ofInt 32 (Int.fdiv (nY x) (2147483648:Int))) (@BitVec.ofInt 32 (1:Int))):Nat):Int)) (0:Int)) ((∃y_1:Unit,Hd (lvl s=1)/\(1:Int)=1/\True)\/(∃y_1:Unit,Hd (lvl s=2)/\(2:Int)=1/\True)\/(∃y_1:Unit,Hd (lvl s=3)/\(3:Int)=1/\True)\/ ∃y_1:Unit,Hd (lvl s=4)/\(4:Int)=1/\True) (I64 (2:Int)/\I64 (1:Int)/\I64 (30:Int)/\(0:Int)<=30/\cP (BEq.beq (IntKind.wrap .u32 ((@BitVec.toNat 32 (@HAnd.hAnd (@BitVec 32) (@BitVec 32) (@BitVec 32) (@instHAndOfAndOp (@BitVec 32) (@BitVec.instAndOp 32)) (@BitVec.ofInt 32 (Int.fdiv (nY x) (1073741824:Int))) (@BitVec.ofInt 32 (1:Int))):Nat):Int)) (0:Int)) ((∃y_1:Unit,Hd (lvl s=1)/\(1:Int)=2/\True)\/(∃y_1:Unit,Hd (lvl s=2)/\(2:Int)=2/\True)\/(∃y_1:Unit,Hd (lvl s=3)/\(3:Int)=2/\True)\/ ∃y_1:Unit,Hd (lvl s=4)/\(4:Int)=2/\True) (I64 (3:Int)/\I64 (2:Int)/\I64 (29:Int)/\(0:Int)<=29/\cP (BEq.beq (IntKind.wrap .u32 ((@BitVec.toNat 32 (@HAnd.hAnd (@BitVec 32) (@BitVec 32) (@BitVec 32) (@instHAndOfAndOp (@BitVec 32) (@BitVec.instAndOp 32)) (@BitVec.ofInt 32 (Int.fdiv (nY x) (536870912:Int))) (@BitVec.ofInt 32 (1:Int))):Nat):Int)) (0:Int)) ((∃y_1:Unit,Hd (lvl s=1)/\(1:Int)=3/\True)\/(∃y_1:Unit,Hd (lvl s=2)/\(2:Int)=3/\True)\/(∃y_1:Unit,Hd (lvl s=3)/\(3:Int)=3/\True)\/ ∃y_1:Unit,Hd (lvl s=4)/\(4:Int)=3/\True) (I64 (4:Int)/\I64 (3:Int)/\((∃y_1:Unit,Hd (lvl s=1)/\
 (1:Int)=4/\True)\/(∃y_1:Unit,Hd (lvl s=2)/\(2:Int)=4/\True)\/(∃y_1:Unit,Hd (lvl s=3)/\(3:Int)=4/\True)\/ ∃y_1:Unit,Hd (lvl s=4)/\(4:Int)=4/\True))))
theorem abu(s:ByteArray):U8 s=wpF Tryz.prog apj tt (noA s) 200 5 279 (Za.args s) (hO 0 (Za.os s)) (λv h'=>eX 0 s v h' Za.outs):=by kernel_rfl
theorem Zi:dX Tryz.prog apj:= .cons (bP aom) .nil
theorem JX(s:ByteArray)(hs:s.size<1099511627776):JW s:=by
 obtain⟨u1,u2⟩:=aol s;have e:(nY s).tmod 8=nY s%8:=Int.tmod_eq_emod_of_nonneg u1;unfold JW;simp only[aZ,aV,aU,aA,aI,bT,bF,aO,aK,ay,aX,aW,bU,bH,bI,bJ,bV,bD,bK,bC,eY,aH,aN,ah,ak,aB,aF,aC,aG];refine⟨s,hs,rfl,by decide,?_,?_⟩
 ·rw[e];unfold I64;omega
 ·rw[am0,e];omega
theorem Qn(s:ByteArray)(hs:s.size<1099511627776):U8 s:=by
 have i: ∀z:Int,0<=z->z<=100->I64 z:=λz a b=>by unfold I64;omega
 unfold U8;simp only[aZ,aV,aU,aA,aI,bT,bF,aO,aK,ay,aX,aW,bU,bH,bI,bJ,bV,bD,bK,bC,eY,aH,aN,ah,ak,aB,aF,aC,aG];refine⟨s,hs,rfl,i _ (by decide) (by decide),by decide,bf (λh=> .inl ?_) λh1=>⟨i _ (by decide) (by decide),i _ (by decide) (by decide),i _ (by decide) (by decide),by decide,bf (λh=> .inr (.inl ?_)) λh2=>⟨i _ (by decide) (by decide),i _ (by decide) (by decide),i _ (by decide) (by decide),by decide,bf (λh=> .inr (.inr (.inl ?_))) λh3=>⟨i _ (by decide) (by decide),i _ (by decide) (by decide),.inr (.inr (.inr ?_))⟩⟩⟩⟩
 ·rw[Qh];unfold aph;exact if_pos h
 ·rw[Qh];unfold aph;rw[if_neg (by rw[show akN (nY s) 2147483648=false from h1];decide)];exact if_pos h
 ·rw[Qh];unfold aph;rw[if_neg (by rw[show akN (nY s) 2147483648=false from h1];decide),if_neg (by rw[show akN (nY s) 1073741824=false from h2];decide)];exact if_pos h
 ·rw[Qh];unfold aph;rw[if_neg (by rw[show akN (nY s) 2147483648=false from h1];decide),if_neg (by rw[show akN (nY s) 1073741824=false from h2];decide)];exact if_neg (by rw[show akN (nY s) 536870912=false from h3];decide)
theorem Qo:bZ Tryz.prog 183 Eo:=dR dF mixed Zi noA 200 5 (λ_=>rfl) (λ_=>rfl) λx hx=>Eq.mp (U7 x) (JX x (aZ.1 hx))
theorem akY:bZ Tryz.prog 279 Za:=jk dF mixed Zi noA 200 5 (λ_=>rfl) (λ_=>⟨λ_=>rfl,λ_=>rfl,λ_=>rfl,λ_=>rfl,trivial⟩) λx hx=>Eq.mp (abu x) (Qn x (aZ.1 hx))
structure agS (X:Type) where
 Y:Type
 post:X->Y->Prop
 ret:X->Y->AV
 L:X->Y->Lks
 m:Nat
 ex:X->Y->List dB
structure abv where
 X:Type
 args:X->List AV
 L:X->Lks
 pre:X->Prop
 outs:List (agS X)
noncomputable def agS.po{X:Type}(L0:X->Lks)(o:agS X):aao (X×iJ):={Y:=o.Y×iJ,post:=λx y=>o.post x.1 y.1/\Hd (kJ (o.L x.1 y.1) y.2),ret:=λx y=>o.ret x.1 y.1,m:=o.m,l:=λx y=> .m (Qi y.2)::(o.ex x.1 y.1).map PO.o}
noncomputable def agS.out{X:Type}(o:agS X):Out X:={Y:=o.Y,post:=o.post,ret:=o.ret,m:=o.m,os:=λx y=> .abs (tabA (o.L x y))::o.ex x y}
noncomputable def abv.E(C:abv):jE:={X:=C.X×iJ,args:=λx=>C.args x.1,k:=1,l:=λx=>[.m (Qi x.2)],pre:=λx=>C.pre x.1/\Hd (kJ (C.L x.1) x.2),outs:=C.outs.map (agS.po C.L)}
noncomputable def abv.C(C:abv):Ctr:={X:=C.X,args:=C.args,k:=1,os:=λx=>[.abs (tabA (C.L x))],pre:=C.pre,outs:=C.outs.map agS.out}
theorem Zj{L:Lks}{t:iJ}(h:kJ L t){w:World}{a:SE.Loc}{S:Nat->Prop}(ho:(ownM (Qi t)).holds w a S):(tabA L).holds w a S:=by
 rw[uM]at ho;rw[agH];obtain⟨h0,ρ,e,r⟩:=ho;exact⟨h0,ρ,⟨t,h,e⟩,r⟩
theorem akZ{L:Lks}{w:World}{a:SE.Loc}{S:Nat->Prop}(ho:(tabA L).holds w a S): ∃t,kJ L t/\(ownM (Qi t)).holds w a S:=by
 rw[agH]at ho;obtain⟨h0,ρ,⟨t,h,e⟩,r⟩:=ho;exact⟨t,h,by rw[uM];exact⟨h0,ρ,e,r⟩⟩
theorem y8{n:Nat}{o o':dB}{os:List dB}(hn:n=os.length+1): ∀j,((hO n (o::os)).set 0 o').get j=(hO n (o'::os)).get j:=λj=>by
 subst hn;rw[Heap.dN,jA (n:=os.length+1) (os:=o::os) (by simp),jA (n:=os.length+1) (os:=o'::os) (by simp)];cases j with
 |zero=>simp
 |succ j=>simp
theorem Qp{X:Type}{L0:X->Lks}{x:X}{t:iJ}{v:AV}{h':Heap}: ∀{l:List (agS X)},(∀o∈l,∀x y,(o.ex x y).length+1=o.m)->lK (x,t) v h' ((l.map (agS.po L0)).map aao.out)-> ∃v0 h0,Leq 1 v h' v0 h0/\lK x v0 h0 (l.map agS.out)
 |[],_,h=>by simp only[List.map_nil]at h;rw[xQ]at h;exact h.elim
 |o::l,hl,h=>by
  simp only[List.map_cons]at h ⊢;rw[dU]at h;rcases h with ⟨y,h1,rfl,rfl⟩|h
  ·have hlen:=hl o (by simp) x y.1
   have hT:kJ (o.L x y.1) y.2:=aZ.1 h1.2;refine⟨_,hO o.m (.abs (tabA (o.L x y.1))::o.ex x y.1),⟨?_,λρ T w u hR hv=>⟨ρ,λ_ _=>rfl,?_,hv⟩⟩,by rw[dU];exact .inl ⟨y.1,h1.1,rfl,rfl⟩⟩
   ·show 1<=o.m;omega
   ·have hm:((o.ex x y.1).map PO.o).map PO.ab=o.ex x y.1:=by rw[List.map_map];exact(List.map_id _)
    have hR:Rel (hO o.m (.abs (ownM (Qi y.2))::o.ex x y.1)) ρ T w:=by
     have e:(aao.out (agS.po L0 o)).os (x,t) y= .abs (ownM (Qi y.2))::o.ex x y.1:=by
      show PO.ab (.m (Qi y.2))::((o.ex x y.1).map PO.o).map PO.ab=_;rw[hm];rfl
     rw[<-e];exact hR
    have h2:=hR.swap (i:=0) (o:= .abs (ownM (Qi y.2))) (o':= .abs (tabA (o.L x y.1))) (by rw[jA (by simp only[List.length_cons];omega)];rfl) λa S ho=>Zj hT ho
    exact h2.less (by simp;exact aY _) λj x hj=>by rw[y8 (by omega)];exact hj
  ·obtain⟨v0,h0,g1,g2⟩:=Qp (l:=l) (λp hp=>hl p (List.mem_cons_of_mem _ hp)) h
   exact⟨v0,h0,g1,by rw[dU];exact .inr g2⟩
theorem Ib{Z:Type}{h:Heap}{ρ:SE.Ren}{T:Nat->Prop}{w:World}{i:Nat}{o:dB}{o':Z->dB}(hi:h.get i=some o)(hh: ∀a S,dH ρ w T a S o-> ∃z,dH ρ w T a S (o' z))(hR:Rel h ρ T w): ∃z,Rel (h.set i (o' z)) ρ T w:=by
 obtain⟨S,h1,h2,h3,h4,h5⟩:=hR;obtain⟨a,ha,ho⟩:=h1 i o hi;obtain⟨z,hz⟩:=hh a _ ho;have get: ∀j x,(h.set i (o' z)).get j=some x-> ∃y,h.get j=some y:=λj x hj=>by
  rw[Heap.dN]at hj;by_cases hji:j=i
  ·exact⟨o,hji▸hi⟩
  ·rw[if_neg hji]at hj;exact⟨x,hj⟩
 refine⟨z,S,λj x hj=> ?_,λj k x y b hj hk hjk=> ?_,λj x b hj hS=> ?_,λj hj=>h4 j (by simpa using hj),h5⟩
 ·rw[Heap.dN]at hj
  by_cases hji:j=i
  ·subst hji
   rw[if_pos rfl]at hj;cases hj;exact⟨a,ha,hz⟩
  ·rw[if_neg hji]at hj
   exact h1 j x hj
 ·obtain⟨x',hx'⟩:=get j x hj
  obtain⟨y',hy'⟩:=get k y hk;exact h2 j k x' y' b hx' hy' hjk
 ·obtain⟨x',hx'⟩:=get j x hj
  exact h3 j x' b hx' hS
theorem y9{P:Program}{f:FuncId}{C:abv}(hc:nJ P f)(hl: ∀o∈C.outs,∀x y,(o.ex x y).length+1=o.m)(hE:bZ P f C.E.ctr):bZ P f C.C:=λx hp=>by
 refine⟨rfl,hc,λρ T w vs hR hl2=> ?_⟩;obtain⟨t,hR2⟩:=Ib (i:=0) (o:= .abs (tabA (C.L x))) (o':=λt:{t:iJ//kJ (C.L x) t}=> .abs (ownM (Qi t.1))) rfl (λa S ho=>by obtain⟨t,h1,h2⟩:=akZ ho;exact⟨⟨t,h1⟩,h2⟩) hR;obtain⟨t,ht⟩:=t;have hR3:Rel (hO 1 [.abs (ownM (Qi t))]) ρ T w:=hR2.less (aY _) λj y hj=>by
  have:=y8 (n:=1) (o:= .abs (tabA (C.L x))) (o':= .abs (ownM (Qi t))) (os:=[]) rfl j;exact this.trans hj
 obtain⟨_,hs⟩:=hE (x,t) ⟨hp,aZ.2 ht⟩;refine(hs.2 ρ T w vs hR3 hl2).mono ?_
 rintro e w' ⟨ρ2,v,u,h',c1,c2,c3,c4,c5,c6,c7⟩
 obtain⟨v0,h0,g1,g2⟩:=Qp hl c7;obtain⟨ρ3,q1,q2,q3⟩:=g1.2 ρ2 T w' u c3 c4;exact⟨ρ3,v0,u,h0,λi hi=>(q1 i hi).trans (c1 i hi),g1.1,q2,q3,c5,c6,g2⟩
theorem ak0{w:World}{a:SE.Loc}{S:Nat->Prop}:Bf.holds w a S:=by rw[ael];trivial
theorem agT{P:Program}{f:FuncId}{k m n:Nat}{z:Bool}{e:TypeId}{c:Cs}{rest:List AV}{os:List dB}{K:AV->Heap->Prop}(hk:os.length+1=k)(hc:nJ P f)
  (hN:z=true->n=0->Sp P f (gY::rest) (hO k (.abs Bf::os)) K) (hW:z=false->Sp P f (.slW 0 0 m n::rest) (hO k (.room e c::os)) K):
  Sp P f (.slV z 0 m n::rest) (hO k (.iF z e c::os)) K:=by
 refine⟨hc,λρ T w vs hR hl=> ?_⟩;have sw: ∀o',(∀a S,dH ρ w T a S (.iF z e c)->dH ρ w T a S o')->Rel (hO k (o'::os)) ρ T w:=λo' ho=>by
  have h2:=hR.swap (i:=0) (o:= .iF z e c) (o':=o') (by rw[jA (by simp;omega)];rfl) ho;exact h2.less (by simp;exact aY _) λj x hj=>by rw[y8 (by omega)];exact hj
 obtain⟨v,vl,hv,h1,h2⟩:=hl;cases z with
 |false=>
  refine(hW rfl).2 ρ T w vs (sw _ λa S h=> ?_) ⟨v,vl,hv,?_,h2⟩
  ·rcases h with ⟨h,_⟩|⟨_,h⟩
   ·cases h
   ·exact h
  ·rcases h1 with ⟨h,_⟩|⟨_,a,p,c',g1,g2,g3,g4⟩
   ·cases h
   ·exact⟨a,p,c',g1,g2,g3,λhc'=>by obtain⟨g5,g6⟩:=g4 hc';exact⟨by omega,by omega⟩⟩
 |true=>
  rcases h1 with ⟨_,hn,hv'⟩|⟨h,_⟩
  ·exact(hN rfl hn).2 ρ T w vs (sw _ λa S _=>ak0) ⟨v,vl,hv,hv',h2⟩
  ·cases h
noncomputable section
def Ic:Ctr:=det ZLnk (λ_=>[gY,i64 0,.sl 1 0 1 1]) 2 (λl=>[.abs Bf,qL l]) (λ_=>True) (λ_=> .slW 2 0 5 1) 3 (λl=>[.abs Bf,qL l,y5 1 (λ_=>l)])
structure ZIz where
 z:Bool
 L:Lks
 i:Nat
 l:ZLnk
def nthL(L:Lks)(q:Nat):ZLnk:=L.getD q iI
def uX(z:Bool)(L:Lks):dB:= .iF z 41 (.row 5 L.length (λq=>(nthL L q).cs) [])
def insV:Ctr:=det ZIz (λx=>[.slV x.z 0 5 x.L.length,i64 x.i,.sl 1 0 1 1]) 2 (λx=>[uX x.z x.L,qL x.l]) (λx=>Hd (x.i<=x.L.length/\x.L.length<=300)) (λx=> .slW 2 0 5 (x.L.length+1)) 3 (λx=>[.abs Bf,qL x.l,y5 (x.L.length+1) (insL (nthL x.L) x.i x.l)])
structure ZDz where
 z:Bool
 L:Lks
 i:Nat
def delV:Ctr:=det ZDz (λx=>[.slV x.z 0 5 x.L.length,i64 x.i,i64 ((x.i:Int)+1)]) 1 (λx=>[uX x.z x.L]) (λx=>Hd (x.i<x.L.length/\x.L.length<=300)) (λx=> .slW 1 0 5 (x.L.length-1)) 2 (λx=>[.abs Bf,y5 (x.L.length-1) (Ia (nthL x.L) x.i)])
end
def JY(x:ZLnk):Prop:=
 (0:Int)<=0/\(0<=0/\0<=0/\0<=0)/\(2*(0+1)+1000)*48<=281474976710656/\ ∃y:Unit,True/\(0=0/\1=1)/\Bf=Bf/\(x.key=x.key/\x.id=x.id/\x.ver=x.ver/\x.line=x.line/\x.cls=x.cls/\True)/\(1=0+List.length [List.take 5 [Value.string x.key,Value.int .u64 x.id,Value.int .u64 x.ver,Value.int .i64 x.line,Value.int .i64 x.cls]]/\ ∀q:Nat,q<1->[Value.string x.key,Value.int .u64 x.id,Value.int .u64 x.ver,Value.int .i64 x.line,Value.int .i64 x.cls]=Cs.eff (λ(x_1:Nat)=>[]) [(0,List.take 5 [Value.string x.key,Value.int .u64 x.id,Value.int .u64 x.ver,Value.int .i64 x.line,Value.int .i64 x.cls])] q)/\True
theorem U9(x:ZLnk):JY x=wpF Tryz.prog akU tt (noA x) 200 6 281 (Ic.args x) (hO Ic.k (Ic.os x)) (λv h'=>eX Ic.k x v h' Ic.outs):=by kernel_rfl
theorem JZ(x:ZLnk):JY x:=by
 unfold JY;simp only[aZ,aV,aU,aA,aI,bT,bF,aO,aK,ay,aX,aW];refine⟨by omega,by omega,by omega,rfl,λq hq=> ?_⟩;obtain rfl:q=0:=by omega
 rfl
theorem agU:bZ Tryz.prog 281 Ic:=dR dF mixed JV noA 200 6 (λ_=>rfl) (λ_=>rfl) λx _=>Eq.mp (U9 x) (JZ x)
theorem aps:bZ Tryz.prog 281 insV:=λx hx=>⟨rfl,by
 have hx:=aZ.1 hx;refine agT (k:=2) (os:=[qL x.l]) rfl ⟨Tryz.f281,by kernel_rfl,by kernel_rfl,by kernel_rfl⟩ (λhz hn=> ?_) λhz=> ?_
 ·have hi:x.i=0:=by omega
  rw[hi];refine Ak (((agU x.l trivial).2).mono λv h' hh=> ?_);refine⟨.slW 2 0 5 (x.L.length+1),hO 3 [.abs Bf,qL x.l,y5 (x.L.length+1) (insL (nthL x.L) x.i x.l)],?_,by with_unfolding_all exact Or.inl ⟨(),trivial,rfl,rfl⟩⟩;have hh:(∃y:Unit,True/\v= .slW 2 0 5 1/\h'=hO 3 [.abs Bf,qL x.l,y5 1 (λ_=>x.l)])\/False:=by
   with_unfolding_all exact hh
  rcases hh with ⟨_,_,rfl,rfl⟩|hh
  ·rw[hn]
   refine tq (m:=3) rfl rfl (show(2:Nat)<=3 by decide) λi o o' hi' apt=> ?_
   match i,hi',apt with
   |0,hi',apt=>cases hi';cases apt;exactλ_ _ _ _ _ h=>h
   |1,hi',apt=>cases hi';cases apt;exactλ_ _ _ _ _ h=>h
   |2,hi',apt=>cases hi';cases apt;exact Dy (λq hq=>by(obtain rfl:q=0:=by omega);rw[hi,qM])
  ·exact hh.elim
 ·exact((apn ⟨x.L.length,nthL x.L,x.i,x.l⟩ (aZ.2 hx)).2).mono λv h' hh=>by with_unfolding_all exact hh⟩
theorem apu:bZ Tryz.prog 282 delV:=λx hx=>⟨rfl,by
 have hx:=aZ.1 hx;refine agT (k:=1) (os:=[]) rfl ⟨Tryz.f282,by kernel_rfl,by kernel_rfl,by kernel_rfl⟩ (λhz hn=> ?_) λhz=> ?_
 ·exact absurd hx.1 (by omega)
 ·exact((apr ⟨x.L.length,nthL x.L,x.i⟩ (aZ.2 hx)).2).mono λv h' hh=>by with_unfolding_all exact hh⟩
noncomputable section
def am3(b:Nat):Ctr:=det ByteArray (λs=>[.lit (.string s)]) 0 (λ_=>[]) (λs=>Hd (s.size<1099511627776/\lvl s=b)) (λ_=>i64 b) 0 (λ_=>[])
structure ZOd where
 z:Nat->Bool
 V:Nat->Lks
def J3(x:ZOd):List dB:=[.cells 255 (.av [.slV (x.z 0) 1 5 (x.V 0).length,.slV (x.z 1) 2 5 (x.V 1).length,.slV (x.z 2) 3 5 (x.V 2).length,.slV (x.z 3) 4 5 (x.V 3).length]),uX (x.z 0) (x.V 0),uX (x.z 1) (x.V 1),uX (x.z 2) (x.V 2),uX (x.z 3) (x.V 3)]
structure ZOs where
 o:ZOd
 l:ZLnk
structure ZOk where
 o:ZOd
 s:ByteArray
def ZOd.good(x:ZOd):Prop:= ∀k,k<4->srt (x.V k)/\(x.V k).length<=300/\(x.z k=true->x.V k=[])
def Zk(b:Nat):jE:={X:=ZOs,args:=λx=>[.ptr 0 0,x.l.av],k:=1,l:=λx=>[.m (J3 x.o)],pre:=λx=>Hd (x.l.key.size<1099511627776/\lvl x.l.key=b/\x.o.good),outs:=[
 {Y:=ZOd,post:=λx y=>Hd (∀k,k<4->(y.V k=if k<b then iW (x.o.V k) x.l else x.o.V k)/\(y.z k=true->y.V k=[])),ret:=λx _=>boo (fF (x.o.V (b-1)) x.l.key).isSome,m:=1,l:=λ_ y=>[.m (J3 y)]}]}
def J4(b:Nat):jE:={X:=ZOk,args:=λx=>[.ptr 0 0,.lit (.string x.s)],k:=1,l:=λx=>[.m (J3 x.o)],pre:=λx=>Hd (x.s.size<1099511627776/\lvl x.s=b/\x.o.good),outs:=[
 {Y:=ZOd,post:=λx y=>Hd (∀k,k<4->(y.V k=if k<b then fQ (x.o.V k) x.s else x.o.V k)/\(y.z k=true->y.V k=[])),ret:=λx _=>boo ((List.range b).any λk=>(fF (x.o.V k) x.s).isSome),m:=1,l:=λ_ y=>[.m (J3 y)]}]}
def apv(b:Nat):jf:=[(279,ctrT (am3 b)),(280,ctrT arA),(281,ctrT insV),(282,ctrT delV)]
end
theorem Eu{x:ZLnk}{L:Lks}{s:ByteArray}:tY (x::L) s=if kl x.key s=true then tY L s+1 else 0:=by
 unfold tY;rw[List.findIdx_cons];cases kl x.key s<;>rfl
theorem yg{x:ZLnk}{L:Lks}{q:Nat}:nthL (x::L) (q+1)=nthL L q:=rfl
theorem arE{f:Nat->ZLnk}{x:ZLnk}{q:Nat}:insL f 0 x (q+1)=f q:=by rw[Et (Nat.succ_pos q)];rfl
theorem arF{f:Nat->ZLnk}{i:Nat}{x:ZLnk}{q:Nat}:insL f (i+1) x (q+1)=insL (λj=>f (j+1)) i x q:=by
 rcases Nat.lt_trichotomy q i with h|h|h
 ·rw[y7 (by omega),y7 h]
 ·subst h;rw[qM,qM]
 ·rw[Et (by omega),Et h,show q+1-1=q-1+1 by omega]
theorem arG{f:Nat->ZLnk}{q:Nat}:Ia f 0 q=f (q+1):=by unfold Ia;rw[iY (Nat.not_lt_zero q)];rfl
theorem arH{f:Nat->ZLnk}{i q:Nat}:Ia f (i+1) (q+1)=Ia (λj=>f (j+1)) i q:=by
 unfold Ia;by_cases h:q<i
 ·rw[bg.2 h,bg.2 (show q+1<i+1 by omega)]
 ·rw[iY h,iY (show¬q+1<i+1 by omega)]
theorem jO{x:ZLnk}{L:Lks}{s:ByteArray}:fF (x::L) s=if x.key=s then some x else fF L s:=by
 unfold fF;rw[List.find?_cons];by_cases h:x.key=s
 ·rw[decide_eq_true h,if_pos h]
 ·rw[decide_eq_false h,if_neg h]
theorem J5{x:ZLnk}{L:Lks}(h:srt (x::L)):srt L:=(List.pairwise_cons.1 h).2
theorem Ie: ∀{L:Lks} {l:ZLnk},srt L->(fF L l.key).isSome=true->tY L l.key<L.length/\(iW L l).length=L.length/\ ∀q,nthL (iW L l) q=if q=tY L l.key then l else nthL L q
 |[],_,_,h=>by cases h
 |x::L,l,hs,h=>by
  rw[Eu];unfold iW;by_cases hx:x.key=l.key
  ·rw[hx,lD,if_neg (by decide),if_pos rfl]
   refine⟨Nat.succ_pos _,rfl,λq=> ?_⟩;cases q with
   |zero=>rw[if_pos rfl];rfl
   |succ q=>rw[if_neg (by omega)];rfl
  ·rw[jO,if_neg hx]at h
   obtain⟨y,hy⟩:=Option.isSome_iff_exists.1 h;obtain⟨hy1,hy2⟩:=lQ hy;have hk:kl x.key l.key=true:=by rw[<-hy2];exact(List.pairwise_cons.1 hs).1 y hy1
   obtain⟨i1,i2,i3⟩:=Ie (J5 hs) h;rw[if_pos hk,if_neg hx,if_neg (by rw[U2 hk];decide)];refine⟨by simp only[List.length_cons];omega,by simp only[List.length_cons,i2],λq=> ?_⟩;cases q with
   |zero=>rw[if_neg (by omega)];rfl
   |succ q=>
    rw[yg,yg,i3 q];by_cases hq:q=tY L l.key
    ·rw[if_pos hq,if_pos (by omega)]
    ·rw[if_neg hq,if_neg (by omega)]
theorem Zl: ∀{L:Lks} {l:ZLnk},srt L->(fF L l.key).isSome=false->tY L l.key<=L.length/\(iW L l).length=L.length+1/\ ∀q,q<L.length+1->nthL (iW L l) q=insL (nthL L) (tY L l.key) l q
 |[],l,_,_=>⟨aY _,rfl,λq hq=>by have h0:q=0:=Nat.lt_one_iff.1 hq;subst h0;exact qM.symm⟩
 |x::L,l,hs,h=>by
  rw[Eu];unfold iW;have hx:x.key≠l.key:=λe=>by rw[jO,if_pos e]at h;cases h
  rw[jO,if_neg hx]at h;rw[if_neg hx];cases hk:kl x.key l.key with
  |true=>
   obtain⟨i1,i2,i3⟩:=Zl (J5 hs) h;rw[if_pos rfl,if_neg (by rw[U2 hk];decide)];refine⟨by simp only[List.length_cons];omega,by simp only[List.length_cons,i2],λq hq=> ?_⟩;cases q with
   |zero=>rw[y7 (Nat.succ_pos _)];rfl
   |succ q=>rw[yg,i3 q (by simp only[List.length_cons]at hq;omega),arF];rfl
  |false=>
   have hk2:kl l.key x.key=true:=by
    cases hk2:kl l.key x.key
    ·exact absurd (Zc hk hk2) hx
    ·rfl
   rw[if_neg (by decide),if_pos hk2];refine⟨Nat.zero_le _,rfl,λq _=> ?_⟩;cases q with
   |zero=>rw[qM];rfl
   |succ q=>rw[arE];rfl
theorem zf: ∀{L:Lks} {s:ByteArray},(fF L s).isSome=false->fQ L s=L
 |[],_,_=>rfl
 |x::L,s,h=>by
  have hx:x.key≠s:=λe=>by rw[jO,if_pos e]at h;cases h
  rw[jO,if_neg hx]at h;unfold fQ;rw[List.filter_cons,decide_eq_false hx];show x::fQ L s=x::L;rw[zf h]
theorem Ew: ∀{L:Lks} {s:ByteArray},srt L->(fF L s).isSome=true->tY L s<L.length/\(fQ L s).length=L.length-1/\ ∀q,nthL (fQ L s) q=Ia (nthL L) (tY L s) q
 |[],_,_,h=>by cases h
 |x::L,s,hs,h=>by
  rw[Eu];by_cases hx:x.key=s
  ·have hn:(fF L s).isSome=false:=by
    rw[yc λy hy e=> ?_]
    ·rfl
    ·have:=(List.pairwise_cons.1 hs).1 y hy
     rw[hx,e,lD]at this;cases this
   have e:fQ (x::L) s=L:=by
    unfold fQ;rw[List.filter_cons,decide_eq_true hx];exact zf hn
   rw[e,hx,lD,if_neg (by decide)];exact⟨Nat.succ_pos _,rfl,λq=>by rw[arG];rfl⟩
  ·rw[jO,if_neg hx]at h
   obtain⟨y,hy⟩:=Option.isSome_iff_exists.1 h;obtain⟨hy1,hy2⟩:=lQ hy;have hk:kl x.key s=true:=by rw[<-hy2];exact(List.pairwise_cons.1 hs).1 y hy1
   obtain⟨i1,i2,i3⟩:=Ew (J5 hs) h;have e:fQ (x::L) s=x::fQ L s:=by
    unfold fQ;rw[List.filter_cons,decide_eq_false hx];rfl
   rw[e,if_pos hk];refine⟨by simp only[List.length_cons];omega,by simp only[List.length_cons,i2];omega,λq=> ?_⟩;cases q with
   |zero=>unfold Ia;rw[bg.2 (Nat.succ_pos _)];rfl
   |succ q=>rw[yg,i3 q,arH];rfl
noncomputable def agV(b:Nat):Ctr:=det ByteArray (λs=>[.lit (.string s)]) 0 (λ_=>[]) (λs=>Hd (s.size<1099511627776/\bkt s=b)) (λ_=>i64 b) 0 (λ_=>[])
theorem abw(b:Nat):bZ Tryz.prog 183 (agV b):=jS λs hs=>by
 obtain⟨h1,h2⟩:=aZ.1 hs;refine⟨_,Qo,rfl,s,aZ.2 h1,rfl,rfl,λv h' hh=> ?_⟩;obtain⟨u,_,e2,e3⟩:=jT hh;exact Eq.mpr (dU (X:=ByteArray) s v h' _ _) (.inl ⟨(),trivial,e2.trans (by show i64 (bkt s)=i64 b;rw[h2]),e3⟩)
structure ZTkB where
 t:iJ
 s:ByteArray
noncomputable def ofC(b:Nat):Ctr:=det ZTkB (λx=>[.ptr 0 0,.lit (.string x.s)]) 9 (λx=>Qi x.t) (λx=>Hd (x.s.size<1099511627776/\bkt x.s=b)) (λ_=> .mp (b+1)) 9 (λx=>Qi x.t)
noncomputable def arI(b:Nat):jf:=[(183,ctrT (agV b))]
noncomputable def agW(b:Nat):jf:=[(277,ctrT (ofC b))]
structure Gi where
 L:Lks
 l:ZLnk
noncomputable def aqg:abv:={X:=ZTq,args:=λx=>[.ptr 0 0,.lit (.string x.s)],L:=λx=>x.L,pre:=λx=>Hd (x.s.size<1099511627776),outs:=[
 {Y:=Unit,post:=λx _=>Hd (fF x.L x.s=none),ret:=λ_ _=> .tup [iI.av,boo false],L:=λx _=>x.L,m:=1,ex:=λ_ _=>[]},
 {Y:=ZLnk,post:=λx y=>Hd (fF x.L x.s=some y),ret:=λ_ y=> .tup [y.av,boo true],L:=λx _=>x.L,m:=1,ex:=λ_ _=>[]}]}
noncomputable def ak1:abv:={X:=ZTq,args:=λx=>[.ptr 0 0,.lit (.string x.s)],L:=λx=>x.L,pre:=λx=>Hd (x.s.size<1099511627776),outs:=[
 {Y:=Unit,post:=λx _=>Hd (fF x.L x.s=none),ret:=λ_ _=> .tup [iI.av,boo false],L:=λx _=>x.L,m:=1,ex:=λ_ _=>[]},
 {Y:=ZLnk,post:=λx y=>Hd (fF x.L x.s=some y),ret:=λ_ y=> .tup [y.av,boo true],L:=λx _=>fQ x.L x.s,m:=1,ex:=λ_ _=>[]}]}
noncomputable def arJ:abv:={X:=Gi,args:=λx=>[.ptr 0 0,x.l.av],L:=λx=>x.L,pre:=λx=>Hd (x.l.key.size<1099511627776/\(iW x.L x.l).length<=258),outs:=[
 {Y:=Unit,post:=λ_ _=>True,ret:=λx _=>boo (fF x.L x.l.key).isSome,L:=λx _=>iW x.L x.l,m:=1,ex:=λ_ _=>[]}]}
def aqh:Prop:=True/\True/\True/\True/\True/\True/\True/\True/\True
def Gj(y t:iJ)(b:Nat)(m:MS):Prop:=aqh/\(y 0).ms=(bif Nat.beq b 0 then m else(t 0).ms)/\(y 1).ms=(bif Nat.beq b 1 then m else(t 1).ms)/\(y 2).ms=(bif Nat.beq b 2 then m else(t 2).ms)/\(y 3).ms=(bif Nat.beq b 3 then m else(t 3).ms)/\(y 4).ms=(bif Nat.beq b 4 then m else(t 4).ms)/\(y 5).ms=(bif Nat.beq b 5 then m else(t 5).ms)/\(y 6).ms=(bif Nat.beq b 6 then m else(t 6).ms)/\(y 7).ms=(bif Nat.beq b 7 then m else(t 7).ms)/\True
def Qq(y t:iJ):Prop:=aqh/\(y 0).ms=(t 0).ms/\(y 1).ms=(t 1).ms/\(y 2).ms=(t 2).ms/\(y 3).ms=(t 3).ms/\(y 4).ms=(t 4).ms/\(y 5).ms=(t 5).ms/\(y 6).ms=(t 6).ms/\(y 7).ms=(t 7).ms/\True
def Va(a l:ZLnk):Prop:=a.key=l.key/\a.id=l.id/\a.ver=l.ver/\a.line=l.line/\a.cls=l.cls/\True
def am4(m:ZMs)(s:ByteArray)(q:Nat->Prop):Prop:= ∀j:Nat,j<m.n->(m.lk j).key=s->q j
def kNo(m:ZMs)(s:ByteArray)(q:Prop):Prop:=(∀j:Nat,j<m.n->(m.lk j).key=s->False)->q
def aqi(x:ZTq×iJ)(L':Lks)(l:ZLnk)(f:Bool)(q:iJ->Prop):Prop:=(∃y:Unit×iJ,(Hd (fF x.1.L x.1.s=none)/\Hd (kJ x.1.L y.2))/\(Va iI l/\false=f/\True)/\q y.2)\/ ∃y:ZLnk×iJ,(Hd (fF x.1.L x.1.s=some y.1)/\Hd (kJ L' y.2))/\(Va y.1 l/\true=f/\True)/\q y.2
noncomputable def arK(b:Nat)(x:ZTkB):Prop:= ∃s:ByteArray,Hd (s.size<1099511627776/\bkt s=b)/\(s=x.s/\True)/\True/\ ∀_:Unit,True->True/\((0:Int)<=b/\(0:Int)<=(7:Int)-b)/\ ∃_:Unit,True/\True/\Qq x.t x.t
noncomputable def ofG(b:Nat)(s:ByteArray)(t:iJ)(q:iJ->Prop):Prop:= ∃y:ZTkB,Hd (y.s.size<1099511627776/\bkt y.s=b)/\(0=0/\y.s=s/\True)/\Qq y.t t/\ ∀_:Unit,True->q y.t
noncomputable def arL(b:Nat)(x:ZTq×iJ):Prop:=ofG b x.1.s x.2 λt=>am4 (t b) x.1.s (λj=>aqi x x.1.L ((t b).lk j) true λy=>Qq y t)/\kNo (t b) x.1.s (aqi x x.1.L iI false λy=>Qq y t)
noncomputable def am5(b:Nat)(x:ZTq×iJ):Prop:=ofG b x.1.s x.2 λt=>
 am4 (t b) x.1.s (λj=>am4 (t b) x.1.s (λi=>aqi x (fQ x.1.L x.1.s) ((t b).lk j) true λy=>Gj y t b ((t b).ms.del i))/\kNo (t b) x.1.s (aqi x (fQ x.1.L x.1.s) ((t b).lk j) true λy=>Qq y t))/\
 kNo (t b) x.1.s (am4 (t b) x.1.s (λi=>aqi x (fQ x.1.L x.1.s) iI false λy=>Gj y t b ((t b).ms.del i))/\kNo (t b) x.1.s (aqi x (fQ x.1.L x.1.s) iI false λy=>Qq y t))
def sEnd(x:Gi×iJ)(f:Bool)(q:iJ->Prop):Prop:= ∃y:Unit×iJ,(True/\Hd (kJ (iW x.1.L x.1.l) y.2))/\(fF x.1.L x.1.l.key).isSome=f/\q y.2
noncomputable def arM(b:Nat)(x:Gi×iJ):Prop:=ofG b x.1.l.key x.2 λt=>
 am4 (t b) x.1.l.key (λ_=>am4 (t b) x.1.l.key (λi=>sEnd x true λy=>Gj y t b ((t b).ms.put i x.1.l.key x.1.l.cs))/\kNo (t b) x.1.l.key (sEnd x true λy=>Gj y t b ((t b).ms.add x.1.l.key x.1.l.cs)))/\
 kNo (t b) x.1.l.key (am4 (t b) x.1.l.key (λi=>sEnd x false λy=>Gj y t b ((t b).ms.put i x.1.l.key x.1.l.cs))/\kNo (t b) x.1.l.key (sEnd x false λy=>Gj y t b ((t b).ms.add x.1.l.key x.1.l.cs)))
theorem ak2: ∀b,b<8-> ∀x,arK b x=wpF Tryz.prog (arI b) tt (noA x) 200 5 277 ((ofC b).args x) (hO 9 ((ofC b).os x)) (λv h'=>eX 9 x v h' (ofC b).outs)
 |0,_=>λx=>by kernel_rfl
 |1,_=>λx=>by kernel_rfl
 |2,_=>λx=>by kernel_rfl
 |3,_=>λx=>by kernel_rfl
 |4,_=>λx=>by kernel_rfl
 |5,_=>λx=>by kernel_rfl
 |6,_=>λx=>by kernel_rfl
 |7,_=>λx=>by kernel_rfl
 |b+8,h=>absurd h (by omega)
theorem ak3: ∀b,b<8-> ∀x,arL b x=wpF Tryz.prog (agW b) tt (noA x) 200 5 245 (aqg.E.args x) (hO 9 (flatP 1 (aqg.E.l x))) (λv h'=>endsPK 1 x v h' aqg.E.outs)
 |0,_=>λx=>by kernel_rfl
 |1,_=>λx=>by kernel_rfl
 |2,_=>λx=>by kernel_rfl
 |3,_=>λx=>by kernel_rfl
 |4,_=>λx=>by kernel_rfl
 |5,_=>λx=>by kernel_rfl
 |6,_=>λx=>by kernel_rfl
 |7,_=>λx=>by kernel_rfl
 |b+8,h=>absurd h (by omega)
theorem agX: ∀b,b<8-> ∀x,am5 b x=wpF Tryz.prog (agW b) tt (noA x) 200 5 252 (ak1.E.args x) (hO 9 (flatP 1 (ak1.E.l x))) (λv h'=>endsPK 1 x v h' ak1.E.outs)
 |0,_=>λx=>by kernel_rfl
 |1,_=>λx=>by kernel_rfl
 |2,_=>λx=>by kernel_rfl
 |3,_=>λx=>by kernel_rfl
 |4,_=>λx=>by kernel_rfl
 |5,_=>λx=>by kernel_rfl
 |6,_=>λx=>by kernel_rfl
 |7,_=>λx=>by kernel_rfl
 |b+8,h=>absurd h (by omega)
theorem ak4: ∀b,b<8-> ∀x,arM b x=wpF Tryz.prog (agW b) tt (noA x) 200 5 250 (arJ.E.args x) (hO 9 (flatP 1 (arJ.E.l x))) (λv h'=>endsPK 1 x v h' arJ.E.outs)
 |0,_=>λx=>by kernel_rfl
 |1,_=>λx=>by kernel_rfl
 |2,_=>λx=>by kernel_rfl
 |3,_=>λx=>by kernel_rfl
 |4,_=>λx=>by kernel_rfl
 |5,_=>λx=>by kernel_rfl
 |6,_=>λx=>by kernel_rfl
 |7,_=>λx=>by kernel_rfl
 |b+8,h=>absurd h (by omega)
def wKo(k:Nat):Prop:=(0:Int)<=(k:Int)/\(0:Int)<=(3:Int)-(k:Int)
def ak5(P:Nat->ZOd->Prop)(k:Nat)(p:ZOd->Prop):Nat->ZOd->Prop:=λj=>bif Nat.beq j k then p else P j
def lvP1(o:ZOd)(k:Nat)(y:ZOd):Prop:=y.z k=o.z k/\(y.V k).length=(o.V k).length
def lvP2(o:ZOd)(k:Nat)(y:ZOd):Prop:=y.z k=o.z k/\(y.V k).length=(o.V k).length/\ ∀q:Nat,q<(y.V k).length->(nthL (y.V k) q).cs=(nthL (o.V k) q).cs
def lvFd(o:ZOd)(l:ZLnk)(k p:Nat)(y:ZOd):Prop:=y.z k=false/\(y.V k).length=(o.V k).length/\ ∀q:Nat,q<(y.V k).length->(nthL (y.V k) q).cs=Cs.eff (λq=>(nthL (o.V k) q).cs) [(0+p,l.cs)] q
def lvI1(k n:Nat)(y:ZOd):Prop:=y.z k=false/\(y.V k).length=n
def lvI2(k n:Nat)(g:Nat->ZLnk)(y:ZOd):Prop:=y.z k=false/\(y.V k).length=n/\ ∀q:Nat,q<(y.V k).length->(nthL (y.V k) q).cs=(g q).cs
def arN(x:ZOs)(b:Nat)(had:Bool)(P1 P2:Nat->ZOd->Prop):Prop:= ∃y:ZOd,Hd (∀k,k<4->(y.V k=if k<b then iW (x.o.V k) x.l else x.o.V k)/\(y.z k=true->y.V k=[]))/\(fF (x.o.V (b-1)) x.l.key).isSome=had/\(P1 0 y/\P1 1 y/\P1 2 y/\P1 3 y/\True)/\(P2 0 y/\P2 1 y/\P2 2 y/\P2 3 y/\True)
noncomputable def ak6(x:ZOs)(b:Nat):Nat->Nat->Bool->(Nat->ZOd->Prop)->(Nat->ZOd->Prop)->Prop
 |0,_,had,P1,P2=>arN x b had P1 P2
 |r+1,k,_,P1,P2=>wKo k/\ ∃q:ZTq,Hd (srt q.L/\q.L.length<1099511627776)/\((0=0/\q.L.length=(x.o.V k).length)/\q.s=x.l.key/\True)/\((q.L.length=(x.o.V k).length/\ ∀j:Nat,j<q.L.length->(q.L.getD j iI).cs=(nthL (x.o.V k) j).cs)/\True)/\ ∀_:Unit,True->True/\cP (fF q.L q.s).isSome
   (wKo k/\((0:Int)<=((tY q.L q.s:Nat):Int)/\((tY q.L q.s:Nat):Int)<(((x.o.V k).length:Nat):Int))/\0+tY q.L q.s<(x.o.V k).length/\0+tY q.L q.s<(x.o.V k).length/\True/\I64 ((k:Int)+1)/\ak6 x b r (k+1) (fF q.L q.s).isSome P1 (ak5 P2 k (lvFd x.o x.l k (tY q.L q.s))))
   (wKo k/\(AV.slV (x.o.z k) (k+1) 5 (x.o.V k).length=AV.slV (x.o.z k) (k+1) 5 (x.o.V k).length/\True)/\ ∃v:ZIz,Hd (v.i<=v.L.length/\v.L.length<=300)/\((v.z=x.o.z k/\v.L.length=(x.o.V k).length)/\(v.i:Int)=((tY q.L q.s:Nat):Int)/\(0=0/\1=1/\1=1)/\True)/\((v.z=x.o.z k/\v.L.length=(x.o.V k).length/\ ∀j:Nat,j<v.L.length->(nthL v.L j).cs=(nthL (x.o.V k) j).cs)/\Va v.l x.l/\True)/\ ∀_:Unit,True->True/\wKo k/\True/\I64 ((k:Int)+1)/\
    ak6 x b r (k+1) (fF q.L q.s).isSome (ak5 P1 k (lvI1 k (v.L.length+1))) (ak5 P2 k (lvI2 k (v.L.length+1) (insL (nthL v.L) v.i v.l))))
noncomputable def arO(b:Nat)(x:ZOs):Prop:= ∃s:ByteArray,Hd (s.size<1099511627776/\lvl s=b)/\(s=x.l.key/\True)/\True/\ ∀_:Unit,True->ak6 x b b 0 false (lvP1 x.o) (lvP2 x.o)
theorem ak7: ∀b,1<=b->b<=4-> ∀x,arO b x=wpF Tryz.prog (apv b) tt (noA x) 200 6 251 ((Zk b).args x) (hO 5 (flatP 1 ((Zk b).l x))) (λv h'=>endsPK 1 x v h' (Zk b).outs)
 |1,_,_=>λx=>by kernel_rfl
 |2,_,_=>λx=>by kernel_rfl
 |3,_,_=>λx=>by kernel_rfl
 |4,_,_=>λx=>by kernel_rfl
 |0,h,_=>absurd h (by omega)
 |b+5,_,h=>absurd h (by omega)
theorem apw{k:Nat}(h:k<4):wKo k:=⟨by omega,by omega⟩
theorem Ey{P:Nat->ZOd->Prop}{k:Nat}{p:ZOd->Prop}:ak5 P k p k=p:=by unfold ak5;simp
theorem oz{P:Nat->ZOd->Prop}{k j:Nat}{p:ZOd->Prop}(h:j≠k):ak5 P k p j=P j:=by unfold ak5;rw[eP h];rfl
def ak8(x:ZOs)(b:Nat):ZOd:=⟨λk=>bif Nat.blt k b then false else x.o.z k,λk=>if k<b then iW (x.o.V k) x.l else x.o.V k⟩
theorem agY{x:ZOs}{b k:Nat}(h:k<b):(ak8 x b).z k=false/\(ak8 x b).V k=iW (x.o.V k) x.l:=⟨by show(bif Nat.blt k b then false else x.o.z k)=false;rw[bg.2 h];rfl,if_pos h⟩
theorem agZ{x:ZOs}{b k:Nat}(h: ¬k<b):(ak8 x b).z k=x.o.z k/\(ak8 x b).V k=x.o.V k:=⟨by show(bif Nat.blt k b then false else x.o.z k)=x.o.z k;rw[iY h];rfl,if_neg h⟩
theorem lev_z{o:ZOd}{k:Nat}{s:ByteArray}(hg:o.z k=true->o.V k=[])(h:(fF (o.V k) s).isSome=true):o.z k=false:=by
 cases hz:o.z k
 ·rfl
 ·rw[hg hz]at h;cases h
theorem zh{x:ZOs}{b:Nat}(h1:1<=b)(h4:b<=4)(hg:x.o.good): ∀(r k:Nat) (had:Bool) (P1 P2:Nat->ZOd->Prop),k+r=b->(1<=k->had=(fF (x.o.V (k-1)) x.l.key).isSome)->
  (∀j,j<k->P1 j (ak8 x b)/\P2 j (ak8 x b))->(∀j,k<=j->P1 j=lvP1 x.o j/\P2 j=lvP2 x.o j)->ak6 x b r k had P1 P2
 |0,k,had,P1,P2,e,hh,hP,hQ=>by
  obtain rfl:k=b:=by omega
  have all: ∀j,P1 j (ak8 x k)/\P2 j (ak8 x k):=λj=>by
   by_cases hj:j<k
   ·exact hP j hj
   ·obtain⟨q1,q2⟩:=hQ j (by omega)
    obtain⟨g1,g2⟩:=agZ (x:=x) hj;rw[q1,q2];exact⟨⟨g1,by rw[g2]⟩,g1,by rw[g2],λq _=>by rw[g2]⟩
  refine⟨ak8 x k,aZ.2 λj hj=>⟨rfl,λhz=> ?_⟩,(hh h1).symm,⟨(all 0).1,(all 1).1,(all 2).1,(all 3).1,trivial⟩,(all 0).2,(all 1).2,(all 2).2,(all 3).2,trivial⟩;by_cases hjk:j<k
  ·rw[(agY (x:=x) hjk).1]at hz;cases hz
  ·obtain⟨g1,g2⟩:=agZ (x:=x) hjk
   rw[g1]at hz;rw[g2];exact(hg j hj).2.2 hz
 |r+1,k,had,P1,P2,e,hh,hP,hQ=>by
  have hk:k<b:=by omega
  obtain⟨s1,s2,s3⟩:=hg k (by omega);obtain⟨y1,y2⟩:=agY (x:=x) hk;obtain⟨q1,q2⟩:=hQ k (aY _);refine⟨apw (by omega),⟨x.o.V k,x.l.key⟩,aZ.2 ⟨s1,by show(x.o.V k).length<1099511627776;omega⟩,⟨⟨rfl,rfl⟩,rfl,trivial⟩,⟨⟨rfl,λ_ _=>rfl⟩,trivial⟩,λ_ _=>⟨trivial,bf (λhf=> ?_) λhf=> ?_⟩⟩
  ·obtain⟨f1,f2,f3⟩:=Ie s1 hf
   refine⟨apw (by omega),⟨by omega,by show((tY (x.o.V k) x.l.key:Nat):Int)<_;omega⟩,by show 0+tY (x.o.V k) x.l.key<_;omega,by show 0+tY (x.o.V k) x.l.key<_;omega,trivial,by unfold I64;omega,zh h1 h4 hg r (k+1) _ _ _ (by omega) (λ_=>rfl) (λj hj=> ?_) λj hj=> ?_⟩
   ·by_cases hjk:j=k
    ·subst hjk
     rw[q1,Ey];refine⟨⟨y1.trans (lev_z s3 hf).symm,by rw[y2];exact f2⟩,y1,by rw[y2];exact f2,λq _=> ?_⟩;rw[y2,f3 q];show _=Cs.eff _ [(0+tY (x.o.V j) x.l.key,x.l.cs)] q;simp only[Cs.eff,aA];by_cases hq:q=tY (x.o.V j) x.l.key
     ·rw[if_pos hq,hq];simp
     ·rw[if_neg hq,eP hq];rfl
    ·rw[oz hjk];exact hP j (by omega)
   ·rw[oz (by omega)];exact hQ j (by omega)
  ·obtain⟨f1,f2,f3⟩:=Zl s1 hf
   refine⟨apw (by omega),⟨rfl,trivial⟩,⟨x.o.z k,x.o.V k,tY (x.o.V k) x.l.key,x.l⟩,aZ.2 ⟨f1,s2⟩,⟨⟨rfl,rfl⟩,rfl,⟨rfl,rfl,rfl⟩,trivial⟩,⟨⟨rfl,rfl,λ_ _=>rfl⟩,⟨rfl,rfl,rfl,rfl,rfl,trivial⟩,trivial⟩,λ_ _=>⟨trivial,apw (by omega),trivial,by unfold I64;omega,zh h1 h4 hg r (k+1) _ _ _ (by omega) (λ_=>rfl) (λj hj=> ?_) λj hj=> ?_⟩⟩
   ·by_cases hjk:j=k
    ·subst hjk
     rw[Ey,Ey];refine⟨⟨y1,by rw[y2];exact f2⟩,y1,by rw[y2];exact f2,λq hq=> ?_⟩;rw[y2]at hq ⊢;rw[f3 q (by omega)]
    ·rw[oz hjk,oz hjk];exact hP j (by omega)
   ·rw[oz (by omega),oz (by omega)];exact hQ j (by omega)
theorem abx{x:ZOs}{b:Nat}(h1:1<=b)(h4:b<=4)(hg:x.o.good)(hs:x.l.key.size<1099511627776)(hl:lvl x.l.key=b):arO b x:=
 ⟨x.l.key,aZ.2 ⟨hs,hl⟩,⟨rfl,trivial⟩,trivial,λ_ _=>zh h1 h4 hg b 0 false _ _ (by omega) (λh=>absurd h (by decide)) (λj hj=>absurd hj (Nat.not_lt_zero j)) λj _=>⟨rfl,rfl⟩⟩
noncomputable def lvK(L:Lks)(k:Nat):Lks:=L.filter λl=>decide (k<lvl l.key)
theorem aby{M:Lks}{l:ZLnk}(h: ∀y∈M,kl l.key y.key=true):iW M l=l::M:=by
 cases M with
 |nil=>rfl
 |cons y M=>
  have hy:=h y (by simp);unfold iW;rw[if_neg (λe=>by rw[e,lD]at hy;cases hy),if_pos hy]
theorem pJ{x:ZLnk}{L:Lks}{k:Nat}:lvK (x::L) k=if k<lvl x.key then x::lvK L k else lvK L k:=by
 unfold lvK;rw[List.filter_cons];by_cases h:k<lvl x.key
 ·rw[decide_eq_true h,if_pos h];rfl
 ·rw[decide_eq_false h,if_neg h];rfl
theorem ag0{L:Lks}{k:Nat}{x:ZLnk}:x∈lvK L k↔x∈L/\k<lvl x.key:=by unfold lvK;rw[List.mem_filter,decide_eq_true_iff]
theorem apx{L:Lks}{k:Nat}(h:srt L):srt (lvK L k):=List.Pairwise.filter _ h
theorem apy{L:Lks}{k:Nat}:(lvK L k).length<=L.length:=List.length_filter_le _ _
theorem ag1: ∀{L:Lks} {l:ZLnk} {k:Nat},srt L->lvK (iW L l) k=if k<lvl l.key then iW (lvK L k) l else lvK L k
 |[],l,k,_=>by
  show lvK [l] k=_;rw[pJ];rfl
 |x::L,l,k,hs=>by
  obtain⟨hs1,hs2⟩:=List.pairwise_cons.1 hs;have ih:=ag1 (L:=L) (l:=l) (k:=k) hs2;by_cases hx:x.key=l.key
  ·have e:iW (x::L) l=l::L:=by unfold iW;rw[if_pos hx]
   rw[e,pJ,pJ,hx];by_cases hk:k<lvl l.key
   ·rw[if_pos hk,if_pos hk,if_pos hk];unfold iW;rw[if_pos hx]
   ·rw[if_neg hk,if_neg hk,if_neg hk]
  ·cases hk2:kl l.key x.key with
   |true=>
    have e:iW (x::L) l=l::x::L:=by unfold iW;rw[if_neg hx,if_pos hk2]
    rw[e,pJ];by_cases hk:k<lvl l.key
    ·rw[if_pos hk,if_pos hk,aby λy hy=> ?_]
     obtain⟨hy,_⟩:=ag0.1 hy;rcases List.mem_cons.1 hy with rfl|hy
     ·exact hk2
     ·exact jm hk2 (hs1 y hy)
    ·rw[if_neg hk,if_neg hk]
   |false=>
    have e: ∀M,iW (x::M) l=x::iW M l:=λM=>by rw[iW,if_neg hx,if_neg (by rw[hk2];decide)]
    rw[e,pJ,ih,pJ];by_cases hk:k<lvl l.key
    ·rw[if_pos hk,if_pos hk]
     by_cases hkx:k<lvl x.key
     ·rw[if_pos hkx,if_pos hkx,e]
     ·rw[if_neg hkx,if_neg hkx]
    ·rw[if_neg hk,if_neg hk]
theorem ak9{L:Lks}{s:ByteArray}{k:Nat}:lvK (fQ L s) k=if k<lvl s then fQ (lvK L k) s else lvK L k:=by
 have e:lvK (fQ L s) k=fQ (lvK L k) s:=by
  unfold lvK fQ;rw[List.filter_filter,List.filter_filter];exact List.filter_congr λx _=>Bool.and_comm _ _
 rw[e];by_cases hk:k<lvl s
 ·rw[if_pos hk]
 ·rw[if_neg hk]
  refine List.filter_eq_self.2 λx hx=> ?_
  have hx:=(ag0.1 hx).2;have:x.key≠s:=λe=>by rw[e]at hx;exact hk hx
  rw[decide_eq_false this];rfl
theorem ag2: ∀{L:Lks} {s:ByteArray} {k:Nat},k<lvl s->fF (lvK L k) s=fF L s
 |[],_,_,_=>rfl
 |x::L,s,k,hk=>by
  rw[pJ,jO];have ih:=ag2 (L:=L) hk;by_cases hx:x.key=s
  ·rw[if_pos (by rw[hx];exact hk),if_pos hx,jO,if_pos hx]
  ·rw[if_neg hx]
   by_cases hkx:k<lvl x.key
   ·rw[if_pos hkx,jO,if_neg hx,ih]
   ·rw[if_neg hkx,ih]
structure Ig (L:Lks) (o:ZOd):Prop where
 srt:srt L
 size:L.length<=300
 lev: ∀k,k<4->o.V k=lvK L k/\(o.z k=true->o.V k=[])
theorem Ig.good{L:Lks}{o:ZOd}(h:Ig L o):o.good:=λk hk=>by
 obtain⟨h1,h2⟩:=h.lev k hk;have:=h.size;have:=apy (L:=L) (k:=k);exact⟨by rw[h1];exact apx h.srt,by rw[h1];omega,h2⟩
noncomputable def ordA(L:Lks):Own:=hide (NP λh=> ∃t:ZOd,Ig L t/\h=hOf (J3 t))
theorem ag3(L:Lks):ordA L=NP λh=> ∃t:ZOd,Ig L t/\h=hOf (J3 t):=iG _
structure ag4 (X:Type) where
 Y:Type
 post:X->Y->Prop
 ret:X->Y->AV
 L:X->Y->Lks
 m:Nat
 ex:X->Y->List dB
structure apz where
 X:Type
 args:X->List AV
 L:X->Lks
 pre:X->Prop
 outs:List (ag4 X)
noncomputable def ag4.po{X:Type}(L0:X->Lks)(o:ag4 X):aao (X×ZOd):={Y:=o.Y×ZOd,post:=λx y=>o.post x.1 y.1/\Hd (Ig (o.L x.1 y.1) y.2),ret:=λx y=>o.ret x.1 y.1,m:=o.m,l:=λx y=> .m (J3 y.2)::(o.ex x.1 y.1).map PO.o}
noncomputable def ag4.out{X:Type}(o:ag4 X):Out X:={Y:=o.Y,post:=o.post,ret:=o.ret,m:=o.m,os:=λx y=> .abs (ordA (o.L x y))::o.ex x y}
noncomputable def apz.E(C:apz):jE:={X:=C.X×ZOd,args:=λx=>C.args x.1,k:=1,l:=λx=>[.m (J3 x.2)],pre:=λx=>C.pre x.1/\Hd (Ig (C.L x.1) x.2),outs:=C.outs.map (ag4.po C.L)}
noncomputable def apz.C(C:apz):Ctr:={X:=C.X,args:=C.args,k:=1,os:=λx=>[.abs (ordA (C.L x))],pre:=C.pre,outs:=C.outs.map ag4.out}
theorem Zm{L:Lks}{t:ZOd}(h:Ig L t){w:World}{a:SE.Loc}{S:Nat->Prop}(ho:(ownM (J3 t)).holds w a S):(ordA L).holds w a S:=by
 rw[uM]at ho;rw[ag3];obtain⟨h0,ρ,e,r⟩:=ho;exact⟨h0,ρ,⟨t,h,e⟩,r⟩
theorem ala{L:Lks}{w:World}{a:SE.Loc}{S:Nat->Prop}(ho:(ordA L).holds w a S): ∃t,Ig L t/\(ownM (J3 t)).holds w a S:=by
 rw[ag3]at ho;obtain⟨h0,ρ,⟨t,h,e⟩,r⟩:=ho;exact⟨t,h,by rw[uM];exact⟨h0,ρ,e,r⟩⟩
theorem Qr{X:Type}{L0:X->Lks}{x:X}{t:ZOd}{v:AV}{h':Heap}: ∀{l:List (ag4 X)},(∀o∈l,∀x y,(o.ex x y).length+1=o.m)->lK (x,t) v h' ((l.map (ag4.po L0)).map aao.out)-> ∃v0 h0,Leq 1 v h' v0 h0/\lK x v0 h0 (l.map ag4.out)
 |[],_,h=>by simp only[List.map_nil]at h;rw[xQ]at h;exact h.elim
 |o::l,hl,h=>by
  simp only[List.map_cons]at h ⊢;rw[dU]at h;rcases h with ⟨y,h1,rfl,rfl⟩|h
  ·have hlen:=hl o (by simp) x y.1
   have hT:Ig (o.L x y.1) y.2:=aZ.1 h1.2;refine⟨_,hO o.m (.abs (ordA (o.L x y.1))::o.ex x y.1),⟨?_,λρ T w u hR hv=>⟨ρ,λ_ _=>rfl,?_,hv⟩⟩,by rw[dU];exact .inl ⟨y.1,h1.1,rfl,rfl⟩⟩
   ·show 1<=o.m;omega
   ·have hm:((o.ex x y.1).map PO.o).map PO.ab=o.ex x y.1:=by rw[List.map_map];exact(List.map_id _)
    have hR:Rel (hO o.m (.abs (ownM (J3 y.2))::o.ex x y.1)) ρ T w:=by
     have e:(aao.out (ag4.po L0 o)).os (x,t) y= .abs (ownM (J3 y.2))::o.ex x y.1:=by
      show PO.ab (.m (J3 y.2))::((o.ex x y.1).map PO.o).map PO.ab=_;rw[hm];rfl
     rw[<-e];exact hR
    have h2:=hR.swap (i:=0) (o:= .abs (ownM (J3 y.2))) (o':= .abs (ordA (o.L x y.1))) (by rw[jA (by simp only[List.length_cons];omega)];rfl) λa S ho=>Zm hT ho
    exact h2.less (by simp;exact aY _) λj x hj=>by rw[y8 (by omega)];exact hj
  ·obtain⟨v0,h0,g1,g2⟩:=Qr (l:=l) (λp hp=>hl p (List.mem_cons_of_mem _ hp)) h
   exact⟨v0,h0,g1,by rw[dU];exact .inr g2⟩
theorem ag5{P:Program}{f:FuncId}{C:apz}(hc:nJ P f)(hl: ∀o∈C.outs,∀x y,(o.ex x y).length+1=o.m)(hE:bZ P f C.E.ctr):bZ P f C.C:=λx hp=>by
 refine⟨rfl,hc,λρ T w vs hR hl2=> ?_⟩;obtain⟨t,hR2⟩:=Ib (i:=0) (o:= .abs (ordA (C.L x))) (o':=λt:{t:ZOd//Ig (C.L x) t}=> .abs (ownM (J3 t.1))) rfl (λa S ho=>by obtain⟨t,h1,h2⟩:=ala ho;exact⟨⟨t,h1⟩,h2⟩) hR;obtain⟨t,ht⟩:=t;have hR3:Rel (hO 1 [.abs (ownM (J3 t))]) ρ T w:=hR2.less (aY _) λj y hj=>by
  have:=y8 (n:=1) (o:= .abs (ordA (C.L x))) (o':= .abs (ownM (J3 t))) (os:=[]) rfl j;exact this.trans hj
 obtain⟨_,hs⟩:=hE (x,t) ⟨hp,aZ.2 ht⟩;refine(hs.2 ρ T w vs hR3 hl2).mono ?_
 rintro e w' ⟨ρ2,v,u,h',c1,c2,c3,c4,c5,c6,c7⟩
 obtain⟨v0,h0,g1,g2⟩:=Qr hl c7;obtain⟨ρ3,q1,q2,q3⟩:=g1.2 ρ2 T w' u c3 c4;exact⟨ρ3,v0,u,h0,λi hi=>(q1 i hi).trans (c1 i hi),g1.1,q2,q3,c5,c6,g2⟩
theorem AL:aqh:=⟨trivial,trivial,trivial,trivial,trivial,trivial,trivial,trivial,trivial⟩
theorem jB{t:iJ}:Qq t t:=⟨AL,rfl,rfl,rfl,rfl,rfl,rfl,rfl,rfl,trivial⟩
theorem qN(t:iJ)(b k:Nat)(m:ZMs):(vP t b m k).ms=(bif Nat.beq b k then m.ms else(t k).ms):=by
 unfold vP;rw[dA];by_cases h:k=b
 ·subst h;simp
 ·rw[if_neg h,decide_eq_false (λe=>h e.symm)];rfl
theorem Ez{t:iJ}{b:Nat}{m:ZMs}{M:MS}(h:M=m.ms):Gj (vP t b m) t b M:=by
 subst h;exact⟨AL,qN ..,qN ..,qN ..,qN ..,qN ..,qN ..,qN ..,qN ..,trivial⟩
theorem ku{l:ZLnk}:Va l l:=⟨rfl,rfl,rfl,rfl,rfl,trivial⟩
theorem abz{b:Nat}(hb:b<8)(x:ZTkB)(hs:x.s.size<1099511627776)(e:bkt x.s=b):arK b x:=
 ⟨x.s,aZ.2 ⟨hs,e⟩,⟨rfl,trivial⟩,trivial,λ_ _=>⟨trivial,⟨by omega,by omega⟩,(),trivial,trivial,jB⟩⟩
theorem abA{b:Nat}(x:ZTq×iJ)(h:kJ x.1.L x.2)(hs:x.1.s.size<1099511627776)(e:bkt x.1.s=b):arL b x:=
 ⟨⟨x.2,x.1.s⟩,aZ.2 ⟨hs,e⟩,⟨rfl,rfl,trivial⟩,jB,λ_ _=>⟨λj hj hk=> .inr ⟨((x.2 b).lk j,x.2),⟨aZ.2 (h.found e hj hk),aZ.2 h⟩,⟨ku,rfl,trivial⟩,jB⟩,λhn=> .inl ⟨((),x.2),⟨aZ.2 (h.none e λj hj hk=>hn j hj hk),aZ.2 h⟩,⟨ku,rfl,trivial⟩,jB⟩⟩⟩
theorem Vb{b:Nat}(x:ZTq×iJ)(h:kJ x.1.L x.2)(hs:x.1.s.size<1099511627776)(e:bkt x.1.s=b):am5 b x:=
 ⟨⟨x.2,x.1.s⟩,aZ.2 ⟨hs,e⟩,⟨rfl,rfl,trivial⟩,jB,λ_ _=>⟨λj hj hk=>⟨λi hi hk'=> .inr ⟨((x.2 b).lk j,vP x.2 b ((x.2 b).del i)),⟨aZ.2 (h.found e hj hk),aZ.2 (h.del e hi hk')⟩,⟨ku,rfl,trivial⟩,Ez (arx _ _)⟩,λhn=>(hn j hj hk).elim⟩,
  λhn=>⟨λi hi hk=>(hn i hi hk).elim,λ_=> .inl ⟨((),x.2),⟨aZ.2 (h.none e λj hj hk=>hn j hj hk),aZ.2 h⟩,⟨ku,rfl,trivial⟩,jB⟩⟩⟩⟩
theorem abB{b:Nat}(x:Gi×iJ)(h:kJ x.1.L x.2)(hs:x.1.l.key.size<1099511627776)(hl:(iW x.1.L x.1.l).length<=258)(e:bkt x.1.l.key=b):arM b x:=
 ⟨⟨x.2,x.1.l.key⟩,aZ.2 ⟨hs,e⟩,⟨rfl,rfl,trivial⟩,jB,λ_ _=>⟨λj hj hk=>⟨λi hi hk'=>⟨((),vP x.2 b ((x.2 b).put i x.1.l)),⟨trivial,aZ.2 (h.put e hi hk' hl hs)⟩,by rw[h.found e hj hk];rfl,Ez (arv _ _ _)⟩,λhn=>(hn j hj hk).elim⟩,
  λhn=>⟨λi hi hk=>(hn i hi hk).elim,λ_=>⟨((),vP x.2 b ((x.2 b).add x.1.l)),⟨trivial,aZ.2 (h.add e (λj hj hk=>hn j hj hk) hl hs)⟩,by rw[h.none e λj hj hk=>hn j hj hk];rfl,Ez (arw _ _)⟩⟩⟩⟩
theorem arP{b:Nat}(hb:b<8):bZ Tryz.prog 277 (ofC b):=dR dF mixed (tbl:=arI b) (.cons (bP (abw b)) .nil) noA 200 5 (λ_=>rfl) (λ_=>rfl) λx hx=>Eq.mp (ak2 b hb x) (abz hb x (aZ.1 hx).1 (aZ.1 hx).2)
def byB(f:FuncId):WTr:=λargs h K=> ∃b,b<8/\wpF Tryz.prog (agW b) tt (noA ()) 200 5 f args h K
theorem ag6{f:FuncId}(args:List AV)(h:Heap)(K:AV->Heap->Prop)(hq:byB f args h K):Sp Tryz.prog f args h K:=by
 obtain⟨b,hb,hq⟩:=hq;exact Ar dF mixed (tbl:=agW b) (.cons (bP (arP hb)) .nil) (noA ()) 200 5 f args h K hq
theorem Vd:bZ Tryz.prog 245 aqg.C:=y9 ⟨Tryz.f245,by kernel_rfl,by kernel_rfl,by kernel_rfl⟩ (List.forall_mem_cons.2 ⟨λ_ _=>rfl,List.forall_mem_cons.2 ⟨λ_ _=>rfl,λ_ h=>(List.not_mem_nil h).elim⟩⟩) (qK (T:=byB 245) ag6 9 (λ_=>⟨rfl,rfl,rfl,rfl⟩) λx hx=>⟨bkt x.1.s,oU _,Eq.mp (ak3 _ (oU _) x) (abA x (aZ.1 hx.2) (aZ.1 hx.1) rfl)⟩)
theorem alb:bZ Tryz.prog 252 ak1.C:=y9 ⟨Tryz.f252,by kernel_rfl,by kernel_rfl,by kernel_rfl⟩ (List.forall_mem_cons.2 ⟨λ_ _=>rfl,List.forall_mem_cons.2 ⟨λ_ _=>rfl,λ_ h=>(List.not_mem_nil h).elim⟩⟩) (qK (T:=byB 252) ag6 9 (λ_=>⟨rfl,rfl,rfl,rfl⟩) λx hx=>⟨bkt x.1.s,oU _,Eq.mp (agX _ (oU _) x) (Vb x (aZ.1 hx.2) (aZ.1 hx.1) rfl)⟩)
theorem apA:bZ Tryz.prog 250 arJ.C:=y9 ⟨Tryz.f250,by kernel_rfl,by kernel_rfl,by kernel_rfl⟩ (List.forall_mem_cons.2 ⟨λ_ _=>rfl,λ_ h=>(List.not_mem_nil h).elim⟩) (qK (T:=byB 250) ag6 9 (λ_=>⟨rfl,rfl,rfl,rfl⟩) λx hx=>⟨bkt x.1.l.key,oU _,Eq.mp (ak4 _ (oU _) x) (abB x (aZ.1 hx.2) (aZ.1 hx.1).1 (aZ.1 hx.1).2 rfl)⟩)
theorem ag7(b:Nat):bZ Tryz.prog 279 (am3 b):=jS λs hs=>by
 obtain⟨h1,h2⟩:=aZ.1 hs;refine⟨_,akY,rfl,s,aZ.2 h1,rfl,rfl,λv h' hh=> ?_⟩;have key:v=i64 b/\h'=hO 0 []:=by
  have hh:(∃y:Unit,Hd (lvl s=1)/\v=i64 1/\h'=hO 0 [])\/(∃y:Unit,Hd (lvl s=2)/\v=i64 2/\h'=hO 0 [])\/(∃y:Unit,Hd (lvl s=3)/\v=i64 3/\h'=hO 0 [])\/(∃y:Unit,Hd (lvl s=4)/\v=i64 4/\h'=hO 0 [])\/False:=by
   with_unfolding_all exact hh
  rcases hh with ⟨_,e,e2,e3⟩|⟨_,e,e2,e3⟩|⟨_,e,e2,e3⟩|⟨_,e,e2,e3⟩|hh
  ·rw[<-h2,aZ.1 e];exact⟨e2,e3⟩
  ·rw[<-h2,aZ.1 e];exact⟨e2,e3⟩
  ·rw[<-h2,aZ.1 e];exact⟨e2,e3⟩
  ·rw[<-h2,aZ.1 e];exact⟨e2,e3⟩
  ·exact hh.elim
 exact Eq.mpr (dU (X:=ByteArray) s v h' _ _) (.inl ⟨(),trivial,key.1,key.2⟩)
theorem Zn(b:Nat):dX Tryz.prog (apv b):= .cons (bP (ag7 b)) (.cons (bP arD) (.cons (bP aps) (.cons (bP apu) .nil)))
theorem ag8{b:Nat}(h1:1<=b)(h4:b<=4):bZ Tryz.prog 251 (Zk b).ctr:=cO dF mixed (Zn b) 5 noA 200 6 (λ_=>⟨rfl,rfl,rfl,rfl⟩) λx hx=>Eq.mp (ak7 b h1 h4 x) (abx h1 h4 (aZ.1 hx).2.2 (aZ.1 hx).1 (aZ.1 hx).2.1)
noncomputable def setO:apz:={X:=Gi,args:=λx=>[.ptr 0 0,x.l.av],L:=λx=>x.L,pre:=λx=>Hd (x.l.key.size<1099511627776/\(iW x.L x.l).length<=300),outs:=[
 {Y:=Unit,post:=λ_ _=>True,ret:=λx _=>boo (fF x.L x.l.key).isSome,L:=λx _=>iW x.L x.l,m:=1,ex:=λ_ _=>[]}]}
theorem Ig.set{L:Lks}{o y:ZOd}(h:Ig L o){l:ZLnk}(hl:(iW L l).length<=300)(hy: ∀k,k<4->(y.V k=if k<lvl l.key then iW (o.V k) l else o.V k)/\(y.z k=true->y.V k=[])):Ig (iW L l) y:=
 ⟨tX h.srt,hl,λk hk=>⟨by rw[(hy k hk).1,ag1 h.srt,(h.lev k hk).1],(hy k hk).2⟩⟩
theorem apB:bZ Tryz.prog 251 setO.C:=ag5 ⟨Tryz.f251,by kernel_rfl,by kernel_rfl,by kernel_rfl⟩ (List.forall_mem_cons.2 ⟨λ_ _=>rfl,λ_ h=>(List.not_mem_nil h).elim⟩) (jS λx hx=>by
 obtain⟨hp,hH⟩:=hx;obtain⟨p1,p2⟩:=aZ.1 hp;have hH:=aZ.1 hH;obtain⟨l1,l4⟩:=am1 x.1.l.key;refine⟨_,ag8 l1 l4,rfl,⟨x.2,x.1.l⟩,aZ.2 ⟨p1,rfl,hH.good⟩,rfl,rfl,λv h' hh=> ?_⟩;obtain⟨y,h1,h2,h3⟩:=jT hh;have h1:=aZ.1 h1;refine Eq.mpr (dU (X:=Gi×ZOd) x v h' _ _) (.inl ⟨((),y),⟨trivial,aZ.2 (hH.set p2 h1)⟩,h2.trans ?_,h3⟩);show boo (fF (x.2.V (lvl x.1.l.key-1)) x.1.l.key).isSome=boo (fF x.1.L x.1.l.key).isSome;rw[(hH.lev _ (by omega)).1,ag2 (by omega)]
 rfl)
end Go.Proofs.YtenfleoejgjklaaGreat
end
