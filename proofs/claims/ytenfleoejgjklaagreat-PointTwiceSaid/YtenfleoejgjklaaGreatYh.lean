import Derived.Test.YtenfleoejgjklaaGreatYa
import Derived.Test.YtenfleoejgjklaaGreatYb
import Derived.Test.YtenfleoejgjklaaGreatYc
import Derived.Test.YtenfleoejgjklaaGreatYd
import Derived.Test.YtenfleoejgjklaaGreatYe
import Derived.Test.YtenfleoejgjklaaGreatYf
import Derived.Test.YtenfleoejgjklaaGreatYg
import Derived.KernelRfl
set_option linter.unusedVariables false
set_option linter.unusedSimpArgs false
set_option linter.unnecessarySimpa false
section
namespace Go.Proofs.YtenfleoejgjklaaGreat
open Go SE
def oV(a:ZSto):Prop:=ownM a.b.os=ownM a.b.os/\tabA a.L=tabA a.L/\ordA a.L=ordA a.L/\ownM a.l.os=ownM a.l.os/\(Nat.beq a.n 0=Nat.beq a.n 0/\a.n=a.n/\ ∀q:Nat,q<a.n->[Value.int .i64 (ZEff.kind (a.e q)),Value.string (ZEff.key (a.e q)),Value.string (ZEff.value (a.e q)),Value.int .u64 (ZEff.id (a.e q)),Value.int .u64 (ZEff.ver (a.e q)),Value.int .u64 (ZEff.epoch (a.e q)),Value.int .i64 (ZEff.group (a.e q))]=[Value.int .i64 (ZEff.kind (a.e q)),Value.string (ZEff.key (a.e q)),Value.string (ZEff.value (a.e q)),Value.int .u64 (ZEff.id (a.e q)),Value.int .u64 (ZEff.ver (a.e q)),Value.int .u64 (ZEff.epoch (a.e q)),Value.int .i64 (ZEff.group (a.e q))])/\True
def dL:Prop:=Value.slice none 0 0=Value.slice none 0 0
def bM(a:Int):Prop:=a=a
def jc(a:ZSto):Prop:=0=0/\0=0/\0=0/\0=0/\0=0/\0=0/\0=0/\0=0/\bM a.id/\bM a.ver/\(Nat.beq a.n 0=Nat.beq a.n 0/\a.n=a.n)/\True
def bY(a:ByteArray):Prop:=a=a
def gV(a:ZFp):Prop:=a.found=a.found/\bY a.ans/\dL/\dL/\bM a.aep/\True
def jd:Prop:=0=0/\(1:Int)=1/\(0:Int)=0/\(0:Int)=0/\True
def vC(a:ZFp):Prop:=dL/\(0:Int)=0/\dL/\bM a.code/\gV a
def zS(a:ZFp):Prop:=bY a.pos/\a.past=a.past/\(0:Int)=0/\a.had=a.had/\bY a.old.key/\bM a.old.id/\bM a.old.ver/\bM a.old.line/\bM a.old.cls/\bM a.line/\bM a.cls/\bM a.piece/\vC a
def LU(a:ZPs):Prop:=bY a.f.key/\bY a.f.value/\bY a.f.to/\dL/\(1:Int)=7/\a.a.c.now=a.f.epoch/\bY a.f.pos/\a.f.past=a.f.past/\(0:Int)=0/\a.f.had=a.f.had/\bY a.f.old.key/\bM a.f.old.id/\bM a.f.old.ver/\bM a.f.old.line/\bM a.f.old.cls/\bM a.f.line/\bM a.f.cls/\bM a.f.piece/\dL/\(0:Int)=0/\dL/\a.f.code=5/\gV a.f
def ng(a:ZPool):Prop:=ownM a.os=ownM a.os
def je(a:DevM):Prop:=ownM a.os=ownM a.os
def zT(a:ZPs):Prop:=jc a.a/\jd/\je a.a.d/\ng a.a.p/\ownM (ZRd.os (a.a.r.put a.t a.a.r.now))=ownM a.a.r.os/\ownM (ZCk.os (ZSto.ck (a.a.Fv a.t a.a.r.now)))=ownM a.a.ck.os/\oV a.a
def EW(a:ZFp):Prop:=Hd (goodP (2:Int) a.key a.value=0)
def EX(a:ZFp):Prop:=Hd (goodP (2:Int) a.key a.value≠(0:Int))
def zU(a:ZSto):Prop:=ownM a.r.os=ownM a.r.os/\ownM a.ck.os=ownM a.ck.os/\oV a
def zV(a:ZSto):Prop:=jc a/\jd/\je a.d/\ng a.p/\zU a
def WR(a:ZPs):Prop:=True/\((∃y:Unit,EX a.f/\((2:Int)=2/\bY a.f.key/\bY a.f.value/\bY a.f.to/\dL/\(7:Int)=7/\bM a.f.epoch/\bY a.f.pos/\a.f.past=a.f.past/\(0:Int)=0/\a.f.had=a.f.had/\bY a.f.old.key/\bM a.f.old.id/\bM a.f.old.ver/\bM a.f.old.line/\bM a.f.old.cls/\bM a.f.line/\bM a.f.cls/\bM a.f.piece/\dL/\(0:Int)=0/\dL/\goodP (2:Int) a.f.key a.f.value=5/\gV a.f)/\zV a.a)\/ ∃y:Unit,EW a.f/\((2:Int)=2/\LU a)/\zT a)
def EY(a:ZFp):Prop:=dL/\(0:Int)=0/\dL/\a.code=1/\gV a
def LV(a:ZPs):Prop:=bY a.f.key/\bY a.f.value/\bY a.f.to/\dL/\(1:Int)=7/\a.a.c.now=a.f.epoch/\bY a.f.pos/\a.f.past=a.f.past/\(0:Int)=0/\a.f.had=a.f.had/\bY a.f.old.key/\bM a.f.old.id/\bM a.f.old.ver/\bM a.f.old.line/\bM a.f.old.cls/\bM a.f.line/\bM a.f.cls/\bM a.f.piece/\EY a.f
def LW(a:ZPs):Prop:=bY a.f.key/\bY a.f.value/\bY a.f.to/\dL/\(1:Int)=7/\a.a.c.now=a.f.epoch/\bY a.f.pos/\a.f.past=a.f.past/\(0:Int)=0/\a.f.had=a.f.had/\bY a.f.old.key/\bM a.f.old.id/\bM a.f.old.ver/\bM a.f.old.line/\bM a.f.old.cls/\bM a.f.line/\bM a.f.cls/\bM a.f.piece/\dL/\(0:Int)=0/\dL/\a.f.code=7/\gV a.f
def LX(a:ZPs)(b:ZRdT):Prop:=jc a.a/\jd/\je a.a.d/\ng a.a.p/\ownM (ZRd.os (a.a.r.put a.t (0:Int)))=ownM (ZRd.os (b.r.put b.k (0:Int)))/\ownM (ZCk.os (ZSto.ck (a.a.Fv a.t (0:Int))))=ownM a.a.ck.os/\oV a.a
def LY(a:ZPs)(b:ZRdT)(c:ZCk):Prop:=jc a.a/\jd/\je a.a.d/\ng a.a.p/\ownM (ZRd.os (a.a.r.put a.t a.a.r.now))=ownM (ZRd.os (b.r.put b.k b.r.now))/\ownM (ZCk.os (ZSto.ck (a.a.Fv a.t a.a.r.now)))=ownM c.os/\oV a.a
def WS(a:ZSto)(b:ZPool):Prop:=jc a/\jd/\je a.d/\ownM a.p.os=ownM b.os/\zU a
def LZ(a:ZPs)(b:ZRd):Prop:=jc a.a/\jd/\je a.a.d/\ng a.a.p/\ownM (ZRd.os (a.a.r.put a.t a.a.r.now))=ownM b.os/\ownM (ZCk.os (ZSto.ck (a.a.Fv a.t a.a.r.now)))=ownM a.a.ck.os/\oV a.a
def L6(a:ZSto)(b:ZRdT)(c:ZCk):Prop:=jc a/\jd/\je a.d/\ng a.p/\ownM a.r.os=ownM (ZRd.os (b.r.put b.k b.r.now))/\ownM a.ck.os=ownM c.os/\oV a
def vF(a:ZPs):Prop:=a.nd (2:Int)=ned ((a.f.key.size:Int)+(a.f.value.size:Int))
def L8(a:ZSto)(b:ZRd):Prop:=jc a/\jd/\je a.d/\ng a.p/\ownM a.r.os=ownM b.os/\ownM a.ck.os=ownM a.ck.os/\oV a
def WT(a:ZPs)(b:Prod Nat Nat):Prop:=ownM a.a.r.os=ownM a.a.r.os/\ownM (ZCk.os (ZSto.ck (a.a.Ld (a.a.p.take (a.nd (2:Int)) b.1 b.2))))=ownM a.a.ck.os/\oV a.a
def L9(a:ZFp):Prop:=bY a.key/\bY a.value/\bY a.to/\dL/\(7:Int)=7/\bM a.epoch/\zS a
def Mc(a:ZPs)(b:Int):Prop:=bY a.f.key/\bY a.f.value/\bY a.f.to/\dL/\(1:Int)=1/\a.a.c.now=b/\zS a.f
def WU(a:ZPs)(b:Prod Nat Nat)(c:ZPool):Prop:=jc a.a/\jd/\je a.a.d/\ownM (ZPool.os (a.a.p.take (a.nd (2:Int)) b.1 b.2))=ownM c.os/\WT a b
def Md(a:ZPs):Prop:=Hd (∀i:Nat,i<a.a.p.n->a.a.p.cls i≠(-(1:Int))/\a.a.p.full (a.nd (2:Int)) i)
def su(a:Nat)(b:Nat):Prop:=0=0/\(a:Int)=(b:Int)/\True
def EZ(a:ZFp):Prop:=Hd (goodP (1:Int) a.key a.value≠(0:Int))
def sD(a:ZRdT):Prop:=Hd (a.r.ok/\a.k<a.r.t)
def ahZ(a:lu):Prop:=Hd (spn a.c≠(0:Int)/\ ∀i:Nat,i<a.p.n->a.p.cls i≠(-(1:Int))/\a.p.full a.c i)
def E5(a:ZFp):Prop:=Hd (goodP (1:Int) a.key a.value=0)
def ah0(x:ZPs):Prop:=
 ((0:Int)<=0/\(0:Int)<=6)/\cP (BEq.beq (ByteArray.toList x.f.key) (ByteArray.toList (ByteArray.mk #[]))) (True/\((∃y:Unit,EZ x.f/\((1:Int)=1/\bY x.f.key/\bY x.f.value/\bY x.f.to/\dL/\(7:Int)=7/\bM x.f.epoch/\bY x.f.pos/\x.f.past=x.f.past/\(0:Int)=0/\x.f.had=x.f.had/\bY x.f.old.key/\bM x.f.old.id/\bM x.f.old.ver/\bM x.f.old.line/\bM x.f.old.cls/\bM x.f.line/\bM x.f.cls/\bM x.f.piece/\dL/\(0:Int)=0/\dL/\goodP (1:Int) x.f.key x.f.value=1/\gV x.f)/\zV x.a)\/ ∃y:Unit,E5 x.f/\((1:Int)=1/\LV x)/\zT x)) (cP (decide ((x.f.key.size:Int)>(16:Int))) (True/\((∃y:Unit,EZ x.f/\((1:Int)=1/\bY x.f.key/\bY x.f.value/\bY x.f.to/\dL/\(7:Int)=7/\bM x.f.epoch/\bY x.f.pos/\x.f.past=x.f.past/\(0:Int)=0/\x.f.had=x.f.had/\bY x.f.old.key/\bM x.f.old.id/\bM x.f.old.ver/\bM x.f.old.line/\bM x.f.old.cls/\bM x.f.line/\bM x.f.cls/\bM x.f.piece/\dL/\(0:Int)=0/\dL/\goodP (1:Int) x.f.key x.f.value=5/\gV x.f)/\zV x.a)\/ ∃y:Unit,E5 x.f/\((1:Int)=1/\LU x)/\zT x)) (∃x_1:ZRdT,sD x_1/\su x_1.k x.t/\(ownM x_1.r.os=ownM x.a.r.os/\True)/\(∀y:Unit,Hd (x_1.r.has x_1.k=0)-> ∃x_2:ZCk,Hd (x_2.ph<=4/\x_2.c.ok)/\(0=0/\True)/\(ownM x_2.os=ownM x.a.ck.os/\True)/\ ∀y_1:Unit,True->True/\((∃y_2:Unit,EZ x.f/\((1:Int)=1/\bY x.f.key/\bY x.f.value/\bY x.f.to/\dL/\(7:Int)=1/\x.f.epoch=x_2.c.now/\bY x.f.pos/\x.f.past=x.f.past/\(0:Int)=0/\x.f.had=x.f.had/\
 bY x.f.old.key/\bM x.f.old.id/\bM x.f.old.ver/\bM x.f.old.line/\bM x.f.old.cls/\bM x.f.line/\bM x.f.cls/\bM x.f.piece/\dL/\(0:Int)=0/\dL/\goodP (1:Int) x.f.key x.f.value=x.f.code/\gV x.f)/\L6 x.a x_1 x_2)\/ ∃y_2:Unit,E5 x.f/\((1:Int)=1/\Mc x x_2.c.now)/\LY x x_1 x_2))/\ ∀y:Unit,Hd (x_1.r.has x_1.k≠(0:Int))->True/\((∃y_1:Unit,EZ x.f/\((1:Int)=1/\bY x.f.key/\bY x.f.value/\bY x.f.to/\dL/\(7:Int)=7/\bM x.f.epoch/\bY x.f.pos/\x.f.past=x.f.past/\(0:Int)=0/\x.f.had=x.f.had/\bY x.f.old.key/\bM x.f.old.id/\bM x.f.old.ver/\bM x.f.old.line/\bM x.f.old.cls/\bM x.f.line/\bM x.f.cls/\bM x.f.piece/\dL/\(0:Int)=0/\dL/\goodP (1:Int) x.f.key x.f.value=7/\gV x.f)/\L8 x.a x_1.r)\/ ∃y_1:Unit,E5 x.f/\((1:Int)=1/\LW x)/\LZ x x_1.r)))
theorem ah1(x:ZPs):ah0 x=wpF Tryz.prog apX tt (noA x) 200 6 34 ((pR 1).args x) (hO 11 (flatP 1 ((pR 1).l x))) (λv h'=>endsPK 1 x v h' (pR 1).outs):=by kernel_rfl
def ah2(x:ZPs):Prop:=
 ((0:Int)<=0/\(0:Int)<=6)/\cP (BEq.beq (ByteArray.toList x.f.key) (ByteArray.toList (ByteArray.mk #[]))) (True/\((∃y:Unit,EX x.f/\((2:Int)=2/\bY x.f.key/\bY x.f.value/\bY x.f.to/\dL/\(7:Int)=7/\bM x.f.epoch/\bY x.f.pos/\x.f.past=x.f.past/\(0:Int)=0/\x.f.had=x.f.had/\bY x.f.old.key/\bM x.f.old.id/\bM x.f.old.ver/\bM x.f.old.line/\bM x.f.old.cls/\bM x.f.line/\bM x.f.cls/\bM x.f.piece/\dL/\(0:Int)=0/\dL/\goodP (2:Int) x.f.key x.f.value=1/\gV x.f)/\zV x.a)\/ ∃y:Unit,EW x.f/\((2:Int)=2/\LV x)/\zT x)) (cP (decide ((x.f.key.size:Int)>(16:Int))) (WR x) (cP (decide ((x.f.value.size:Int)>(400:Int))) (WR x) (∃x_1:ZRdT,sD x_1/\su x_1.k x.t/\(ownM x_1.r.os=ownM x.a.r.os/\True)/\(∀y:Unit,Hd (x_1.r.has x_1.k=0)-> ∃x_2:ZCk,Hd (x_2.ph<=4/\x_2.c.ok)/\(0=0/\True)/\(ownM x_2.os=ownM x.a.ck.os/\True)/\ ∀y_1:Unit,True->True/\((∃y_2:Unit,EX x.f/\((2:Int)=2/\bY x.f.key/\bY x.f.value/\bY x.f.to/\dL/\(7:Int)=1/\x.f.epoch=x_2.c.now/\bY x.f.pos/\x.f.past=x.f.past/\(0:Int)=0/\x.f.had=x.f.had/\bY x.f.old.key/\bM x.f.old.id/\bM x.f.old.ver/\bM x.f.old.line/\bM x.f.old.cls/\bM x.f.line/\bM x.f.cls/\bM x.f.piece/\dL/\(0:Int)=0/\dL/\goodP (2:Int) x.f.key x.f.value=x.f.code/\gV x.f)/\L6 x.a x_1 x_2)\/ ∃y_2:Unit,EW x.f/\((2:Int)=2/\Mc x x_2.c.now)/\LY x x_1 x_2))/\ ∀y:Unit,Hd (x_1.r.has x_1.k≠(0:Int))->True/\((∃y_1:Unit,EX x.f/\((2:Int)=2/\bY x.f.key/\
 bY x.f.value/\bY x.f.to/\dL/\(7:Int)=7/\bM x.f.epoch/\bY x.f.pos/\x.f.past=x.f.past/\(0:Int)=0/\x.f.had=x.f.had/\bY x.f.old.key/\bM x.f.old.id/\bM x.f.old.ver/\bM x.f.old.line/\bM x.f.old.cls/\bM x.f.line/\bM x.f.cls/\bM x.f.piece/\dL/\(0:Int)=0/\dL/\goodP (2:Int) x.f.key x.f.value=7/\gV x.f)/\L8 x.a x_1.r)\/ ∃y_1:Unit,EW x.f/\((2:Int)=2/\LW x)/\LZ x x_1.r))))
theorem ah3(x:ZPs):ah2 x=wpF Tryz.prog apX tt (noA x) 200 6 34 ((pR 2).args x) (hO 11 (flatP 1 ((pR 2).l x))) (λv h'=>endsPK 1 x v h' (pR 2).outs):=by kernel_rfl
def ah4(x:ZPs):Prop:=
 ((0:Int)<=3/\(0:Int)<=3)/\I64 ((x.f.key.size:Int)+(x.f.value.size:Int))/\(AV.ptr 0 0=AV.ptr 0 0/\True)/\ ∃x_1:lu,Hd x_1.p.ok/\(0=0/\x_1.c=ned ((x.f.key.size:Int)+(x.f.value.size:Int))/\True)/\(ownM x_1.p.os=ownM x.a.p.os/\True)/\(∀y:Unit,Hd (spn x_1.c=0)->True/\((∃y_1:Unit,Md x/\((2:Int)=2/\bY x.f.key/\bY x.f.value/\bY x.f.to/\dL/\(6:Int)=6/\bM x.f.epoch/\bY x.f.pos/\x.f.past=x.f.past/\(0:Int)=0/\x.f.had=x.f.had/\bY x.f.old.key/\bM x.f.old.id/\bM x.f.old.ver/\bM x.f.old.line/\bM x.f.old.cls/\bM x.f.line/\vF x/\bM x.f.piece/\dL/\(0:Int)=0/\dL/\(4:Int)=1/\gV x.f)/\WS x.a x_1.p)\/ ∃y_1:Prod Nat Nat,Hd (x.a.p.takes (x.nd (2:Int)) y_1.1 y_1.2)/\((2:Int)=2/\bY x.f.key/\bY x.f.value/\bY x.f.to/\dL/\(4:Int)=6/\bM x.f.epoch/\bY x.f.pos/\x.f.past=x.f.past/\(0:Int)=0/\x.f.had=x.f.had/\bY x.f.old.key/\bM x.f.old.id/\bM x.f.old.ver/\bM x.f.old.line/\bM x.f.old.cls/\2+(y_1.1:Int)*8+(y_1.2:Int)*spn (x.nd (2:Int))=x.f.line/\vF x/\0=x.f.piece/\EY x.f)/\WU x y_1 x_1.p))/\(∀y:Unit,ahZ x_1->True/\((∃y_1:Unit,Md x/\((2:Int)=2/\bY x.f.key/\bY x.f.value/\bY x.f.to/\dL/\(6:Int)=6/\bM x.f.epoch/\bY x.f.pos/\x.f.past=x.f.past/\(0:Int)=0/\x.f.had=x.f.had/\bY x.f.old.key/\bM x.f.old.id/\bM x.f.old.ver/\bM x.f.old.line/\bM x.f.old.cls/\bM x.f.line/\vF x/\bM x.f.piece/\dL/\(0:Int)=0/\dL/\(4:Int)=4/\gV x.f)/\
 WS x.a x_1.p)\/ ∃y_1:Prod Nat Nat,Hd (x.a.p.takes (x.nd (2:Int)) y_1.1 y_1.2)/\((2:Int)=2/\bY x.f.key/\bY x.f.value/\bY x.f.to/\dL/\(4:Int)=6/\bM x.f.epoch/\bY x.f.pos/\x.f.past=x.f.past/\(0:Int)=0/\x.f.had=x.f.had/\bY x.f.old.key/\bM x.f.old.id/\bM x.f.old.ver/\bM x.f.old.line/\bM x.f.old.cls/\2+(y_1.1:Int)*8+(y_1.2:Int)*spn (x.nd (2:Int))=x.f.line/\vF x/\0=x.f.piece/\dL/\(0:Int)=0/\dL/\x.f.code=4/\gV x.f)/\WU x y_1 x_1.p))/\ ∀y:Prod Nat Nat,Hd (spn x_1.c≠(0:Int)/\x_1.p.takes x_1.c y.1 y.2)->True/\((∃y_1:Unit,Md x/\((2:Int)=2/\bY x.f.key/\bY x.f.value/\bY x.f.to/\dL/\(6:Int)=4/\bM x.f.epoch/\bY x.f.pos/\x.f.past=x.f.past/\(0:Int)=0/\x.f.had=x.f.had/\bY x.f.old.key/\bM x.f.old.id/\bM x.f.old.ver/\bM x.f.old.line/\bM x.f.old.cls/\x.f.line=2+(y.1:Int)*8+(y.2:Int)*spn x_1.c/\vF x/\x.f.piece=0/\dL/\(0:Int)=0/\dL/\4=x.f.code/\gV x.f)/\jc x.a/\jd/\je x.a.d/\ownM x.a.p.os=ownM (ZPool.os (x_1.p.take x_1.c y.1 y.2))/\zU x.a)\/ ∃y_1:Prod Nat Nat,Hd (x.a.p.takes (x.nd (2:Int)) y_1.1 y_1.2)/\((2:Int)=2/\bY x.f.key/\bY x.f.value/\bY x.f.to/\dL/\(4:Int)=4/\bM x.f.epoch/\bY x.f.pos/\x.f.past=x.f.past/\(0:Int)=0/\x.f.had=x.f.had/\bY x.f.old.key/\bM x.f.old.id/\bM x.f.old.ver/\bM x.f.old.line/\bM x.f.old.cls/\2+(y_1.1:Int)*8+(y_1.2:Int)*spn (x.nd (2:Int))=2+(y.1:Int)*8+(y.2:Int)*spn x_1.c/\vF x/\(0:Int)=0/\vC x.f)/\
 jc x.a/\jd/\je x.a.d/\ownM (ZPool.os (x.a.p.take (x.nd (2:Int)) y_1.1 y_1.2))=ownM (ZPool.os (x_1.p.take x_1.c y.1 y.2))/\WT x y_1)
theorem ah5(x:ZPs):ah4 x=wpF Tryz.prog ar5 tt (noA x) 200 6 34 ((QY 2).args x) (hO 11 (flatP 1 ((QY 2).l x))) (λv h'=>endsPK 1 x v h' (QY 2).outs):=by kernel_rfl
def ah6(x:ZPs):Prop:=
 ((0:Int)<=6/\(0:Int)<=0)/\ ∃x_1:ZRdT,sD x_1/\su x_1.k x.t/\(ownM x_1.r.os=ownM x.a.r.os/\True)/\ ∀y:Unit,True->True/\ ∃y_1:Unit,True/\((1:Int)=1/\L9 x.f)/\LX x x_1
theorem ah7(x:ZPs):ah6 x=wpF Tryz.prog apd tt (noA x) 200 6 34 ((pU 1).args x) (hO 11 (flatP 1 ((pU 1).l x))) (λv h'=>endsPK 1 x v h' (pU 1).outs):=by kernel_rfl
def ah8(x:ZPs):Prop:=
 ((0:Int)<=6/\(0:Int)<=0)/\ ∃x_1:ZRdT,sD x_1/\su x_1.k x.t/\(ownM x_1.r.os=ownM x.a.r.os/\True)/\ ∀y:Unit,True->True/\ ∃y_1:Unit,True/\((2:Int)=2/\L9 x.f)/\LX x x_1
theorem ah9(x:ZPs):ah8 x=wpF Tryz.prog apd tt (noA x) 200 6 34 ((pU 2).args x) (hO 11 (flatP 1 ((pU 2).l x))) (λv h'=>endsPK 1 x v h' (pU 2).outs):=by kernel_rfl
theorem aia(k:ByteArray):(k.toList==(ByteArray.mk #[]).toList)=decide (k.size=0):=by
 rw[iy,iy];have hs:k.data.toList.length=k.size:=by simp
 cases h:k.data.toList with
 |nil=>rw[h]at hs;rw[decide_eq_true (by rw[<-hs];rfl)];rfl
 |cons a l=>rw[h]at hs;rw[decide_eq_false (by rw[<-hs];simp)];rfl
theorem ang{k:Int}{key v:ByteArray}(h:key.size=0):goodP k key v=1:=if_pos h
theorem aib{k:Int}{key v:ByteArray}(h0:key.size≠0)(h:16<key.size\/k=2/\400<v.size):goodP k key v=5:=by unfold goodP;rw[if_neg h0,if_pos h]
theorem aic{k:Int}{key v:ByteArray}(h0:key.size≠0)(h: ¬(16<key.size\/k=2/\400<v.size)):goodP k key v=0:=by unfold goodP;rw[if_neg h0,if_neg h]
theorem yw{k:Int}{key v:ByteArray}(h:goodP k key v=0):key.size≠0/\key.size<=16/\(k=2->v.size<=400):=by
 unfold goodP at h;split at h
 ·cases h
 ·split at h
  ·cases h
  ·rename_i h0 h1
   exact⟨h0,by omega,λhk=>by omega⟩
theorem WV(x:ZPs)(hx:x.a.r.ok/\x.a.c.ok/\x.a.ph<=4/\x.t<x.a.r.t/\x.a.r.has x.t=0):ah0 x:=by
 obtain⟨h1,h2,h3,h4,h5⟩:=hx;unfold ah0;simp only[EZ,bY,dL,bM,gV,zV,E5,LV,zT,LU,sD,su,L6,Mc,LY,L8,LW,LZ,jc,jd,je,ng,oV,zS,vC,EY,zU];simp only[aZ,aV,aU,aA,aI,bT,bF,aO,aK,ay,aX,aW,bU,bH,bI,bJ,bV,bD,bK,bC,eY,aH,aN,ah,ak,aB,aF,aC,aG,aia];refine⟨by decide,bf (λh=> .inl ?_) λh=>bf (λhs=> .inl ?_) λhs=> ?_⟩
 ·have h:=aS h
  rw[ang h];exact⟨by decide,rfl⟩
 ·have h:=aT h
  have hs:=aS hs;rw[aib h (.inl (by omega))];exact⟨by decide,rfl⟩
 ·have h:=aT h
  have hs:=aT hs
  skip
  have hg:goodP 1 x.f.key x.f.value=0:=aic h (by omega);exact⟨⟨x.a.r,x.t⟩,⟨h1,h4⟩,rfl,rfl,λ_=>⟨x.a.ck,⟨by assumption,h2⟩,rfl,.inr ⟨hg,rfl,rfl,rfl⟩⟩,λhne=>absurd h5 hne⟩
theorem WW(x:ZPs)(hx:x.a.r.ok/\x.a.c.ok/\x.a.ph<=4/\x.t<x.a.r.t/\x.a.r.has x.t=0):ah2 x:=by
 obtain⟨h1,h2,h3,h4,h5⟩:=hx;unfold ah2;simp only[EX,bY,dL,bM,gV,zV,EW,LV,zT,WR,sD,su,L6,Mc,LY,L8,LW,LZ,jc,jd,je,ng,oV,zS,vC,LU,EY,zU];simp only[aZ,aV,aU,aA,aI,bT,bF,aO,aK,ay,aX,aW,bU,bH,bI,bJ,bV,bD,bK,bC,eY,aH,aN,ah,ak,aB,aF,aC,aG,aia];refine⟨by decide,bf (λh=> .inl ?_) λh=>bf (λhs=> .inl ?_) λhs=>bf (λh3=> .inl ?_) λh3=> ?_⟩
 ·have h:=aS h
  rw[ang h];exact⟨by decide,rfl⟩
 ·have h:=aT h
  have hs:=aS hs;rw[aib h (.inl (by omega))];exact⟨by decide,rfl⟩
 ·have h:=aT h
  have hs:=aT hs;have h3:=aS h3;rw[aib h (.inr ⟨rfl,by omega⟩)];exact⟨by decide,rfl⟩
 ·have h:=aT h
  have hs:=aT hs;have h3':=aT h3;have hg:goodP 2 x.f.key x.f.value=0:=aic h (by omega);exact⟨⟨x.a.r,x.t⟩,⟨h1,h4⟩,rfl,rfl,λ_=>⟨x.a.ck,⟨by assumption,h2⟩,rfl,.inr ⟨hg,rfl,rfl,rfl⟩⟩,λhne=>absurd h5 hne⟩
theorem WX(x:ZPs)(hx:x.a.p.ok/\x.f.key.size<=16/\x.f.value.size<=400):ah4 x:=by
 obtain⟨h1,h2,h3⟩:=hx;have hnd:x.nd 2=ned ((x.f.key.size:Int)+x.f.value.size):=by unfold ZPs.nd;rw[if_pos rfl];congr 1
 have hz:spn (x.nd 2)≠0:=by
  rw[hnd];have:(x.f.key.size:Int)+x.f.value.size=((x.f.key.size+x.f.value.size:Nat):Int):=by omega
  rw[this];refine Qd ?_;unfold ned;repeat' split
  all_goals omega
 unfold ah4;simp only[Md,bY,dL,bM,vF,gV,WS,EY,WU,ahZ,jc,jd,je,zU,vC,WT,oV];simp only[aZ,aV,aU,aA,aI,bT,bF,aO,aK,ay,aX,aW,bU,bH,bI,bJ,bV,bD,bK,bC,eY,aH,aN,ah,ak,aB,aF,aC,aG];have e0:ned 0=0:=rfl;rw[<-hnd];refine⟨by decide,by unfold I64;omega,⟨x.a.p,x.nd 2⟩,h1,rfl,rfl,λh=>absurd h hz,λh=> .inl ⟨h.2,rfl,rfl⟩,λy hy=> .inr ⟨y,hy.2,⟨rfl,rfl⟩,rfl,rfl⟩⟩
theorem WY(x:ZPs)(hx:x.a.r.ok/\x.t<x.a.r.t):ah6 x:=by
 unfold ah6;simp only[sD,su,L9,LX,jc,jd,je,ng,oV,bM,bY,dL,zS,vC,gV];simp only[aZ,aV,aU,aA,aI,bT,bF,aO,aK,ay,aX,aW,bU,bH,bI,bJ,bV,bD,bK,bC,eY,aH,aN,ah,ak,aB,aF,aC,aG];exact⟨by decide,⟨x.a.r,x.t⟩,hx,rfl,rfl,rfl,rfl⟩
theorem WZ(x:ZPs)(hx:x.a.r.ok/\x.t<x.a.r.t):ah8 x:=by
 unfold ah8;simp only[sD,su,L9,LX,jc,jd,je,ng,oV,bM,bY,dL,zS,vC,gV];simp only[aZ,aV,aU,aA,aI,bT,bF,aO,aK,ay,aX,aW,bU,bH,bI,bJ,bV,bD,bK,bC,eY,aH,aN,ah,ak,aB,aF,aC,aG];exact⟨by decide,⟨x.a.r,x.t⟩,hx,rfl,rfl,rfl,rfl⟩
theorem Zx:dX Tryz.prog apX:= .append jl (.cons (bP akd) (.cons (bP tZ) .nil))
theorem al6:dX Tryz.prog ar5:= .append jl (.cons akI (.cons (bP aoH) .nil))
theorem acf:bZ Tryz.prog 34 (pR 1).ctr:=cO dF mixed Zx 11 noA 200 6 (λ_=>⟨rfl,rfl,rfl,rfl⟩) λx hx=>Eq.mp (ah1 x) (WV x (aZ.1 hx))
theorem acg:bZ Tryz.prog 34 (pU 1).ctr:=cO dF mixed Y8 11 noA 200 6 (λ_=>⟨rfl,rfl,rfl,rfl⟩) λx hx=>Eq.mp (ah7 x) (WY x (aZ.1 hx))
theorem ach:bZ Tryz.prog 34 (pR 2).ctr:=cO dF mixed Zx 11 noA 200 6 (λ_=>⟨rfl,rfl,rfl,rfl⟩) λx hx=>Eq.mp (ah3 x) (WW x (aZ.1 hx))
theorem aci:bZ Tryz.prog 34 (pU 2).ctr:=cO dF mixed Y8 11 noA 200 6 (λ_=>⟨rfl,rfl,rfl,rfl⟩) λx hx=>Eq.mp (ah9 x) (WZ x (aZ.1 hx))
theorem aie:bZ Tryz.prog 34 (QY 2).ctr:=cO dF mixed al6 11 noA 200 6 (λ_=>⟨rfl,rfl,rfl,rfl⟩) λx hx=>Eq.mp (ah5 x) (WX x (aZ.1 hx))
theorem W9{a b:ByteArray}(h:(a.toList==b.toList)=true):a=b:=by
 have h:=beq_iff_eq.1 h;rw[iy,iy]at h;exact ByteArray.ext (Array.toList_inj.1 h)
theorem Xa{a b:ByteArray}(h:(a.toList==b.toList)=false):a≠b:=λe=>by subst e;simp at h
theorem E8{x:ZPs}(h:nextL x.a.L (bkt x.f.key) x.f.pos x.f.past=none):x.miss:=λy hy=>by
 have hy:nextL x.a.L (bkt x.f.key) x.f.pos x.f.past=some y:=hy;rw[h]at hy;cases hy
theorem Fa{x:ZPs}{l:ZLnk}(h:nextL x.a.L (bkt x.f.key) x.f.pos x.f.past=some l)(h1:kl l.key x.f.key=false)(h2:l.key≠x.f.key):x.miss:=λy hy=>by
 have hy:nextL x.a.L (bkt x.f.key) x.f.pos x.f.past=some y:=hy;rw[h]at hy;cases hy;exact⟨h1,h2⟩
theorem nx_lt{f:ZFp}{k:Int}(hk:k=2\/k=3)(h:f.line<0):nx3 f k true=3:=by
 unfold nx3;rw[if_neg (by omega),if_neg (by simp),if_pos h]
theorem nx_ge{f:ZFp}{k:Int}(hk:k=2\/k=3)(h: ¬f.line<0):nx3 f k true=5:=by
 unfold nx3;rw[if_neg (by omega),if_neg (by simp),if_neg h]
theorem anh{f:ZFp}(h:f.line<0):nx3 f 2 false=3:=by
 unfold nx3;rw[if_neg (by decide),if_neg (by decide),if_pos h]
theorem ani{f:ZFp}(h: ¬f.line<0):nx3 f 2 false=5:=by
 unfold nx3;rw[if_neg (by decide),if_neg (by decide),if_neg h]
theorem Xb(x:ZPs)(hx:x.f.key.size<1099511627776/\x.f.pos.size<1099511627776/\((1:Int)=3->x.miss->x.f.line<0)):ahV x:=by
 unfold ahV;simp only[zQ,oC,pW,vw,zM,zO,LQ,zN,ahU,WM,WO,rZ,LP,fA,cZ,eH,WL,LM,LJ,rX,rY,EU,ET];simp only[aZ,aV,aU,aA,aI,bT,bF,aO,aK,ay,aX,aW,bU,bH,bI,bJ,bV,bD,bK,bC,eY,aH,aN,ah,ak,aB,aF,aC,aG];refine⟨by decide,x.f.key,hx.1,rfl,⟨x.a.L,x.f.key,x.f.pos,x.f.past⟩,hx.2.1,⟨rfl,rfl,rfl⟩,rfl,λhn=> ?_,λl hl=>bf (λh=> .inl ⟨l,⟨hl,h⟩,rfl,rfl⟩) λh=>bf (λh2=> ?_) λh2=> ?_⟩
 ·exact .inr (.inr ⟨E8 hn,rfl,rfl⟩)
 ·exact .inr (.inl ⟨l,⟨hl,W9 h2⟩,⟨rfl,rfl,rfl,rfl,rfl,rfl,rfl⟩,rfl⟩)
 ·exact .inr (.inr ⟨Fa hl h (Xa h2),rfl,rfl⟩)
theorem Xc(x:ZPs)(hx:x.f.key.size<1099511627776/\x.f.pos.size<1099511627776/\((2:Int)=3->x.miss->x.f.line<0)):ahX x:=by
 unfold ahX;simp only[zQ,oC,pW,vw,zM,zO,LK,zN,ahS,ahT,WQ,rZ,LP,fA,cZ,eH,LH,LM,LJ,WH,WI,WJ,rY,rX,EU,WG,ET];simp only[aZ,aV,aU,aA,aI,bT,bF,aO,aK,ay,aX,aW,bU,bH,bI,bJ,bV,bD,bK,bC,eY,aH,aN,ah,ak,aB,aF,aC,aG];refine⟨by decide,x.f.key,hx.1,rfl,⟨x.a.L,x.f.key,x.f.pos,x.f.past⟩,hx.2.1,⟨rfl,rfl,rfl⟩,rfl,λhn=> ?_,λl hl=>bf (λh=> .inl ⟨l,⟨hl,h⟩,rfl,rfl⟩) λh=>bf (λh2=> ?_) λh2=> ?_⟩
 ·exact bf (λg=> .inr (.inr ⟨E8 hn,anh (aS g),rfl⟩)) λg=> .inr (.inr ⟨E8 hn,ani (aT g),rfl⟩)
 ·exact bf (λg=> .inr (.inl ⟨l,⟨hl,W9 h2⟩,⟨nx_lt (.inl rfl) (aS g),rfl,rfl,rfl,rfl,rfl,rfl⟩,rfl⟩)) λg=> .inr (.inl ⟨l,⟨hl,W9 h2⟩,⟨nx_ge (.inl rfl) (aT g),rfl,rfl,rfl,rfl,rfl,rfl⟩,rfl⟩)
 ·exact bf (λg=> .inr (.inr ⟨Fa hl h (Xa h2),anh (aS g),rfl⟩)) λg=> .inr (.inr ⟨Fa hl h (Xa h2),ani (aT g),rfl⟩)
theorem Zy:dX Tryz.prog apY:= .append jl (.cons (bP Qo) (.cons (bP alp) (.cons (bP aoI) .nil)))
theorem aif:bZ Tryz.prog 34 (uw 1):=jk dF mixed Zy noA 200 6 (λ_=>rfl) (λ_=>⟨λ_=>rfl,λ_=>rfl,λ_=>rfl,trivial⟩) λx hx=>Eq.mp (ahW x) (Xb x (aZ.1 hx))
theorem acj:bZ Tryz.prog 34 (uw 2):=jk dF mixed Zy noA 200 6 (λ_=>rfl) (λ_=>⟨λ_=>rfl,λ_=>rfl,λ_=>rfl,trivial⟩) λx hx=>Eq.mp (ahY x) (Xc x (aZ.1 hx))
theorem wp_d0{x:ZPw}(h:x.p=0)(N:Nat):x.d'=(⟨x.a.d,x.ln,0,⟨x.draft.jF (λ_=>0) (cpc x.c).toNat,0,64,N⟩⟩:lN).d.store x.ln 0 64 (λq=>x.draft.jF (λ_=>0) (cpc x.c).toNat (0+q)):=by
 unfold ZPw.d';rw[if_pos h,Y5]
theorem wp_d1{x:ZPw}(h:x.p≠0)(N:Nat):x.d'=(⟨x.a.d,x.ln+x.p,0,⟨λq=>x.blk.enc (64*x.p+q),0,64,N⟩⟩:lN).d.store (x.ln+x.p) 0 64 (λq=>(λq=>x.blk.enc (64*x.p+q)) (0+q)):=by
 unfold ZPw.d';rw[if_neg h];exact(Y5 _ _ _ _ (λq=>x.blk.enc (64*x.p+q))).symm
theorem anj(x:ZPw){D:ByteArray}(hD:x.f.key++x.f.value=D){t q o B:Nat}(hq:q<64)(ho:o=min (28+63*t) D.size)(hB:(D.extract o D.size).size<=63/\B=1+(D.extract o D.size).size\/63<(D.extract o D.size).size/\B=64):[Value.int .u8 (x.blk.enc (64*(t+1)+q))]=bif Nat.ble 1 q&&Nat.blt q B then [Value.int .u8 (dY (D.extract o D.size) (q-1))]else Cs.eff (λ_=>[Value.int .u8 0]) [(0,[Value.int .u8 2])] q:=by
 have hsz:(D.extract o D.size).size=D.size-o:=by rw[ByteArray.size_extract];omega
 rw[hsz]at hB;rw[JC _ _ _ hq];unfold ZBlk.dat
 rw[show x.blk.key++x.blk.value=D from hD];by_cases h0:q=0
 ·subst h0;rfl
 ·rw[if_neg h0]
  by_cases h1:28+63*t+(q-1)<D.size
  ·rw[if_pos h1,show(Nat.ble 1 q&&Nat.blt q B)=true by rw[bQ,Nat.ble_eq_true_of_le (by omega)];simp;omega,aP,agx (by omega),show o=28+63*t by omega]
  ·rw[if_neg h1,show(Nat.ble 1 q&&Nat.blt q B)=false by rw[bQ,Nat.ble_eq_true_of_le (by omega)];simp;omega,aQ]
   show _=bif Nat.beq q 0 then _ else _;rw[dA,decide_eq_false h0];rfl
theorem Xd(x:ZPw)(hx:x.ok/\x.p=0):ahI x:=by
 obtain⟨⟨o1,o2,o3,o4,o5,o6,o7,o8⟩,hp⟩:=hx;have hs:=dM x.c;have hw:ownM x.d'.os=ownM (DevM.os ((⟨x.a.d,x.ln,0,⟨x.draft.jF (λ_=>0) (cpc x.c).toNat,0,64,64⟩⟩:lN).d.store x.ln 0 64 (λq=>x.draft.jF (λ_=>0) (cpc x.c).toNat (0+q)))):=congrArg (λd=>ownM (DevM.os d)) (wp_d0 hp 64);unfold ahI;simp only[zL,LC,Lr,ahH,rP,EP,ahF,ahG,bW,dV,bG,fV,jv,kW,iZ,iQ,pV,Ij,AX,ES];simp only[aZ,aV,aU,aA,aI,bT,bF,aO,aK,ay,aX,aW,bU,bH,bI,bJ,bV,bD,bK,bC,eY,aH,aN,ah,ak,aB,aF,aC,aG];refine⟨by decide,x.c,⟨o2,o3⟩,rfl,⟨x.a.d,x.ln,0,⟨x.draft.jF (λ_=>0) (cpc x.c).toNat,0,64,64⟩⟩,⟨o1,by show x.ln<x.a.d.n;omega,⟨aY _,show 64<1099511627776 by decide,Y6 ⟨o2,o3⟩⟩,aY _⟩,⟨rfl,rfl,rfl,rfl⟩,⟨rfl,rfl,λ_ _=>rfl⟩,by unfold I64;omega,by unfold I64;omega,bf (λh=> .inr ⟨beq_iff_eq.1 h,hw,rfl⟩) λh=> .inl ⟨beq_eq_false_iff_ne.1 h,by omega,hw,rfl⟩⟩
theorem acn(x:ZPw)(hx:x.ok/\x.p≠0):ap0 x:=by
 obtain⟨⟨o1,o2,o3,o4,o5,o6,o7,o8⟩,hp⟩:=hx;have hs:=dM x.c;obtain⟨t,ht⟩: ∃t,x.p=t+1:=⟨x.p-1,by omega⟩;have hn:=o1.1;generalize hD:x.f.key++x.f.value=D;have hDs:D.size=x.f.key.size+x.f.value.size:=by rw[<-hD];exact ByteArray.size_append
 have e1:(Cj (imax (28+((x.p:Int)-1)*63) 0) D.size).toNat=min (28+63*t) D.size:=by unfold Cj imax;omega
 have e0:0<=Cj (imax (28+((x.p:Int)-1)*63) 0) D.size:=by unfold Cj imax;omega
 have hw:ownM x.d'.os=ownM (DevM.os ((⟨x.a.d,x.ln+x.p,0,⟨λq=>x.blk.enc (64*x.p+q),0,64,64⟩⟩:lN).d.store (x.ln+x.p) 0 64 (λq=>(λq=>x.blk.enc (64*x.p+q)) (0+q)))):=congrArg (λd=>ownM (DevM.os d)) (wp_d1 hp 64);unfold ap0;simp only[zL,LC,Lr,Wn,EP,rP,Wj,Wp,Wy,ES,Wq,bW,dV,bG,fV,jv,kW,iZ,rQ,iQ,pV,Ij,AX];simp only[aZ,aV,aU,aA,aI,bT,bF,aO,aK,ay,aX,aW,bU,bH,bI,bJ,bV,bD,bK,bC,eY,aH,aN,ah,ak,aB,aF,aC,aG,hD,e1];refine⟨by decide,bf (λh=>absurd (beq_iff_eq.1 h) (by omega)) λ_=>⟨by decide,by decide,by decide,by omega,by unfold I64;omega,by unfold I64;omega,by unfold I64;omega,by decide,by decide,e0,⟨Nat.min_le_right _ _,aY _⟩,by decide,bf (λh=> ?_) λh=> ?_⟩⟩
 ·refine⟨by unfold I64;omega,⟨x.a.d,x.ln+x.p,0,⟨λq=>x.blk.enc (64*x.p+q),0,64,64⟩⟩,⟨o1,by show x.ln+x.p<x.a.d.n;omega,⟨aY _,show 64<1099511627776 by decide,λk=>agy _ (by omega)⟩,aY _⟩,⟨rfl,rfl,rfl,rfl⟩,⟨rfl,rfl,λq hq=> ?_⟩,by unfold I64;omega,by unfold I64;omega,bf (λh=> .inr ⟨beq_iff_eq.1 h,hw,rfl⟩) λh=> .inl ⟨beq_eq_false_iff_ne.1 h,hw,rfl⟩⟩
  rw[ht];exact anj x hD hq rfl (.inl ⟨Nat.le_of_ble_eq_true h,rfl⟩)
 ·refine⟨by unfold I64;omega,⟨x.a.d,x.ln+x.p,0,⟨λq=>x.blk.enc (64*x.p+q),0,64,64⟩⟩,⟨o1,by show x.ln+x.p<x.a.d.n;omega,⟨aY _,show 64<1099511627776 by decide,λk=>agy _ (by omega)⟩,aY _⟩,⟨rfl,rfl,rfl,rfl⟩,⟨rfl,rfl,λq hq=> ?_⟩,by unfold I64;omega,by unfold I64;omega,bf (λh=> .inr ⟨beq_iff_eq.1 h,hw,rfl⟩) λh=> .inl ⟨beq_eq_false_iff_ne.1 h,hw,rfl⟩⟩
  rw[ht];exact anj x hD hq rfl (.inr ⟨Nat.not_le.1 λhh=>(by rw[Nat.ble_eq_true_of_le hh]at h;cases h),rfl⟩)
theorem ar6{b:ZBlk}(h:b.may)(hk:b.kind=1):b.key.size<=16/\b.value.size<=400:=by
 rcases h.2 with h|h|h|h<;>first|(exfalso;have:=h.1;omega)|exact⟨h.2.2.1,h.2.2.2.1⟩
noncomputable def ZPr.de(x:ZPr):ZDm:=⟨x.b.cls,x.b.id,x.b.ver,x.b.epoch,x.b.key,x.b.value,x.b.enc⟩
theorem ar7{x:ZPr}(hk:x.b.kind=1):x.de.b=x.b:=by
 unfold ZPr.de ZDm.b;rw[<-hk]
theorem Xe(x:ZPr)(hx:x.ok/\x.p=0):ahK x:=by
 obtain⟨⟨o1,o2,o3,o4,o5,o6⟩,hp⟩:=hx;have hs:=uV x.b;have h1:=BX o2;have hde:=ar7 o3;have hv:=ar6 o2 o3;have hn:=o1.1;have by_: ∀q,q<64->x.b.enc q=x.a.d.b (x.ln*193+q):=λq hq=>by
  rw[<-o6 q (by omega),show q/64=0 by omega,show q%64=q by omega,aI]
 unfold ahK;simp only[kX,bW,dV,bG,fV,kW,iQ,mZ,zJ,ER,LD,Ll,iZ,pV,Ij,AX];simp only[aZ,aV,aU,aA,aI,bT,bF,aO,aK,ay,aX,aW,bU,bH,bI,bJ,bV,bD,bK,bC,eY,aH,aN,ah,ak,aB,aF,aC,aG];refine⟨by decide,by unfold I64;omega,⟨x.a.d,x.ln⟩,⟨o1,by show x.ln<x.a.d.n;omega⟩,by show(x.ln:Int)=x.ln+0;omega,rfl,by decide,by decide,by unfold I64;omega,bf (λh=> .inl ⟨by simpa using h,by_,rfl⟩) λh=> ?_⟩;have hc:1=spn x.b.cls:=by simpa using h
 have hsn:x.b.dK=1:=by omega
 have he:64*x.de.b.dK=64:=by rw[hde,hsn]
 refine⟨x.de,⟨by rw[hde];exact o2,by show x.b.key.size<_;omega,by show x.b.value.size<_;omega,λk _=>by rw[hde];rfl⟩,he,⟨he,λq hq=>by_ q (by omega)⟩,?_⟩;rw[show(x.de.id==x.b.id)=true from beq_self_eq_true _,show(x.de.ver==x.b.ver)=true from beq_self_eq_true _,show(x.de.key.toList==x.b.key.toList)=true from beq_self_eq_true _,kM,kM,Bool.not_true,ig];exact .inr ⟨hc,rfl,rfl⟩
theorem Xf(x:ZPr)(hx:x.ok/\x.p≠0):ahM x:=by
 obtain⟨⟨o1,o2,o3,o4,o5,o6⟩,hp⟩:=hx;have hs:=uV x.b;have h1:=BX o2;have hde:=ar7 o3;have hv:=ar6 o2 o3;have hn:=o1.1;unfold ahM;simp only[kX,EO,bW,dV,bG,fV,rQ,kW,iQ,zI,mZ,Wx,ER,LD,Ws,Lj,iZ,zJ,pV,Ij,AX];simp only[aZ,aV,aU,aA,aI,bT,bF,aO,aK,ay,aX,aW,bU,bH,bI,bJ,bV,bD,bK,bC,eY,aH,aN,ah,ak,aB,aF,aC,aG];have hb:Nat.beq (64*x.p) 0=false:=Bool.eq_false_iff.2 λh=>absurd (au h) (by omega)
 simp only[hb];refine⟨aY _,by omega,by omega,by unfold I64;omega,⟨x.a.d,x.ln+x.p⟩,⟨o1,by show x.ln+x.p<x.a.d.n;omega⟩,rfl,rfl,?_⟩;have row: ∀q,q<64*(x.p+1)->x.b.enc q=bif Nat.blt q (64*x.p)then x.b.enc q else x.a.d.b ((x.ln+x.p)*193+(q-64*x.p)):=λq hq=>by
  by_cases hh:q<64*x.p
  ·rw[bg.2 hh];rfl
  ·rw[show Nat.blt q (64*x.p)=false by rw[bQ];exact decide_eq_false hh,aQ,<-o6 q (by omega),show q/64=x.p by omega,show q%64=q-64*x.p by omega]
 refine⟨by omega,by omega,by unfold I64;omega,bf (λh=> .inl ⟨by simpa using h,by omega,⟨by omega,row⟩,rfl⟩) λh=> ?_⟩;have hc:(x.p:Int)+1=spn x.b.cls:=by simpa using h
 have hsn:x.b.dK=x.p+1:=by omega
 have he:64*x.de.b.dK=64*x.p+64:=by rw[hde,hsn];omega
 refine⟨x.de,⟨by rw[hde];exact o2,by show x.b.key.size<_;omega,by show x.b.value.size<_;omega,λk _=>by rw[hde];rfl⟩,he,⟨he,λq hq=>row q (by omega)⟩,?_⟩;rw[show(x.de.id==x.b.id)=true from beq_self_eq_true _,show(x.de.ver==x.b.ver)=true from beq_self_eq_true _,show(x.de.key.toList==x.b.key.toList)=true from beq_self_eq_true _,kM,kM,Bool.not_true,ig];exact .inr ⟨hc,rfl,rfl⟩
theorem Q5(x:ZPp)(hx:(x.pt 2).ok 2 false):WA x:=by
 unfold WA;simp only[rW,rU,rV,LG,bW,dV,bG,iZ,zK,kX];simp only[aZ,aV,aU,aA,aI,bT,bF,aO,aK,ay,aX,aW,bU,bH,bI,bJ,bV,bD,bK,bC,eY,aH,aN,ah,ak,aB,aF,aC,aG];refine⟨by decide,x.pt 2,hx,⟨rfl,rfl⟩,⟨rfl,rfl,rfl,rfl,rfl,rfl,rfl,rfl,rfl,rfl⟩,?_⟩
 repeat' (first|exact rfl|decide|refine And.intro ?_ ?_)
theorem Q7(x:ZPp)(hx:(x.pt 2).bad false):WB x:=by
 unfold WB;simp only[rW,rU,rV,Ls,LG,Lm,Wv,Wu,iQ,pV,AX,bG,bW,dV,fV,jv,kW,iZ,zK,kX];simp only[aZ,aV,aU,aA,aI,bT,bF,aO,aK,ay,aX,aW,bU,bH,bI,bJ,bV,bD,bK,bC,eY,aH,aN,ah,ak,aB,aF,aC,aG];refine⟨by decide,x.pt 2,hx,⟨rfl,rfl⟩,⟨rfl,rfl,rfl,rfl,rfl,rfl,rfl,rfl,rfl,rfl,rfl⟩,x.a.ck,⟨hx.2.1,hx.1⟩,?_⟩
 repeat' (first|exact rfl|decide|refine And.intro ?_ ?_)
theorem Q8(x:ZPp)(hx:(x.pt 2).ok 2 true):WC x:=by
 unfold WC;simp only[rW,rU,rV,Lu,ahE,bW,dV,bG,iZ,zK,kX];simp only[aZ,aV,aU,aA,aI,bT,bF,aO,aK,ay,aX,aW,bU,bH,bI,bJ,bV,bD,bK,bC,eY,aH,aN,ah,ak,aB,aF,aC,aG];refine⟨by decide,x.pt 2,hx,⟨rfl,rfl⟩,⟨rfl,rfl,rfl,rfl,rfl,rfl,rfl,rfl,rfl,rfl⟩,?_⟩
 repeat' (first|exact rfl|decide|refine And.intro ?_ ?_)
theorem Q9(x:ZPp)(hx:(x.pt 2).bad true):WE x:=by
 unfold WE;simp only[rW,rU,rV,Ls,Lu,Lm,Wv,Wu,iQ,pV,AX,bG,bW,dV,fV,jv,kW,iZ,zK,kX];simp only[aZ,aV,aU,aA,aI,bT,bF,aO,aK,ay,aX,aW,bU,bH,bI,bJ,bV,bD,bK,bC,eY,aH,aN,ah,ak,aB,aF,aC,aG];refine⟨by decide,x.pt 2,hx,⟨rfl,rfl⟩,⟨rfl,rfl,rfl,rfl,rfl,rfl,rfl,rfl,rfl,rfl,rfl⟩,x.a.ck,⟨hx.2.1,hx.1⟩,?_⟩
 repeat' (first|exact rfl|decide|refine And.intro ?_ ?_)
theorem Xg(x:ZPs):ahO x:=by
 unfold ahO;simp only[Lp,bW,dV,bG,jv,kW,iZ]
 first|done|(simp only[aZ,aV,aU,aA,aI,bT,bF,aO,aK,ay,aX,aW,bU,bH,bI,bJ,bV,bD,bK,bC,eY,aH,aN,ah,ak,aB,aF,aC,aG];done)|(simp only[aZ,aV,aU,aA,aI,bT,bF,aO,aK,ay,aX,aW,bU,bH,bI,bJ,bV,bD,bK,bC,eY,aH,aN,ah,ak,aB,aF,aC,aG];decide)
theorem Xh(x:ZPs):ahQ x:=by
 unfold ahQ;simp only[Lp,bW,dV,bG,jv,kW,iZ]
 first|done|(simp only[aZ,aV,aU,aA,aI,bT,bF,aO,aK,ay,aX,aW,bU,bH,bI,bJ,bV,bD,bK,bC,eY,aH,aN,ah,ak,aB,aF,aC,aG];done)|(simp only[aZ,aV,aU,aA,aI,bT,bF,aO,aK,ay,aX,aW,bU,bH,bI,bJ,bV,bD,bK,bC,eY,aH,aN,ah,ak,aB,aF,aC,aG];decide)
theorem Zz:dX Tryz.prog apZ:= .append jl (.cons JL (.cons (bP apW) (.cons (bP aoK) .nil)))
theorem Xi:bZ Tryz.prog 34 (EM 2).ctr:=cO dF mixed Y7 11 noA 200 6 (λ_=>⟨rfl,rfl,rfl,rfl⟩) λx hx=>Eq.mp (ahJ x) (Xd x (aZ.1 hx))
theorem aco:bZ Tryz.prog 34 EN.ctr:=cO dF mixed Y7 11 noA 200 6 (λ_=>⟨rfl,rfl,rfl,rfl⟩) λx hx=>Eq.mp (al5 x) (acn x (aZ.1 hx))
theorem aii:bZ Tryz.prog 34 QZ.ctr:=cO dF mixed Zz 11 noA 200 6 (λ_=>⟨rfl,rfl,rfl,rfl⟩) λx hx=>Eq.mp (ahL x) (Xe x (aZ.1 hx))
theorem aij:bZ Tryz.prog 34 Zw.ctr:=cO dF mixed Zz 12 noA 200 6 (λ_=>⟨rfl,rfl,rfl,rfl⟩) λx hx=>Eq.mp (ahN x) (Xf x (aZ.1 hx))
theorem acp:dX Tryz.prog (al3 2 false):= .append jl (.cons (bP alY) .nil)
theorem acr:dX Tryz.prog (al4 2 false):= .append jl (.cons (bP al0) (.cons (bP tZ) .nil))
theorem aik:bZ Tryz.prog 34 (Le 2 false):=dR dF mixed acp noA 200 6 (λ_=>rfl) (λ_=>rfl) λx hx=>Eq.mp (ab8 x) (Q5 x (aZ.1 hx))
theorem ail:bZ Tryz.prog 34 (Lh 2 false).ctr:=cO dF mixed acr 11 noA 200 6 (λ_=>⟨rfl,rfl,rfl,rfl⟩) λx hx=>Eq.mp (ab9 x) (Q7 x (aZ.1 hx))
theorem acs:dX Tryz.prog (al3 2 true):= .append jl (.cons (bP alZ) .nil)
theorem acu:dX Tryz.prog (al4 2 true):= .append jl (.cons (bP al1) (.cons (bP tZ) .nil))
theorem ain:bZ Tryz.prog 34 (Le 2 true):=dR dF mixed acs noA 200 6 (λ_=>rfl) (λ_=>rfl) λx hx=>Eq.mp (acd x) (Q8 x (aZ.1 hx))
theorem aio:bZ Tryz.prog 34 (Lh 2 true).ctr:=cO dF mixed acu 11 noA 200 6 (λ_=>⟨rfl,rfl,rfl,rfl⟩) λx hx=>Eq.mp (ace x) (Q9 x (aZ.1 hx))
theorem aip:bZ Tryz.prog 34 (yu 1):=dR dF mixed jl noA 200 6 (λ_=>rfl) (λ_=>rfl) λx _=>Eq.mp (ahP x) (Xg x)
theorem aiq:bZ Tryz.prog 34 (yu 2):=dR dF mixed jl noA 200 6 (λ_=>rfl) (λ_=>rfl) λx _=>Eq.mp (ahR x) (Xh x)
def air(a:ZSto)(b:Lks):Prop:=ownM a.b.os=ownM a.b.os/\tabA a.L=tabA b/\ordA a.L=ordA a.L/\ownM a.l.os=ownM a.l.os/\(Nat.beq a.n 0=Nat.beq a.n 0/\a.n=a.n/\ ∀q:Nat,q<a.n->[Value.int .i64 (ZEff.kind (a.e q)),Value.string (ZEff.key (a.e q)),Value.string (ZEff.value (a.e q)),Value.int .u64 (ZEff.id (a.e q)),Value.int .u64 (ZEff.ver (a.e q)),Value.int .u64 (ZEff.epoch (a.e q)),Value.int .i64 (ZEff.group (a.e q))]=[Value.int .i64 (ZEff.kind (a.e q)),Value.string (ZEff.key (a.e q)),Value.string (ZEff.value (a.e q)),Value.int .u64 (ZEff.id (a.e q)),Value.int .u64 (ZEff.ver (a.e q)),Value.int .u64 (ZEff.epoch (a.e q)),Value.int .i64 (ZEff.group (a.e q))])/\True
def Xj(a:ZSto):Prop:=0=0/\0=0/\0=0/\0=0/\0=0/\0=0/\0=0/\0=0/\a.id=a.id/\a.ver=a.ver/\(Nat.beq a.n 0=Nat.beq a.n 0/\a.n=a.n)/\True
def jC(a:ZSto)(b:Lks):Prop:=Xj a/\(0=0/\(1:Int)=1/\(0:Int)=0/\(0:Int)=0/\True)/\ownM a.d.os=ownM a.d.os/\ownM a.p.os=ownM a.p.os/\ownM a.r.os=ownM a.r.os/\ownM a.ck.os=ownM a.ck.os/\air a b
def fJ:Prop:=Value.slice none 0 0=Value.slice none 0 0
def yx(a:ZFp)(b:ZFp):Prop:=fJ/\(0:Int)=0/\fJ/\a.code=b.code/\a.found=b.found/\a.ans=b.ans/\fJ/\fJ/\a.aep=b.aep/\True
def Xk(a:ZFp)(b:ZFp):Prop:=a.cls=b.cls/\a.piece=b.piece/\yx a b
def zW(a:ZFp)(b:ZFp):Prop:=a.line=b.line/\Xk a b
def Me(a:ZFp)(b:ZFp):Prop:=(0:Int)=0/\a.had=b.had/\a.old.key=b.old.key/\a.old.id=b.old.id/\a.old.ver=b.old.ver/\a.old.line=b.old.line/\a.old.cls=b.old.cls/\zW a b
def MB(a:ZFp)(b:ZFp):Prop:=a.key=b.key/\a.value=b.value/\a.to=b.to/\fJ/\(1:Int)=1/\a.epoch=b.epoch/\a.pos=b.pos/\a.past=b.past/\Me a b
def MC(a:ZFp)(b:ZFp)(c:ByteArray)(d:ByteArray):Prop:=a.key=b.key/\a.value=b.value/\a.to=b.to/\fJ/\(1:Int)=1/\a.epoch=b.epoch/\c=d/\true=true/\Me a b
def MF(a:ZFp)(b:ZFp):Prop:=a.epoch=b.epoch/\a.pos=b.pos/\a.past=b.past/\(0:Int)=0/\false=false/\ByteArray.mk #[]=ByteArray.mk #[]/\(0:Int)=0/\(0:Int)=0/\(0:Int)=0/\(0:Int)=0/\zW a b
def MG(a:ZFp)(b:ZFp)(c:ByteArray):Prop:=a.epoch=b.epoch/\a.pos=c/\a.past=true/\(0:Int)=0/\false=b.had/\ByteArray.mk #[]=b.old.key/\0=b.old.id/\0=b.old.ver/\0=b.old.line/\0=b.old.cls/\zW a b
def MH(a:ZFp)(b:ZFp)(c:ByteArray):Prop:=a.epoch=b.epoch/\c=b.pos/\true=b.past/\(0:Int)=0/\a.had=false/\a.old.key=ByteArray.mk #[]/\a.old.id=0/\a.old.ver=0/\a.old.line=0/\a.old.cls=0/\zW a b
def Xl:Prop:=True/\True/\True/\0=0/\True/\True/\True/\True/\True/\True
def MI(a:Lks)(b:Lks):Prop:=(True/\True/\Xl)/\tabA a=tabA b/\True
def Xm(a:ZFp)(b:ZFp):Prop:=a.line=b.line/\a.cls=b.cls/\ite ((1:Int)=1) (0:Int) a.piece=b.piece/\yx a b
def Xn(a:ZFp)(b:ZFp):Prop:=a.line=b.line/\a.cls=b.cls/\a.piece=ite ((1:Int)=1) (0:Int) b.piece/\yx a b
def Xo(a:ZFp)(b:ZFp):Prop:=a.line=b.line/\a.cls=b.cls/\ite ((2:Int)=1) (0:Int) a.piece=b.piece/\yx a b
def Xp(a:ZFp)(b:ZFp):Prop:=a.line=b.line/\a.cls=b.cls/\a.piece=ite ((2:Int)=1) (0:Int) b.piece/\yx a b
def ais(x:ZPs):Prop:=
 ∃x_1:ZPs,Hd (x_1.f.key.size<1099511627776/\x_1.f.pos.size<1099511627776/\((1:Int)=3->x_1.miss->x_1.f.line<0))/\(0=0/\(x_1.t:Int)=(x.t:Int)/\((1:Int)=1/\MB x_1.f x.f)/\True)/\MI x_1.a.L x.a.L/\(∀y:ZLnk,Hd (x_1.goes y)->(∃y_1:ZLnk,Hd (x.goes y_1)/\((1:Int)=1/\MC x.f x_1.f y_1.key y.key)/\jC x.a x_1.a.L)\/(∃y_1:ZLnk,Hd (x.hit y_1)/\((1:Int)=1/\x.f.key=x_1.f.key/\x.f.value=x_1.f.value/\x.f.to=x_1.f.to/\fJ/\nx3 x.f (1:Int) true=1/\x.f.epoch=x_1.f.epoch/\x.f.pos=y.key/\x.f.past=true/\(0:Int)=0/\true=x_1.f.had/\y_1.key=x_1.f.old.key/\y_1.id=x_1.f.old.id/\y_1.ver=x_1.f.old.ver/\y_1.line=x_1.f.old.line/\y_1.cls=x_1.f.old.cls/\Xm x.f x_1.f)/\jC x.a x_1.a.L)\/ ∃y_1:Unit,Hd x.miss/\((1:Int)=1/\x.f.key=x_1.f.key/\x.f.value=x_1.f.value/\x.f.to=x_1.f.to/\fJ/\nx3 x.f (1:Int) false=1/\MG x.f x_1.f y.key)/\jC x.a x_1.a.L)/\(∀y:ZLnk,Hd (x_1.hit y)->(∃y_1:ZLnk,Hd (x.goes y_1)/\((1:Int)=1/\x.f.key=x_1.f.key/\x.f.value=x_1.f.value/\x.f.to=x_1.f.to/\fJ/\1=nx3 x_1.f (1:Int) true/\x.f.epoch=x_1.f.epoch/\y_1.key=x_1.f.pos/\true=x_1.f.past/\(0:Int)=0/\x.f.had=true/\x.f.old.key=y.key/\x.f.old.id=y.id/\x.f.old.ver=y.ver/\x.f.old.line=y.line/\x.f.old.cls=y.cls/\Xn x.f x_1.f)/\jC x.a x_1.a.L)\/(∃y_1:ZLnk,Hd (x.hit y_1)/\((1:Int)=1/\x.f.key=x_1.f.key/\x.f.value=x_1.f.value/\x.f.to=x_1.f.to/\fJ/\nx3 x.f (1:Int) true=nx3 x_1.f (1:Int) true/\x.f.epoch=x_1.f.epoch/\x.f.pos=x_1.f.pos/\x.f.past=x_1.f.past/\(0:Int)=0/\true=true/\y_1.key=y.key/\y_1.id=y.id/\y_1.ver=y.ver/\y_1.line=y.line/\
 y_1.cls=y.cls/\x.f.line=x_1.f.line/\x.f.cls=x_1.f.cls/\ite ((1:Int)=1) (0:Int) x.f.piece=ite ((1:Int)=1) (0:Int) x_1.f.piece/\yx x.f x_1.f)/\jC x.a x_1.a.L)\/ ∃y_1:Unit,Hd x.miss/\((1:Int)=1/\x.f.key=x_1.f.key/\x.f.value=x_1.f.value/\x.f.to=x_1.f.to/\fJ/\nx3 x.f (1:Int) false=nx3 x_1.f (1:Int) true/\x.f.epoch=x_1.f.epoch/\x.f.pos=x_1.f.pos/\x.f.past=x_1.f.past/\(0:Int)=0/\false=true/\ByteArray.mk #[]=y.key/\0=y.id/\0=y.ver/\0=y.line/\0=y.cls/\Xn x.f x_1.f)/\jC x.a x_1.a.L)/\ ∀y:Unit,Hd x_1.miss->(∃y_1:ZLnk,Hd (x.goes y_1)/\((1:Int)=1/\x.f.key=x_1.f.key/\x.f.value=x_1.f.value/\x.f.to=x_1.f.to/\fJ/\1=nx3 x_1.f (1:Int) false/\MH x.f x_1.f y_1.key)/\jC x.a x_1.a.L)\/(∃y_1:ZLnk,Hd (x.hit y_1)/\((1:Int)=1/\x.f.key=x_1.f.key/\x.f.value=x_1.f.value/\x.f.to=x_1.f.to/\fJ/\nx3 x.f (1:Int) true=nx3 x_1.f (1:Int) false/\x.f.epoch=x_1.f.epoch/\x.f.pos=x_1.f.pos/\x.f.past=x_1.f.past/\(0:Int)=0/\true=false/\y_1.key=ByteArray.mk #[]/\y_1.id=0/\y_1.ver=0/\y_1.line=0/\y_1.cls=0/\Xm x.f x_1.f)/\jC x.a x_1.a.L)\/ ∃y_1:Unit,Hd x.miss/\((1:Int)=1/\x.f.key=x_1.f.key/\x.f.value=x_1.f.value/\x.f.to=x_1.f.to/\fJ/\nx3 x.f (1:Int) false=nx3 x_1.f (1:Int) false/\MF x.f x_1.f)/\jC x.a x_1.a.L
theorem ait(x:ZPs):ais x=ctrT (uw 1) ((rO 1).args x) (hO 11 (flatP 1 ((rO 1).l x))) (λv h'=>endsPK 1 x v h' (rO 1).outs):=by kernel_rfl
def aiu(x:ZPs):Prop:=
 ∃x_1:ZPs,Hd (x_1.f.key.size<1099511627776/\x_1.f.pos.size<1099511627776/\((2:Int)=3->x_1.miss->x_1.f.line<0))/\(0=0/\(x_1.t:Int)=(x.t:Int)/\((2:Int)=2/\MB x_1.f x.f)/\True)/\MI x_1.a.L x.a.L/\(∀y:ZLnk,Hd (x_1.goes y)->(∃y_1:ZLnk,Hd (x.goes y_1)/\((2:Int)=2/\MC x.f x_1.f y_1.key y.key)/\jC x.a x_1.a.L)\/(∃y_1:ZLnk,Hd (x.hit y_1)/\((2:Int)=2/\x.f.key=x_1.f.key/\x.f.value=x_1.f.value/\x.f.to=x_1.f.to/\fJ/\nx3 x.f (2:Int) true=1/\x.f.epoch=x_1.f.epoch/\x.f.pos=y.key/\x.f.past=true/\(0:Int)=0/\true=x_1.f.had/\y_1.key=x_1.f.old.key/\y_1.id=x_1.f.old.id/\y_1.ver=x_1.f.old.ver/\y_1.line=x_1.f.old.line/\y_1.cls=x_1.f.old.cls/\Xo x.f x_1.f)/\jC x.a x_1.a.L)\/ ∃y_1:Unit,Hd x.miss/\((2:Int)=2/\x.f.key=x_1.f.key/\x.f.value=x_1.f.value/\x.f.to=x_1.f.to/\fJ/\nx3 x.f (2:Int) false=1/\MG x.f x_1.f y.key)/\jC x.a x_1.a.L)/\(∀y:ZLnk,Hd (x_1.hit y)->(∃y_1:ZLnk,Hd (x.goes y_1)/\((2:Int)=2/\x.f.key=x_1.f.key/\x.f.value=x_1.f.value/\x.f.to=x_1.f.to/\fJ/\1=nx3 x_1.f (2:Int) true/\x.f.epoch=x_1.f.epoch/\y_1.key=x_1.f.pos/\true=x_1.f.past/\(0:Int)=0/\x.f.had=true/\x.f.old.key=y.key/\x.f.old.id=y.id/\x.f.old.ver=y.ver/\x.f.old.line=y.line/\x.f.old.cls=y.cls/\Xp x.f x_1.f)/\jC x.a x_1.a.L)\/(∃y_1:ZLnk,Hd (x.hit y_1)/\((2:Int)=2/\x.f.key=x_1.f.key/\x.f.value=x_1.f.value/\x.f.to=x_1.f.to/\fJ/\nx3 x.f (2:Int) true=nx3 x_1.f (2:Int) true/\x.f.epoch=x_1.f.epoch/\x.f.pos=x_1.f.pos/\x.f.past=x_1.f.past/\(0:Int)=0/\true=true/\y_1.key=y.key/\y_1.id=y.id/\y_1.ver=y.ver/\y_1.line=y.line/\
 y_1.cls=y.cls/\x.f.line=x_1.f.line/\x.f.cls=x_1.f.cls/\ite ((2:Int)=1) (0:Int) x.f.piece=ite ((2:Int)=1) (0:Int) x_1.f.piece/\yx x.f x_1.f)/\jC x.a x_1.a.L)\/ ∃y_1:Unit,Hd x.miss/\((2:Int)=2/\x.f.key=x_1.f.key/\x.f.value=x_1.f.value/\x.f.to=x_1.f.to/\fJ/\nx3 x.f (2:Int) false=nx3 x_1.f (2:Int) true/\x.f.epoch=x_1.f.epoch/\x.f.pos=x_1.f.pos/\x.f.past=x_1.f.past/\(0:Int)=0/\false=true/\ByteArray.mk #[]=y.key/\0=y.id/\0=y.ver/\0=y.line/\0=y.cls/\Xp x.f x_1.f)/\jC x.a x_1.a.L)/\ ∀y:Unit,Hd x_1.miss->(∃y_1:ZLnk,Hd (x.goes y_1)/\((2:Int)=2/\x.f.key=x_1.f.key/\x.f.value=x_1.f.value/\x.f.to=x_1.f.to/\fJ/\1=nx3 x_1.f (2:Int) false/\MH x.f x_1.f y_1.key)/\jC x.a x_1.a.L)\/(∃y_1:ZLnk,Hd (x.hit y_1)/\((2:Int)=2/\x.f.key=x_1.f.key/\x.f.value=x_1.f.value/\x.f.to=x_1.f.to/\fJ/\nx3 x.f (2:Int) true=nx3 x_1.f (2:Int) false/\x.f.epoch=x_1.f.epoch/\x.f.pos=x_1.f.pos/\x.f.past=x_1.f.past/\(0:Int)=0/\true=false/\y_1.key=ByteArray.mk #[]/\y_1.id=0/\y_1.ver=0/\y_1.line=0/\y_1.cls=0/\Xo x.f x_1.f)/\jC x.a x_1.a.L)\/ ∃y_1:Unit,Hd x.miss/\((2:Int)=2/\x.f.key=x_1.f.key/\x.f.value=x_1.f.value/\x.f.to=x_1.f.to/\fJ/\nx3 x.f (2:Int) false=nx3 x_1.f (2:Int) false/\MF x.f x_1.f)/\jC x.a x_1.a.L
theorem aiv(x:ZPs):aiu x=ctrT (uw 2) ((rO 2).args x) (hO 11 (flatP 1 ((rO 2).l x))) (λv h'=>endsPK 1 x v h' (rO 2).outs):=by kernel_rfl
theorem Xq(x:ZPs)(hx:(rO 1).pre x):ais x:=by
 unfold ais;simp only[MB,MI,MC,jC,fJ,Xm,MG,Xn,yx,MH,MF,zW,Xk,Xj,air,Me,Xl];simp only[aZ,aV,aU,aA,aI,bT,bF,aO,aK,ay,aX,aW,bU,bH,bI,bJ,bV,bD,bK,bC,eY,aH,aN,ah,ak,aB,aF,aC,aG];refine⟨x,aZ.1 hx,?_,?_,?_,?_,?_⟩
 ·simp
 ·rfl
 ·exactλy h=> .inl ⟨y,h,by simp,by simp⟩
 ·exactλy h=> .inr (.inl ⟨y,h,by simp,by simp⟩)
 ·exactλh=> .inr (.inr ⟨h,by simp,by simp⟩)
theorem Xr(x:ZPs)(hx:(rO 2).pre x):aiu x:=by
 unfold aiu;simp only[MB,MI,MC,jC,fJ,Xo,MG,Xp,yx,MH,MF,zW,Xk,Xj,air,Me,Xl];simp only[aZ,aV,aU,aA,aI,bT,bF,aO,aK,ay,aX,aW,bU,bH,bI,bJ,bV,bD,bK,bC,eY,aH,aN,ah,ak,aB,aF,aC,aG];refine⟨x,aZ.1 hx,?_,?_,?_,?_,?_⟩
 ·simp
 ·rfl
 ·exactλy h=> .inl ⟨y,h,by simp,by simp⟩
 ·exactλy h=> .inr (.inl ⟨y,h,by simp,by simp⟩)
 ·exactλh=> .inr (.inr ⟨h,by simp,by simp⟩)
theorem aiw:bZ Tryz.prog 34 (rO 1).ctr:=qK (bP aif) 11 (λ_=>⟨rfl,rfl,rfl,rfl⟩) λx hx=>Eq.mp (ait x) (Xq x hx)
theorem aix:bZ Tryz.prog 34 (rO 2).ctr:=qK (bP acj) 11 (λ_=>⟨rfl,rfl,rfl,rfl⟩) λx hx=>Eq.mp (aiv x) (Xr x hx)
structure ZKs where
 a:ZSto
 f:ZFp
 ph:Int
namespace ZKs
def ps(s:ZKs)(t:Nat):ZPs:=⟨s.a,s.f,t⟩
def pp(s:ZKs)(t ln:Nat):ZPp:=⟨s.a,s.f,t,ln⟩
end ZKs
def wP(k:Int)(t:Nat)(b:ZBlk)(n:Nat)(s:ZKs)(Q:Nat->ZKs->Prop):Prop:=
 (s.ph=0/\n=0/\(s.a.r.ok/\s.a.c.ok/\s.a.ph<=4/\t<s.a.r.t/\s.a.r.has t=0)/\(goodP k s.f.key s.f.value≠0->Q 0 ⟨s.a,{s.f with code:=goodP k s.f.key s.f.value},7⟩)/\(goodP k s.f.key s.f.value=0->Q 0 ⟨s.a.Fv t s.a.r.now,{s.f with epoch:=s.a.c.now},1⟩))\/
 (s.ph=1/\n=0/\(s.f.key.size<1099511627776/\s.f.pos.size<1099511627776/\(k=3->(s.ps t).miss->s.f.line<0))/\(∀y,(s.ps t).goes y->Q 0 ⟨s.a,{s.f with pos:=y.key,past:=true},1⟩)/\(∀y,(s.ps t).hit y->Q 0 ⟨s.a,{s.f with had:=true,old:=y,piece:=if k=1 then 0 else s.f.piece},nx3 s.f k true⟩)/\((s.ps t).miss->Q 0 ⟨s.a,{s.f with had:=false,old:=iI},nx3 s.f k false⟩))\/
 (s.ph=1/\n=0/\k=3/\ ∃i j,(s.f.key.size<1099511627776/\s.f.pos.size<1099511627776/\fM.ok ⟨s.a.p,i,j⟩/\(s.ps t).miss)/\s.f.line=fM.line ⟨s.a.p,i,j⟩/\Q 0 ⟨s.a.Ld (s.a.p.give i j),{s.f with had:=false,old:=iI,line:= -1},6⟩)\/
 (s.ph=2/\k=1/\ ∃ln:Nat,s.f=(ZPr.mk s.a s.f t b ln n).fr n/\(ZPr.mk s.a s.f t b ln n).ok/\(n+1≠spn b.cls->Q (n+1) ⟨s.a,{s.f with piece:=(n+1:Nat)},2⟩)/\(n+1=spn b.cls->Q 0 ⟨s.a,{s.f with piece:=(n+1:Nat),found:=true,ans:=b.value},6⟩))\/
 (s.ph=3/\n=0/\(k=2\/k=3)/\(s.a.p.ok/\s.f.key.size<=16/\s.f.value.size<=400)/\((∀i,i<s.a.p.n->s.a.p.cls i≠ -1/\s.a.p.full ((s.ps t).nd k) i)->Q 0 ⟨s.a,{s.f with cls:=(s.ps t).nd k,code:=4},6⟩)/\
  ∀i j:Nat,s.a.p.takes ((s.ps t).nd k) i j->Q 0 ⟨s.a.Ld (s.a.p.take ((s.ps t).nd k) i j),{s.f with cls:=(s.ps t).nd k,line:=2+i*8+j*spn ((s.ps t).nd k),piece:=0},4⟩)\/
 (s.ph=4/\n=0/\ ∃ln p:Nat,(k=2\/k=3/\p=0)/\s.f=(ZPw.mk s.a s.f t ln s.f.cls p).fr p/\(ZPw.mk s.a s.f t ln s.f.cls p).ok/\(p+1≠spn s.f.cls->Q 0 ⟨s.a.Fz (ZPw.mk s.a s.f t ln s.f.cls p).d',{s.f with piece:=(p+1:Nat)},4⟩)/\(p+1=spn s.f.cls->Q 0 ⟨s.a.Fz (ZPw.mk s.a s.f t ln s.f.cls p).d',{s.f with piece:=0},5⟩))\/
 (s.ph=5/\n=0/\(k=2\/k=3/\s.f.had=true)/\ ∃ln:Nat,s.f.line=ln/\((s.pp t ln).pt k).ok k s.f.had/\Q 0 ⟨((s.pp t ln).pt k).cg.res k s.f.had,{s.f with found:=s.f.had,aep:=s.f.epoch,line:= -1},6⟩)\/
 (s.ph=5/\n=0/\(k=2\/k=3/\s.f.had=true)/\ ∃ln:Nat,s.f.line=ln/\((s.pp t ln).pt k).bad s.f.had/\Q 0 ⟨s.a,{s.f with epoch:=s.a.c.now,pos:=emp,past:=false,had:=false,old:=iI},1⟩)\/
 (s.ph=6/\n=0/\(s.a.r.ok/\t<s.a.r.t)/\Q 0 ⟨s.a.Fv t 0,s.f,7⟩)\/
 (s.ph=7/\n=0/\Q 0 s)
structure ZWk where
 s:ZKs
 t:Nat
 b:ZBlk
 n:Nat
 q:Nat->ZKs->Prop
noncomputable def Rf(k:Int):Ctr:={X:=ZWk,args:=λx=>[.ptr 0 0,i64 x.t,x.s.f.av k x.s.ph gY],k:=1,os:=λx=>[.abs (ownM x.s.a.os)],pre:=λx=>Hd (x.n=0/\wP k x.t x.b 0 x.s x.q),outs:=[
 {Y:=ZKs,post:=λx y=>Hd (x.q 0 y),ret:=λ_ y=>y.f.av k y.ph gY,m:=1,os:=λ_ y=>[.abs (ownM y.a.os)]},
 {Y:=ZKs,post:=λx y=>Hd (x.q 1 y/\y.ph=2/\k=1),ret:=λ_ y=>y.f.av k 2 (.slW 1 0 1 64),m:=2,os:=λx y=>[.abs (ownM y.a.os),abg x.b.enc 64]}]}
noncomputable def Rh(k:Int):Ctr:={X:=ZWk,args:=λx=>[.ptr 0 0,i64 x.t,x.s.f.av k x.s.ph gY],k:=1,os:=λx=>[.abs (ownM x.s.a.os)],pre:=λx=>Hd (x.n=0/\wP k x.t x.b 0 x.s x.q),outs:=[
 {Y:=ZKs,post:=λx y=>Hd (x.q 0 y),ret:=λ_ y=>y.f.av k y.ph gY,m:=1,os:=λ_ y=>[.abs (ownM y.a.os)]}]}
noncomputable def ank:Ctr:={X:=ZWk,args:=λx=>[.ptr 0 0,i64 x.t,x.s.f.av 1 2 (.slW 1 0 1 (64*x.n))],k:=2,os:=λx=>[.abs (ownM x.s.a.os),abg x.b.enc (64*x.n)],pre:=λx=>Hd (x.n≠0/\x.s.ph=2/\wP 1 x.t x.b x.n x.s x.q),outs:=[
 {Y:=ZKs,post:=λx y=>Hd (x.q 0 y),ret:=λ_ y=>y.f.av 1 y.ph gY,m:=2,os:=λx y=>[.abs (ownM y.a.os),abg x.b.enc (64*x.n)]},
 {Y:=ZKs,post:=λx y=>Hd (x.q (x.n+1) y/\y.ph=2),ret:=λx y=>y.f.av 1 2 (.slW 2 0 1 (64*(x.n+1))),m:=3,os:=λx y=>[.abs (ownM y.a.os),abg x.b.enc (64*x.n),abg x.b.enc (64*(x.n+1))]}]}
theorem ar8{X:Type}{x:X}{v:AV}{h':Heap}{o p q:Out X}(h:lK x v h' [o,p,q]):(∃y,o.post x y/\v=o.ret x y/\h'=hO o.m (o.os x y))\/(∃y,p.post x y/\v=p.ret x y/\h'=hO p.m (p.os x y))\/ ∃y,q.post x y/\v=q.ret x y/\h'=hO q.m (q.os x y):=by
 rw[dU]at h;rcases h with h|h
 ·exact .inl h
 ·exact .inr (qG h)
theorem ZA{k:Int}(hen:bZ Tryz.prog 34 (pR k).ctr)(hfi:bZ Tryz.prog 34 (rO k).ctr)(hgi:k=3->bZ Tryz.prog 34 ar2.ctr)(hre:k=1->bZ Tryz.prog 34 QZ.ctr)(hta:k=2\/k=3->bZ Tryz.prog 34 (QY k).ctr)(hwr:k=2\/k=3->bZ Tryz.prog 34 (EM k).ctr)(hw1:k=2->bZ Tryz.prog 34 EN.ctr)(hpu: ∀had,k=2\/k=3/\had=true->bZ Tryz.prog 34 (Le k had))(hrt: ∀had,k=2\/k=3/\had=true->bZ Tryz.prog 34 (Lh k had).ctr)(hle:bZ Tryz.prog 34 (pU k).ctr)(hdo:bZ Tryz.prog 34 (yu k)):bZ Tryz.prog 34 (Rf k):=jS λx hx=>by
 obtain⟨⟨a,f,ph⟩,t,b,n,q⟩:=x;obtain⟨hn,hx⟩:=aZ.1 hx;have hn:n=0:=hn;subst hn;rcases hx with ⟨hp,_,h,q1,q2⟩|⟨hp,_,h,q1,q2,q3⟩|⟨hp,_,h3,i,j,h,hl,q1⟩|⟨hp,h1,ln,hf,h,q1,q2⟩|⟨hp,_,h3,h,q1,q2⟩|⟨hp,_,ln,p,h3,hf,h,q1,q2⟩|⟨hp,_,h3,ln,hl,h,q1⟩|⟨hp,_,h3,ln,hl,h,q1⟩|⟨hp,_,h,q1⟩|⟨hp,_,q1⟩
 all_goals (have hp:ph=_:=hp;subst hp)
 ·refine⟨_,hen,rfl,⟨a,f,t⟩,aZ.2 h,rfl,rfl,λv h' hh=> ?_⟩
  rcases qG hh with ⟨y,h0,e1,e2⟩|⟨y,h0,e1,e2⟩
  ·exact fE ⟨⟨a,_,7⟩,aZ.2 (q1 (aZ.1 h0)),e1,e2⟩
  ·exact fE ⟨⟨a.Fv t a.r.now,{f with epoch:=a.c.now},1⟩,aZ.2 (q2 (aZ.1 h0)),e1,e2⟩
 ·refine⟨_,hfi,rfl,⟨a,f,t⟩,aZ.2 h,rfl,rfl,λv h' hh=> ?_⟩
  rcases ar8 hh with ⟨y,h0,e1,e2⟩|⟨y,h0,e1,e2⟩|⟨y,h0,e1,e2⟩
  ·exact fE ⟨⟨a,{f with pos:=y.key,past:=true},1⟩,aZ.2 (q1 y (aZ.1 h0)),e1,e2⟩
  ·exact fE ⟨⟨a,_,_⟩,aZ.2 (q2 y (aZ.1 h0)),e1,e2⟩
  ·exact fE ⟨⟨a,_,_⟩,aZ.2 (q3 (aZ.1 h0)),e1,e2⟩
 ·subst h3
  have hl:f.line=fM.line ⟨a.p,i,j⟩:=hl;have hf:f={f with line:=fM.line ⟨a.p,i,j⟩}:=by rw[<-hl]
  refine⟨_,hgi rfl,rfl,⟨a,f,t,i,j⟩,aZ.2 h,by show [_,_,_]=[_,_,_];rw[hf];first|done|rfl,rfl,λv h' hh=> ?_⟩;obtain⟨y,h0,e1,e2⟩:=jT hh;exact fE ⟨⟨a.Ld (a.p.give i j),{f with had:=false,old:=iI,line:= -1},6⟩,aZ.2 q1,e1,e2⟩
 ·subst h1
  have hf:f=(ZPr.mk a f t b ln 0).fr 0:=hf;refine⟨_,hre rfl,rfl,⟨a,f,t,b,ln,0⟩,aZ.2 ⟨h,rfl⟩,by show [_,_,_]=[_,_,_];rw[hf];first|done|rfl,rfl,λv h' hh=> ?_⟩;rcases qG hh with ⟨y,h0,e1,e2⟩|⟨y,h0,e1,e2⟩
  ·exact D7 ⟨⟨a,{f with piece:=(1:Nat)},2⟩,aZ.2 ⟨q1 (aZ.1 h0),rfl,rfl⟩,e1.trans (by rw[hf];first|done|rfl),e2⟩
  ·exact fE ⟨⟨a,{f with piece:=(1:Nat),found:=true,ans:=b.value},6⟩,aZ.2 (q2 (aZ.1 h0)),e1.trans (by rw[hf];first|done|rfl),e2⟩
 ·refine⟨_,hta h3,rfl,⟨a,f,t⟩,aZ.2 h,rfl,rfl,λv h' hh=> ?_⟩
  rcases qG hh with ⟨y,h0,e1,e2⟩|⟨y,h0,e1,e2⟩
  ·exact fE ⟨⟨a,_,6⟩,aZ.2 (q1 (aZ.1 h0)),e1,e2⟩
  ·exact fE ⟨⟨_,_,4⟩,aZ.2 (q2 _ _ (aZ.1 h0)),e1,e2⟩
 ·have hf:f={f with line:=(ln:Int),cls:=f.cls,piece:=(p:Int)}:=hf
  by_cases h0:p=0
  ·subst h0
   refine⟨_,hwr (h3.imp id And.left),rfl,⟨a,f,t,ln,f.cls,0⟩,aZ.2 ⟨h,rfl⟩,by show [_,_,_]=[_,_,_];rw[hf];first|done|rfl,rfl,λv h' hh=> ?_⟩;rcases qG hh with ⟨y,h0,e1,e2⟩|⟨y,h0,e1,e2⟩
   ·exact fE ⟨⟨a.Fz (ZPw.mk a f t ln f.cls 0).d',{f with piece:=(1:Nat)},4⟩,aZ.2 (q1 (aZ.1 h0)),e1.trans (by rw[hf];first|done|rfl),e2⟩
   ·exact fE ⟨⟨a.Fz (ZPw.mk a f t ln f.cls 0).d',{f with piece:=0},5⟩,aZ.2 (q2 (aZ.1 h0)),e1.trans (by rw[hf];first|done|rfl),e2⟩
  ·have h2:k=2:=h3.resolve_right λh=>h0 h.2
   subst h2;refine⟨_,hw1 rfl,rfl,⟨a,f,t,ln,f.cls,p⟩,aZ.2 ⟨h,h0⟩,by show [_,_,_]=[_,_,_];rw[hf];first|done|rfl,rfl,λv h' hh=> ?_⟩;rcases qG hh with ⟨y,h0,e1,e2⟩|⟨y,h0,e1,e2⟩
   ·exact fE ⟨⟨a.Fz (ZPw.mk a f t ln f.cls p).d',{f with piece:=(p+1:Nat)},4⟩,aZ.2 (q1 (aZ.1 h0)),e1.trans (by rw[hf];first|done|rfl),e2⟩
   ·exact fE ⟨⟨a.Fz (ZPw.mk a f t ln f.cls p).d',{f with piece:=0},5⟩,aZ.2 (q2 (aZ.1 h0)),e1.trans (by rw[hf];first|done|rfl),e2⟩
 ·have hf:f={f with had:=f.had,line:=(ln:Int)}:=by
   have hl:f.line=ln:=hl;rw[<-hl]
  refine⟨_,hpu f.had h3,rfl,⟨a,f,t,ln⟩,aZ.2 h,by show [_,_,_]=[_,_,_];rw[hf];first|done|rfl,rfl,λv h' hh=> ?_⟩;obtain⟨y,h0,e1,e2⟩:=jT hh;exact fE ⟨⟨_,{f with found:=f.had,aep:=f.epoch,line:= -1},6⟩,aZ.2 q1,e1,e2⟩
 ·have hf:f={f with had:=f.had,line:=(ln:Int)}:=by
   have hl:f.line=ln:=hl;rw[<-hl]
  refine⟨_,hrt f.had h3,rfl,⟨a,f,t,ln⟩,aZ.2 h,by show [_,_,_]=[_,_,_];rw[hf];first|done|rfl,rfl,λv h' hh=> ?_⟩;obtain⟨y,h0,e1,e2⟩:=jT hh;exact fE ⟨⟨a,{f with epoch:=a.c.now,pos:=emp,past:=false,had:=false,old:=iI},1⟩,aZ.2 q1,e1.trans (by rw[hf];first|done|rfl),e2⟩
 ·refine⟨_,hle,rfl,⟨a,f,t⟩,aZ.2 h,rfl,rfl,λv h' hh=> ?_⟩
  obtain⟨y,h0,e1,e2⟩:=jT hh;exact fE ⟨⟨a.Fv t 0,f,7⟩,aZ.2 q1,e1,e2⟩
 ·refine⟨_,hdo,rfl,⟨a,f,t⟩,aZ.2 trivial,rfl,rfl,λv h' hh=> ?_⟩
  obtain⟨y,h0,e1,e2⟩:=jT hh;exact fE ⟨⟨a,f,7⟩,aZ.2 q1,e1,e2⟩
theorem acv:bZ Tryz.prog 34 (Rf 1):=ZA acf aiw (λh=>by omega) (λ_=>aii) (λh=>by omega) (λh=>by omega) (λh=>by omega) (λ_ h=>by omega) (λ_ h=>by omega) acg aip
theorem acw:bZ Tryz.prog 34 (Rf 2):=ZA ach aix (λh=>by omega) (λh=>by omega) (λ_=>aie) (λ_=>Xi) (λ_=>aco) (λhad _=>match had with
 |false=>aik
 |true=>ain) (λhad _=>match had with
 |false=>ail
 |true=>aio) aci aiq
theorem aiy{k:Int}(hk:k=2\/k=3)(h0:bZ Tryz.prog 34 (Rf k)):bZ Tryz.prog 34 (Rh k):=jS λx hx=>by
 refine⟨_,h0,rfl,x,hx,rfl,rfl,λv h' hh=> ?_⟩;rcases qG hh with ⟨y,h0,e1,e2⟩|⟨y,h0,e1,e2⟩
 ·exact fE ⟨y,h0,e1,e2⟩
 ·have:=(aZ.1 h0).2.2
  omega
theorem Ik:bZ Tryz.prog 34 (Rh 2):=aiy (.inl rfl) acw
theorem aiz:bZ Tryz.prog 34 ank:=jS λx hx=>by
 obtain⟨⟨a,f,ph⟩,t,b,n,q⟩:=x;obtain⟨hn,hp,hx⟩:=aZ.1 hx;have hn:n≠0:=hn;have hp:ph=2:=hp;subst hp;rcases hx with ⟨hp,_⟩|⟨hp,_⟩|⟨hp,_⟩|⟨hp,_,ln,hf,h,q1,q2⟩|⟨hp,_⟩|⟨hp,_⟩|⟨hp,_⟩|⟨hp,_⟩|⟨hp,_⟩|⟨hp,_⟩
 all_goals try exact absurd hp (by show¬(2:Int)=_;decide)
 have hf:f=(ZPr.mk a f t b ln n).fr n:=hf;refine⟨_,aij,rfl,⟨a,f,t,b,ln,n⟩,aZ.2 ⟨h,hn⟩,by show [_,_,_]=[_,_,_];rw[hf];first|done|rfl,rfl,λv h' hh=> ?_⟩;rcases qG hh with ⟨y,h0,e1,e2⟩|⟨y,h0,e1,e2⟩
 ·exact D7 ⟨⟨a,{f with piece:=(n+1:Nat)},2⟩,aZ.2 ⟨q1 (aZ.1 h0),rfl⟩,e1.trans (by rw[hf];first|done|rfl),e2⟩
 ·exact fE ⟨⟨a,{f with piece:=(n+1:Nat),found:=true,ans:=b.value},6⟩,aZ.2 (q2 (aZ.1 h0)),e1.trans (by rw[hf];first|done|rfl),e2⟩


theorem MJ{p:ZPool}(hp:p.good){L:Int}{i j:Nat}(h:p.at_ L i j):2<=L/\L+spn (p.cls i)<=2+p.n*8/\0<=p.cls i/\p.cls i<=3:=by
 obtain⟨h1,h2,h3,h4,h5⟩:=h;have h6:=(hp.1.2.2 i h1).2.1;refine⟨?_,?_,h2,h6⟩
 all_goals (rcases gG (p.cls i)with m|m|m|m|m<;>obtain⟨m1,m2,m3⟩:=m<;>rw[m2]at h5<;>(try rw[m2])<;>omega)
theorem Fb{p:ZPool}(hp:p.good){L L':Int}{i j i' j':Nat}(h:p.at_ L i j)(h':p.at_ L' i' j')(hne:L≠L'):L+spn (p.cls i)<=L'\/L'+spn (p.cls i')<=L:=by
 obtain⟨a1,a2,a3,a4,a5⟩:=h;obtain⟨b1,b2,b3,b4,b5⟩:=h';have a6:=(hp.1.2.2 i a1).2.1;have b6:=(hp.1.2.2 i' b1).2.1;by_cases e:i=i'
 ·subst e
  have hj:j≠j':=λe=>by subst e;exact hne (a5.trans b5.symm)
  rcases gG (p.cls i)with m|m|m|m|m<;>obtain⟨m1,m2,m3⟩:=m<;>rw[m2]at a5 b5 ⊢<;>omega
 ·rcases gG (p.cls i)with m|m|m|m|m<;>rcases gG (p.cls i')with m'|m'|m'|m'|m'<;>obtain⟨m1,m2,m3⟩:=m<;>obtain⟨m1',m2',m3'⟩:=m'<;>rw[m2]at a5<;>rw[m2']at b5<;>rw[m2,m2']<;>omega
def Hold(a:UY)(ln:Nat)(c:Int):Prop:=(∃i j,a.p.at_ ln i j/\a.p.cls i=c)/\(¬acH.inL ⟨a.b,a.l,ln⟩)/\ ¬acH.inB ⟨a.b,a.l,ln⟩
section
variable{a:UY}{T M:Nat}{b:Nat->ZBlk}
end
theorem aiA{n:Nat}(h:n<=416):0<=ned n/\ned n<=3:=by
 unfold ned
 repeat' split
 all_goals omega
theorem al7{L:Lks}{i:Nat}(h:i<L.length):nthL L i∈L:=by
 unfold nthL;rw[List.getD_eq_getElem?_getD,List.getElem?_eq_getElem h];exact List.getElem_mem h
def PBy(d:DevM)(b:ZBlk)(ln:Nat):Prop:=b.may/\b.kind=1/\ln+spn b.cls<=d.n/\ ∀q,q<64*b.dK->d.b ((ln+q/64)*193+q%64)=b.enc q
structure eG (a:ZSto) (T M N:Nat) (B:ByteArray->ZBlk):Prop where
 dok:a.d.ok
 dst:a.d.st<=M
 dfl:a.d.fl<=M
 dfe:a.d.fe<=M
 rok:a.r.ok
 rt:a.r.t=T
 cok:a.c.ok
 ct:a.c.t=T
 ph:a.ph=0
 OL:a.c.OL=0
 pg:a.p.good
 fit:2+a.p.n*8<=a.d.n
 bok:a.b.ok
 lok:a.l.ok
 ln:a.l.n=0
 srt:srt a.L
 len:a.L.length<=N
 id0:0<=a.id
 id1:a.id<=M
 v0:0<=a.ver
 v1:a.ver<=M
 nn:a.n<=M
 now0:1<=a.c.now
 ar9:a.c.now<=M
 owed: ∀k,a.c.o k<=M
 used: ∀K:Int,2<=K->((∃y∈a.L,y.line=K)\/acH.inB ⟨a.b,a.l,K⟩)->a.p.has K
 q: ∀y∈a.L,∃ln:Nat,y.line=ln/\(B y.key).key=y.key/\(B y.key).id=y.id/\(B y.key).ver=y.ver/\(B y.key).cls=y.cls/\PBy a.d (B y.key) ln/\ ∃i j,a.p.at_ ln i j/\a.p.cls i=y.cls
def iC(a:ZSto)(K:Nat)(c:Int):Prop:=(∃i j,a.p.at_ K i j/\a.p.cls i=c)/\(∀y∈a.L,y.line≠K)/\ ¬acH.inB ⟨a.b,a.l,K⟩
def MK(d:DevM)(ln:Nat)(key v:ByteArray)(n:Nat):Prop:= ∀m r:Nat,1<=m->m<n->r<64->d.b ((ln+m)*193+r)=(ZBlk.mk 0 1 0 0 0 key v).enc (64*m+r)
def updB(B:ByteArray->ZBlk)(s:ByteArray)(b:ZBlk):ByteArray->ZBlk:=λk=>if k=s then b else B k
section
variable{a:ZSto}{T M N:Nat}{B:ByteArray->ZBlk}
theorem eG.up(g:eG a T M N B){M' N':Nat}(h:M<=M')(hN:N<=N'):eG a T M' N' B:=
 {g with dst:=by have:=g.dst;omega,dfl:=by have:=g.dfl;omega,dfe:=by have:=g.dfe;omega,len:=Nat.le_trans g.len hN,id1:=by have:=g.id1;omega,v1:=by have:=g.v1;omega,nn:=by have:=g.nn;omega,ar9:=by have:=g.ar9;omega,owed:=λk=>by have:=g.owed k;omega}
theorem iC.fits{K:Nat}{c:Int}(h:iC a K c)(g:eG a T M N B):2<=K/\(K:Int)+spn c<=a.d.n/\0<=c/\c<=3/\K<258/\a.d.n<=258:=by
 obtain⟨⟨i,j,h1,rfl⟩,_⟩:=h;obtain⟨f1,f2,f3,f4⟩:=MJ g.pg h1;have:=g.fit;have:=g.dok.1;have s:=dM (a.p.cls i);refine⟨by omega,by omega,f3,f4,by omega,this⟩
theorem iC.apart{K:Nat}{c:Int}(h:iC a K c)(g:eG a T M N B){y:ZLnk}(hy:y∈a.L){ln:Nat}(hl:y.line=ln):ln+(B y.key).dK<=K\/K+(spn c).toNat<=ln:=by
 obtain⟨⟨i,j,h1,rfl⟩,h2,_⟩:=h;obtain⟨ln',q1,_,_,_,q5,_,i',j',q2,q3⟩:=g.q y hy;have e:(ln':Int)=ln:=by rw[<-hl,q1]
 have e:ln'=ln:=by omega
 subst e;have hne:(ln':Int)≠K:=λe=>h2 y hy (by rw[hl,e])
 have:=Fb g.pg q2 h1 hne;rw[q3,<-q5]at this;have s:=uV (B y.key);have s2:=dM (a.p.cls i);omega
theorem PBy.keep{d d':DevM}{b:ZBlk}{ln:Nat}(h:PBy d b ln)(h2:d'.n=d.n){L n:Nat}(h0:2<=ln)(hb: ∀m r:Nat,2<=m->r<64-> ¬(L<=m/\m<L+n)->d'.b (m*193+r)=d.b (m*193+r))(hs:ln+b.dK<=L\/L+n<=ln):PBy d' b ln:=by
 obtain⟨q3,q4,q5,q6⟩:=h;refine⟨q3,q4,by rw[h2];exact q5,λq hq=> ?_⟩;rw[hb _ _ (by omega) (by omega) (by omega)];exact q6 q hq
theorem eG.dev(g:eG a T M N B){d':DevM}{M':Nat}(hM:M<=M')(h1:d'.ok)(h2:d'.n=a.d.n)(h3:d'.st<=M')(h4:d'.fl<=M')(h5:d'.fe<=M'){L n:Nat}(hb: ∀m r:Nat,2<=m->r<64-> ¬(L<=m/\m<L+n)->d'.b (m*193+r)=a.d.b (m*193+r))
  (hs: ∀y∈a.L,∀ln:Nat,y.line=ln->ln+(B y.key).dK<=L\/L+n<=ln):eG (a.Fz d') T M' N B:=by
 have g':=g.up hM (aY N);refine{g' with dok:=h1,dst:=h3,dfl:=h4,dfe:=h5,fit:=by show 2+a.p.n*8<=d'.n;rw[h2];exact g.fit,q:=λy hy=> ?_};obtain⟨ln,q1,k1,k2,k3,k4,q2,i',j',q7,q8⟩:=g.q y hy;have hf:=MJ g.pg q7;exact⟨ln,q1,k1,k2,k3,k4,q2.keep h2 (by omega) hb (hs y hy ln q1),i',j',q7,q8⟩
theorem eG.write(g:eG a T M N B)(hM:M<=1000000){K:Nat}{c:Int}(h:iC a K c){t:Nat}{f:ZFp}(hk:f.key.size<=16)(hv:f.value.size<=400){p:Nat}(hp:(p:Int)<spn c):
  (ZPw.mk a f t K c p).ok/\eG (a.Fz (ZPw.mk a f t K c p).d') T (M+20) N B/\(MK a.d K f.key f.value p->MK (ZPw.mk a f t K c p).d' K f.key f.value (p+1))/\ ∀m r:Nat,r<64-> ¬(K<=m/\m<K+(spn c).toNat)->(ZPw.mk a f t K c p).d'.b (m*193+r)=a.d.b (m*193+r):=by
 obtain⟨f1,f2,f3,f4,f5,f6⟩:=h.fits g;have hs:=dM c;have d1:=g.dst;have d2:=g.dfl;have d3:=g.dfe;have hd:=g.dok;have w:(ZPw.mk a f t K c p).ok:=⟨hd,f3,f4,f2,hp,hk,hv,by show a.d.st+10<_;omega⟩;have key: ∃g0:Nat->Int,(∀q,0<=g0 q/\g0 q<256)/\(ZPw.mk a f t K c p).d'=a.d.store (K+p) 0 64 g0/\(1<=p-> ∀r,g0 r=(ZBlk.mk c 1 0 0 0 f.key f.value).enc (64*p+r)):=by
  unfold ZPw.d';by_cases e:p=0
  ·subst e
   rw[if_pos rfl];exact⟨_,Y6 ⟨f3,f4⟩,rfl,λh=>absurd h (by decide)⟩
  ·rw[if_neg e]
   exact⟨_,λq=>agy _ (by show 64<=64*p+q;omega),rfl,λ_ r=>rfl⟩
 obtain⟨g0,k1,k2,k3⟩:=key;have hb: ∀m r:Nat,r<64-> ¬(K<=m/\m<K+(spn c).toNat)->(a.d.store (K+p) 0 64 g0).b (m*193+r)=a.d.b (m*193+r):=λm r hr hm=>by
  rw[yZ _ _ _ _ _ hr,if_neg (by omega)]
 rw[k2];refine⟨w,g.dev (by omega) (DevM.tK hd _ _ _ k1 (by omega)) rfl (by show a.d.st+1<=_;omega) (by show a.d.fl<=_;omega) (by show a.d.fe<=_;omega) (L:=K) (n:=(spn c).toNat) (λm r _ hr hm=>hb m r hr hm) (λy hy ln hl=>h.apart g hy hl),λhdat m r h1 h2 h3=> ?_,hb⟩;rw[yZ _ _ _ _ _ h3];by_cases e:m=p
 ·subst e
  rw[if_pos rfl,k3 h1];exact agE (x:=ZBlk.mk c 1 0 0 0 f.key f.value) (y:=ZBlk.mk 0 1 0 0 0 f.key f.value) rfl rfl (by omega)
 ·rw[if_neg (by omega)]
  exact hdat m r h1 (by omega) h3
theorem eG.take(g:eG a T M N B){c:Int}(hc:0<=c/\c<=3){i j:Nat}(h:a.p.takes c i j): ∃K:Nat,(K:Int)=2+i*8+j*spn c/\eG (a.Ld (a.p.take c i j)) T M N B/\iC (a.Ld (a.p.take c i j)) K c/\ ¬a.p.has K:=by
 obtain⟨l1,l2⟩:=abl g.pg hc h;obtain⟨n1,n2⟩:=at_new g.pg hc.1 h;have no:=akL g.pg hc h;refine⟨2+i*8+j*(spn c).toNat,l1,?_,⟨⟨i,j,by rw[l1];exact n1,n2⟩,λy hy e=> ?_,λhu=> ?_⟩,by rw[l1];exact no⟩
 ·refine{g with pg:=agC g.pg hc h,used:=λL hL hu=>akM (take_at g.pg h) (g.used L hL hu),q:=λy hy=> ?_}
  obtain⟨ln,q1,k1,k2,k3,k4,q2,i',j',q7,q8⟩:=g.q y hy;obtain⟨q9,q10⟩:=take_at g.pg h _ _ _ q7;exact⟨ln,q1,k1,k2,k3,k4,q2,i',j',q9,q10.trans q8⟩
 ·exact no (l1▸g.used _ (by omega) (.inl ⟨y,hy,e⟩))
 ·exact no (l1▸g.used _ (by omega) (.inr hu))
theorem iC.take{K:Nat}{c0:Int}(hh:iC a K c0)(g:eG a T M N B){c:Int}{i j:Nat}(h:a.p.takes c i j):iC (a.Ld (a.p.take c i j)) K c0:=by
 obtain⟨⟨i',j',h1,h2⟩,h3⟩:=hh;obtain⟨q1,q2⟩:=take_at g.pg h _ _ _ h1;exact⟨⟨i',j',q1,q2.trans h2⟩,h3⟩
theorem eG.Fv(g:eG a T M N B){t:Nat}{v:Int}:eG (a.Fv t v) T M N B:={g with rok:=g.rok,rt:=g.rt}
end
section
variable{a:ZSto}{T M N:Nat}{B:ByteArray->ZBlk}
theorem ap1{b:ZBlk}(h:b.may)(hk:b.kind=1):1<=b.id/\b.id<=2305843009213693952:=by
 rcases h.2 with h|h|h|h
 ·exfalso;have:=h.1;omega
 ·exact h.2.2.2.2.2.1
 ·exfalso;have:=h.1;omega
 ·exfalso;have:=h.1;omega
theorem eG.old(g:eG a T M N B){y:ZLnk}(hy:y∈a.L):(1<=y.id/\y.id<=2305843009213693952)/\2<=y.line/\y.line<258/\0<=y.cls/\y.cls<=3/\ ∃i j,a.p.at_ y.line i j:=by
 obtain⟨ln,q1,k1,k2,k3,k4,q2,i,j,q7,q8⟩:=g.q y hy;obtain⟨g1,g2,g3,g4⟩:=MJ g.pg q7;have hfit:=g.fit;have:=g.dok.1;have hs:=dM (a.p.cls i);have hn:=ap1 q2.1 q2.2.1;refine⟨by rw[<-k2];exact hn,by omega,by omega,by omega,by omega,i,j,by rw[q1];exact q7⟩
theorem al8{x:ZPt}{K:Nat}(h:iC x.a K x.x.cls)(hk:x.ln=K): ∃i j,x.inP i j/\x.a.p.cls i=x.x.cls:=by
 obtain⟨⟨i,j,⟨a1,a2,a3,a4,a5⟩,h2⟩,_⟩:=h;exact⟨i,j,⟨a1,a2,a3,a4,by rw[hk];exact a5⟩,h2⟩
theorem ap2{x:ZPt}{K:Nat}(hk:x.ln=K)(hl:x.a.l.n=0)(h:iC x.a K x.x.cls): ¬x.us.used:=by
 subst hk
 rintro (⟨i,hi,h1⟩|⟨i,hi,_⟩|h1)
 ·exact h.2.1 _ (al7 hi) h1
 ·have hi:i<x.a.l.n:=hi
  omega
 ·exact h.2.2 h1
theorem Il(c:iM)(t:Nat)(L:Int): ∀n,(c.notes t L n).OL=c.OL
 |0=>rfl
 |n+1=>Il c t L n
theorem eG.put(g:eG a T M N B)(hM:M<=1000000)(hN:N<=200){t K:Nat}(ht:t<T){f:ZFp}{had:Bool}(h:iC a K f.cls)(hk0:f.key.size≠0)(hk:f.key.size<=16)(hv:f.value.size<=400)(hc:f.cls=ned ((f.key.size+f.value.size:Nat):Int))(he:f.epoch=a.c.now)
  (hw:fF a.L f.key=if had=true then some f.old else none) (hd:MK a.d K f.key f.value (spn f.cls).toNat):
  ((ZPp.mk a f t K).pt 2).ok 2 had/\eG (((ZPp.mk a f t K).pt 2).cg.res 2 had) T (M+20) (N+1) (updB B f.key (((ZPp.mk a f t K).pt 2).cg.blk 2 had)):=by
 obtain⟨f1,f2,f3,f4,f5,f6⟩:=h.fits g;have hs:=dM f.cls;have e1:=g.id0;have e2:=g.id1;have e3:=g.v0;have e4:=g.v1;have e5:=g.nn;have e6:=g.now0;have e7:=g.ar9;have e8:=g.dst;have e9:=g.dfl;have e10:=g.dfe;have e11:=g.len;have ho:=g.owed;generalize hP:(ZPp.mk a f t K).pt 2=P;subst hP;let C:ZCg:=((ZPp.mk a f t K).pt 2).cg
 let b:ZBlk:=C.blk 2 had
 have hb:b=⟨f.cls,1,C.idP had,a.ver+1,f.epoch,f.key,f.value⟩:=if_pos rfl;let l:ZLnk:=C.lnk 2 had
 have hl:l=⟨f.key,C.idP had,a.ver+1,K,f.cls⟩:=by show ZLnk.mk b.key b.id (a.ver+1) K b.cls=_;rw[hb]
 have hold:had=true->f.old∈a.L/\f.old.key=f.key:=λe=>by
  rw[if_pos e]at hw;exact lQ hw
 have hid:1<=C.idP had/\C.idP had<=2305843009213693952:=by
  show 1<=(bif had then f.old.id else a.id+1)/\_;cases had
  ·show 1<=a.id+1/\a.id+1<=_;omega
  ·exact(g.old (hold rfl).1).1
 have hbm:b.may:=by
  rw[hb];refine⟨Qd ⟨f3,f4⟩,.inr (.inl ⟨rfl,by show 1<=f.key.size;omega,hk,hv,hc.symm,hid,?_,?_⟩)⟩
  ·show 1<=a.ver+1/\a.ver+1<=2305843009213693952;omega
  ·show 1<=f.epoch/\f.epoch<=2305843009213693952;omega
 have hsl:(iW a.L l).length<=a.L.length+1:=Zd;have hbs:b.dK=(spn f.cls).toNat:=by rw[hb];rfl
 have hent:had=true->(C.ent 2).may:=λe=>by
  obtain⟨_,o1,o2,o3,o4,_⟩:=g.old (hold e).1;exact⟨o1,o2,o3,o4,by show(-1:Int)<= -1;decide,by show(-1:Int)<258;decide⟩
 refine⟨⟨⟨g.dok,g.cok,by show a.ph<=4;rw[g.ph];decide,by show t<a.c.t;rw[g.ct];exact ht,by show K<a.d.n;omega,f6,hbm,by show f.key.size<_;omega,by show f.value.size<_;omega,e3,by show a.ver<_;omega,e1,by show a.id<_;omega,Int.le_refl 0,show(0:Int)<1152921504606846977 by decide,by show a.n<_;omega,λk=>by have:=ho k;show a.c.o k+8<_;omega,λe=>⟨g.bok,g.rok,hent e⟩,λ_=>by show(iW a.L l).length<=258;omega,λe=>absurd e (by decide)⟩,
  hw,he.symm,g.pg.1,g.bok,g.lok,by show a.l.n<_;rw[g.ln];decide,by show a.L.length<=300;omega,al8 (x:=(ZPp.mk a f t K).pt 2) h rfl,ap2 (x:=(ZPp.mk a f t K).pt 2) rfl g.ln h,λe=>absurd rfl e⟩,?_⟩
 let D:DevM:=a.d.store K 0 64 b.enc
 have hDb: ∀m r:Nat,r<64-> ¬(K<=m/\m<K+(spn f.cls).toNat)->D.b (m*193+r)=a.d.b (m*193+r):=λm r hr hm=>by
  show(a.d.store K 0 64 b.enc).b (m*193+r)=_;rw[yZ _ _ _ _ _ hr,if_neg (by omega)]
 have hDok:D.ok:=DevM.tK g.dok _ _ _ (xY hbm) (by omega);have gD:eG (a.Fz D) T (M+20) N B:=g.dev (by omega) hDok rfl (by show a.d.st+1<=_;omega) (by show a.d.fl<=_;omega) (by show a.d.fe<=_;omega) (L:=K) (n:=(spn f.cls).toNat) (λm r _ hr hm=>hDb m r hr hm) (λy hy ln hl=>h.apart g hy hl);have hnew:PBy D b K:=by
  refine⟨hbm,by rw[hb],by rw[hb];exact f2,λq hq=> ?_⟩;show(a.d.store K 0 64 b.enc).b ((K+q/64)*193+q%64)=b.enc q;rw[yZ _ _ _ _ _ (by omega)];by_cases e:q/64=0
  ·rw[if_pos (by omega),show q%64=q by omega]
  ·rw[if_neg (by omega),hd (q/64) (q%64) (by omega) (by rw[hbs]at hq;omega) (by omega),show 64*(q/64)+q%64=q by omega]
   exact agE (by rw[hb]) (by rw[hb]) (by omega)
 have hno:=U0 a.c t (K:Int) (λk=>(g.cok.2.2.2.2.2 k).1);have hs8:=(uV b).1;have hR:C.res 2 had={a with d:=D,c:=a.c.notes t (K:Int) b.dK,b:=if had=true then a.b.put (C.ent 2)else a.b,L:=iW a.L l,id:=if had=false then a.id+1 else a.id,ver:=a.ver+1,n:=a.n+1,e:=λi=>if i=a.n then C.eff 2 had else a.e i}:=by
  cases had<;>rfl
 show eG (C.res 2 had) T (M+20) (N+1) (updB B f.key b);rw[hR];obtain⟨⟨i0,j0,hi0,hc0⟩,_⟩:=h;have hup:=gD.up (aY _) (Nat.le_succ N)
 exact{hup with
  cok:=xZ g.cok (λk=>by have:=ho k;omega) _ _ hs8
  ct:=(qJ _ _ _ _).trans g.ct
  OL:=(Il _ _ _ _).trans g.OL
  bok:=by
   show iw.ok (if had=true then a.b.put (C.ent 2)else a.b);split
   ·exact aru g.bok _
   ·exact g.bok
  srt:=tX g.srt
  len:=by show(iW a.L l).length<=N+1;omega
  id0:=by show 0<=(if had=false then a.id+1 else a.id);split<;>omega
  id1:=by show(if had=false then a.id+1 else a.id)<=((M+20:Nat):Int);split<;>omega
  v0:=by show 0<=a.ver+1;omega
  v1:=by show a.ver+1<=((M+20:Nat):Int);omega
  nn:=by show a.n+1<=M+20;omega
  now0:=by show 1<=(a.c.notes t (K:Int) b.dK).now;rw[oP];exact g.now0
  ar9:=by show(a.c.notes t (K:Int) b.dK).now<=_;rw[oP];omega
  owed:=λk=>by show(a.c.notes t (K:Int) b.dK).o k<=_;have:=(hno b.dK k).2;have:=ho k;omega
  used:=λX hX hu=>by
   rcases hu with ⟨y,hy,hh⟩|hu
   ·rcases (fZ g.srt).1 hy with rfl|⟨hy,_⟩
    ·rw[hl]at hh
     have hh:(K:Int)=X:=hh;exact⟨i0,j0,by rw[<-hh];exact hi0⟩
    ·exact g.used X hX (.inl ⟨y,hy,hh⟩)
   ·have hu:acH.inB ⟨if had=true then a.b.put (C.ent 2)else a.b,a.l,X⟩:=hu
    by_cases e:had=true
    ·rw[if_pos e]at hu
     rcases agF hu with hu|hu|hu
     ·exact g.used X hX (.inr hu)
     ·have hu:f.old.line=X:=hu
      obtain⟨_,_,_,_,_,i,j,hat⟩:=g.old (hold e).1;exact⟨i,j,by rw[<-hu];exact hat⟩
     ·have hu:(-1:Int)=X:=hu
      omega
    ·rw[if_neg e]at hu
     exact g.used X hX (.inr hu)
  q:=λy hy=>by
   rcases (fZ g.srt).1 hy with rfl|⟨hy,hne⟩
   ·have e0:updB B f.key b l.key=b:=if_pos (by rw[hl])
    rw[e0];refine⟨K,by rw[hl],by rw[hl,hb],by rw[hl,hb],by rw[hl,hb],by rw[hl,hb],hnew,i0,j0,hi0,by rw[hl];exact hc0⟩
   ·have e0:updB B f.key b y.key=B y.key:=if_neg λe=>hne (by rw[hl];exact e)
    rw[e0]
    exact gD.q y hy}
end
noncomputable def fl(L:Lks)(b:Nat)(pos:ByteArray)(past:Bool)(s:ByteArray):Lks:=L.filter λl=>(decide (bkt l.key=b)&&(!past||kl pos l.key))&&kl l.key s
theorem vG{L:Lks}{b:Nat}{pos:ByteArray}{past:Bool}{y:ZLnk}(h:nextL L b pos past=some y):(bkt y.key=b/\(past=true->kl pos y.key=true))/\ ∃ms bs,L=ms++y::bs/\ ∀x∈ms,(decide (bkt x.key=b)&&(!past||kl pos x.key))=false:=by
 unfold nextL at h;obtain⟨h1,ms,bs,h2,h3⟩:=List.find?_eq_some_iff_append.1 h;rw[aJ,decide_eq_true_eq,Bool.or_eq_true]at h1;refine⟨⟨h1.1,λe=> ?_⟩,ms,bs,h2,λx hx=> ?_⟩
 ·rcases h1.2 with h|h
  ·rw[e]at h;cases h
  ·exact h
 ·have:=h3 x hx
  rwa [Bool.not_eq_true']at this
theorem al9{a b:ByteArray}(h:kl a b=true):kl b a=false:=by
 cases h':kl b a
 ·rfl
 ·exact absurd (jm h h') (by rw[lD];decide)
theorem ap3{L:Lks}(hs:srt L){b:Nat}{pos s:ByteArray}{past:Bool}{y:ZLnk}(h:nextL L b pos past=some y)(hy:kl y.key s=true):(fl L b pos past s).length=(fl L b y.key true s).length+1:=by
 obtain⟨⟨h1,h2⟩,ms,bs,rfl,h3⟩:=vG h;have hp:=List.pairwise_append.1 hs;obtain⟨p1,p2,p3⟩:=hp;have q1:=(List.pairwise_cons.1 p2).1;unfold fl;rw[List.filter_append,List.filter_append,List.filter_cons,List.filter_cons];have e1:ms.filter (λl=>(decide (bkt l.key=b)&&(!past||kl pos l.key))&&kl l.key s)=[]:=List.filter_eq_nil_iff.2 λx hx=>by rw[h3 x hx];simp
 have e2:ms.filter (λl=>(decide (bkt l.key=b)&&(!true||kl y.key l.key))&&kl l.key s)=[]:=List.filter_eq_nil_iff.2 λx hx=>by
  rw[al9 (p3 x hx y (List.mem_cons_self ..))]
  first|done|simp
 have e3:((decide (bkt y.key=b)&&(!past||kl pos y.key))&&kl y.key s)=true:=by
  rw[hy,decide_eq_true h1];cases past
  ·rfl
  ·rw[h2 rfl];rfl
 have e4:((decide (bkt y.key=b)&&(!true||kl y.key y.key))&&kl y.key s)=false:=by rw[lD];simp
 rw[e1,e2,if_pos e3,if_neg (by rw[e4];decide)];have e5:bs.filter (λl=>(decide (bkt l.key=b)&&(!past||kl pos l.key))&&kl l.key s)=bs.filter (λl=>(decide (bkt l.key=b)&&(!true||kl y.key l.key))&&kl l.key s):=List.filter_congr λx hx=>by
  rw[q1 x hx];cases past
  ·rfl
  ·rw[jm (h2 rfl) (q1 x hx)]
 rw[e5];rfl
theorem anl{L:Lks}(hs:srt L){b:Nat}{pos s:ByteArray}{past:Bool}(h: ∀y,nextL L b pos past=some y->kl y.key s=false):(fl L b pos past s).length=0:=by
 rw[List.length_eq_zero_iff];refine List.filter_eq_nil_iff.2 λx hx hh=> ?_
 rw[aJ]at hh;cases e:nextL L b pos past with
 |none=>exact absurd hh.1 (List.find?_eq_none.1 e x hx)
 |some y=>
  obtain⟨_,ms,bs,rfl,h3⟩:=vG e;have hy:=h y e;obtain⟨_,p2,_⟩:=List.pairwise_append.1 hs;have q1:=(List.pairwise_cons.1 p2).1;rcases List.mem_append.1 hx with hx|hx
  ·rw[h3 x hx]at hh;cases hh.1
  ·rcases List.mem_cons.1 hx with rfl|hx
   ·rw[hy]at hh;cases hh.2
   ·rw[jm (q1 x hx) hh.2]at hy;cases hy
theorem acy{L:Lks}(hs:srt L){s pos:ByteArray}{past:Bool}(hp:past=true->kl pos s=true)(h: ∀y,nextL L (bkt s) pos past=some y->kl y.key s=false/\y.key≠s):fF L s=none:=yc λz hz e=>by
 have hz':(decide (bkt z.key=bkt s)&&(!past||kl pos z.key))=true:=by
  rw[e,decide_eq_true rfl];cases past
  ·rfl
  ·rw[hp rfl];rfl
 cases e':nextL L (bkt s) pos past with
 |none=>exact absurd hz' (List.find?_eq_none.1 e' z hz)
 |some y=>
  obtain⟨_,ms,bs,rfl,h3⟩:=vG e';obtain⟨k1,k2⟩:=h y e';obtain⟨_,p2,_⟩:=List.pairwise_append.1 hs;have q1:=(List.pairwise_cons.1 p2).1;rcases List.mem_append.1 hz with hz|hz
  ·rw[h3 z hz]at hz';cases hz'
  ·rcases List.mem_cons.1 hz with rfl|hz
   ·exact k2 e
   ·have:=q1 z hz
    rw[e,k1]at this;cases this
theorem Ri{L:Lks}{b:Nat}{pos:ByteArray}{past:Bool}{y:ZLnk}(h:nextL L b pos past=some y):y∈L:=List.mem_of_find?_eq_some h
section
variable{a:ZSto}{T M N:Nat}{B:ByteArray->ZBlk}
theorem eG.key16(g:eG a T M N B){y:ZLnk}(hy:y∈a.L):1<=y.key.size/\y.key.size<=16:=by
 obtain⟨ln,q1,k1,k2,k3,k4,⟨q2,q3,_⟩,_⟩:=g.q y hy;rw[<-k1];rcases q2.2 with h|h|h|h
 ·exfalso;have:=h.1;omega
 ·exact⟨h.2.1,h.2.2.1⟩
 ·exfalso;have:=h.1;omega
 ·exfalso;have:=h.1;omega
noncomputable def ZKs.acJ(s:ZKs):Nat:=(fl s.a.L (bkt s.f.key) s.f.pos s.f.past s.f.key).length
def ama(f:ZFp):Prop:=f.key.size<=16/\f.pos.size<=16/\(f.past=true->kl f.pos f.key=true)
theorem Fe{s:ZKs}(g:eG s.a T M N B){k:Int}{t:Nat}{b:ZBlk}(hp:s.ph=1)(hf:ama s.f)(hl:k=3->s.f.line<0){Q:Nat->ZKs->Prop}
  (h1: ∀y∈s.a.L,ama {s.f with pos:=y.key,past:=true}->s.acJ=(ZKs.mk s.a {s.f with pos:=y.key,past:=true} 1).acJ+1->Q 0 ⟨s.a,{s.f with pos:=y.key,past:=true},1⟩)
  (h2: ∀y,fF s.a.L s.f.key=some y->s.acJ=0->Q 0 ⟨s.a,{s.f with had:=true,old:=y,piece:=if k=1 then 0 else s.f.piece},nx3 s.f k true⟩)
  (h3:fF s.a.L s.f.key=none->s.acJ=0->Q 0 ⟨s.a,{s.f with had:=false,old:=iI},nx3 s.f k false⟩):wP k t b 0 s Q:=by
 obtain⟨f1,f2,f3⟩:=hf;refine .inr (.inl ⟨hp,rfl,⟨by omega,by omega,λe _=>hl e⟩,λy hy=> ?_,λy hy=> ?_,λhm=> ?_⟩)
 ·have hy1:nextL s.a.L (bkt s.f.key) s.f.pos s.f.past=some y:=hy.1
  have hy2:kl y.key s.f.key=true:=hy.2;have hm:=Ri hy1;exact h1 y hm ⟨f1,(g.key16 hm).2,λ_=>hy2⟩ (ap3 g.srt hy1 hy2)
 ·have hy1:nextL s.a.L (bkt s.f.key) s.f.pos s.f.past=some y:=hy.1
  have hy2:y.key=s.f.key:=hy.2;refine h2 y (x9 g.srt (Ri hy1) hy2) (anl g.srt λy' hy'=> ?_);rw[hy1]at hy';cases hy';rw[hy2,lD]
 ·have hm: ∀y,nextL s.a.L (bkt s.f.key) s.f.pos s.f.past=some y->kl y.key s.f.key=false/\y.key≠s.f.key:=hm
  exact h3 (acy g.srt f3 hm) (anl g.srt λy hy=>(hm y hy).1)
end
section
variable{T M N:Nat}{B:ByteArray->ZBlk}{s:ZKs}{k:Int}{t:Nat}{b:ZBlk}{Q:Nat->ZKs->Prop}
theorem wp0(g:eG s.a T M N B)(ht:t<T)(hr:s.a.r.has t=0)(hp:s.ph=0)
  (h1:goodP k s.f.key s.f.value≠0->Q 0 ⟨s.a,{s.f with code:=goodP k s.f.key s.f.value},7⟩)
  (h2:goodP k s.f.key s.f.value=0->eG (s.a.Fv t s.a.r.now) T M N B->Q 0 ⟨s.a.Fv t s.a.r.now,{s.f with epoch:=s.a.c.now},1⟩):wP k t b 0 s Q:=
 .inl ⟨hp,rfl,⟨g.rok,g.cok,by rw[g.ph];decide,by rw[g.rt];exact ht,hr⟩,h1,λh=>h2 h g.Fv⟩
theorem wp2{n ln:Nat}(hk:k=1)(hp:s.ph=2)(hd:s.a.d.ok)(hb:PBy s.a.d b ln)(hh:s.f.had=true)(ho:s.f.old=⟨b.key,b.id,b.ver,ln,b.cls⟩)(hn:s.f.piece=n)(hl:(n:Int)<spn b.cls)
  (h1:n+1≠spn b.cls->Q (n+1) ⟨s.a,{s.f with piece:=(n+1:Nat)},2⟩) (h2:n+1=spn b.cls->Q 0 ⟨s.a,{s.f with piece:=(n+1:Nat),found:=true,ans:=b.value},6⟩):wP k t b n s Q:=by
 refine .inr (.inr (.inr (.inl ⟨hp,hk,ln,?_,⟨hd,hb.1,hb.2.1,hb.2.2.1,hl,hb.2.2.2⟩,h1,h2⟩)));show s.f={s.f with had:=true,old:=⟨b.key,b.id,b.ver,ln,b.cls⟩,piece:=(n:Int)};rw[<-hh,<-ho,<-hn]
def ndK(k:Int)(f:ZFp):Int:=if k=2 then ned ((f.key.size+f.value.size:Nat):Int)else 0
theorem anm{f:ZFp}(hk:f.key.size<=16)(hv:f.value.size<=400):0<=ndK k f/\ndK k f<=3:=by
 unfold ndK;split
 ·exact aiA (by omega)
 ·omega
theorem wp3(g:eG s.a T M N B)(hk:k=2\/k=3)(hp:s.ph=3)(hks:s.f.key.size<=16)(hv:s.f.value.size<=400)
  (h1:(∀i,i<s.a.p.n->s.a.p.cls i≠ -1/\s.a.p.full (ndK k s.f) i)->Q 0 ⟨s.a,{s.f with cls:=ndK k s.f,code:=4},6⟩)
  (h2: ∀i j K:Nat,s.a.p.takes (ndK k s.f) i j->(K:Int)=2+i*8+j*spn (ndK k s.f)->eG (s.a.Ld (s.a.p.take (ndK k s.f) i j)) T M N B->iC (s.a.Ld (s.a.p.take (ndK k s.f) i j)) K (ndK k s.f)-> ¬s.a.p.has K->
   Q 0 ⟨s.a.Ld (s.a.p.take (ndK k s.f) i j),{s.f with cls:=ndK k s.f,line:=K,piece:=0},4⟩):wP k t b 0 s Q:=by
 refine .inr (.inr (.inr (.inr (.inl ⟨hp,rfl,hk,⟨g.pg.1,hks,hv⟩,h1,λi j h=> ?_⟩))));have h:s.a.p.takes (ndK k s.f) i j:=h;obtain⟨K,l1,l2,l3,l4⟩:=g.take (anm hks hv) h;have:=h2 i j K h l1 l2 l3 l4;rw[l1]at this;exact this
theorem wp4(g:eG s.a T M N B)(hM:M<=1000000)(hp:s.ph=4)(hks:s.f.key.size<=16)(hv:s.f.value.size<=400){K p:Nat}(h3:k=2\/k=3/\p=0)(hl:s.f.line=K)(hpi:s.f.piece=p)(hlt:(p:Int)<spn s.f.cls)(h:iC s.a K s.f.cls)(hd:MK s.a.d K s.f.key s.f.value p)
  (h1: ∀d',p+1≠spn s.f.cls->eG (s.a.Fz d') T (M+20) N B->iC (s.a.Fz d') K s.f.cls->MK d' K s.f.key s.f.value (p+1)->(∀m r:Nat,r<64-> ¬(K<=m/\m<K+(spn s.f.cls).toNat)->d'.b (m*193+r)=s.a.d.b (m*193+r))->Q 0 ⟨s.a.Fz d',{s.f with piece:=(p+1:Nat)},4⟩)
  (h2: ∀d',p+1=spn s.f.cls->eG (s.a.Fz d') T (M+20) N B->iC (s.a.Fz d') K s.f.cls->MK d' K s.f.key s.f.value (spn s.f.cls).toNat->(∀m r:Nat,r<64-> ¬(K<=m/\m<K+(spn s.f.cls).toNat)->d'.b (m*193+r)=s.a.d.b (m*193+r))->Q 0 ⟨s.a.Fz d',{s.f with piece:=0},5⟩):wP k t b 0 s Q:=by
 obtain⟨w1,w2,w3,w4⟩:=g.write hM h (t:=t) (f:=s.f) hks hv hlt;refine .inr (.inr (.inr (.inr (.inr (.inl ⟨hp,rfl,K,p,h3,?_,w1,λhne=>h1 _ hne w2 h (w3 hd) w4,λhe=>h2 _ he w2 h ?_ w4⟩)))))
 ·show s.f={s.f with line:=(K:Int),cls:=s.f.cls,piece:=(p:Int)}
  rw[<-hl,<-hpi]
 ·have e:(spn s.f.cls).toNat=p+1:=by omega
  rw[e];exact w3 hd
noncomputable def resK(k:Int)(s:ZKs)(t K:Nat):ZSto:=((ZPp.mk s.a s.f t K).pt k).cg.res k s.f.had
noncomputable def ano(s:ZKs)(t K:Nat):ZBlk:=((ZPp.mk s.a s.f t K).pt 2).cg.blk 2 s.f.had
theorem wp5p(g:eG s.a T M N B)(hM:M<=1000000)(hN:N<=200)(hk:k=2)(hp:s.ph=5){K:Nat}(ht:t<T)(hl:s.f.line=K)(h:iC s.a K s.f.cls)(hk0:s.f.key.size≠0)(hks:s.f.key.size<=16)(hv:s.f.value.size<=400)(hc:s.f.cls=ned ((s.f.key.size+s.f.value.size:Nat):Int))(he:s.f.epoch=s.a.c.now)
  (hw:fF s.a.L s.f.key=if s.f.had=true then some s.f.old else none) (hd:MK s.a.d K s.f.key s.f.value (spn s.f.cls).toNat)
  (h1:eG (resK 2 s t K) T (M+20) (N+1) (updB B s.f.key (ano s t K))->Q 0 ⟨resK 2 s t K,{s.f with found:=s.f.had,aep:=s.f.epoch,line:= -1},6⟩):wP k t b 0 s Q:=by
 subst hk;obtain⟨e1,e2⟩:=g.put hM hN ht (f:=s.f) (had:=s.f.had) h hk0 hks hv hc he hw hd;exact .inr (.inr (.inr (.inr (.inr (.inr (.inl ⟨hp,rfl,.inl rfl,K,hl,e1,h1 e2⟩))))))
theorem wp5r(g:eG s.a T M N B)(hk:k=2\/k=3/\s.f.had=true)(hp:s.ph=5){K:Nat}(ht:t<T)(hl:s.f.line=K)(hks:s.f.key.size<=16)
  (hw:s.a.c.now≠s.f.epoch\/ ¬fF s.a.L s.f.key=if s.f.had=true then some s.f.old else none)
  (h1:Q 0 ⟨s.a,{s.f with epoch:=s.a.c.now,pos:=emp,past:=false,had:=false,old:=iI},1⟩):wP k t b 0 s Q:=
 .inr (.inr (.inr (.inr (.inr (.inr (.inr (.inl ⟨hp,rfl,hk,K,hl,⟨g.cok,by show s.a.ph<=4;rw[g.ph];decide,by show t<s.a.c.t;rw[g.ct];exact ht,by show s.f.key.size<_;omega,hw⟩,h1⟩)))))))
theorem wp6(g:eG s.a T M N B)(hp:s.ph=6)(ht:t<T)(h1:eG (s.a.Fv t 0) T M N B->Q 0 ⟨s.a.Fv t 0,s.f,7⟩):wP k t b 0 s Q:=
 .inr (.inr (.inr (.inr (.inr (.inr (.inr (.inr (.inl ⟨hp,rfl,⟨g.rok,by rw[g.rt];exact ht⟩,h1 g.Fv⟩))))))))
end
def fK(key v:ByteArray):ZFp:=⟨key,v,⟨#[]⟩,0,⟨#[]⟩,false,false,iI,-1,0,0,0,false,⟨#[]⟩,0⟩
def ZFp.st(f:ZFp)(k ph:Int)(b:AV):dB:= .cells 45 (.av (f.l k ph b))
def ZFp.ansV(f:ZFp):AV:=agz f.code f.found f.ans f.aep
structure ZRp where
 a:ZSto
 t:Nat
 key:ByteArray
 v:ByteArray
 b:ZBlk
 I:Nat->Nat->ZKs->Prop
 q:Nat->ZKs->Prop
structure ZRn where
 s:ZKs
 k:Nat
 m:Nat
def ZRp.okI(x:ZRp)(k:Int):Prop:=x.I 1 0 ⟨x.a,fK x.key x.v,0⟩/\ ∀j m s,x.I j m s->j<=400/\s.ph≠7/\wP k x.t x.b m s (λm' y=>(y.ph=7/\m'=0/\x.q j y)\/x.I (j+1) m' y)
noncomputable def runK(k:Int):Ctr:={X:=ZRp,args:=λx=>[.ptr 0 0,i64 x.t,ape k x.key x.v],k:=1,os:=λx=>[.abs (ownM x.a.os)],pre:=λx=>Hd (x.okI k),outs:=[
 {Y:=ZRn,post:=λx y=>Hd (x.q y.k y.s),ret:=λ_ y=> .tup [y.s.f.ansV,i64 y.k,boo true],m:=1,os:=λ_ y=>[.abs (ownM y.s.a.os)]}]}
noncomputable def annK(k:Int)(x:ZRp):FuncId->qA:=λf=>bif Nat.beq f 35 then(λb _ h=>bif Nat.beq b 0 then [
 {σ:=ZRn,fr:=λs=>[(10,i64 s.k)],ob:=λs=>[(0,some (.abs (ownM s.s.a.os))),(3,some (s.s.f.st k s.s.ph gY))],inv:=λs=>Hd (1<=s.k/\x.I s.k 0 s.s),meas:=λs=>501-s.k,test:=λ_ h=> !byAt h}]else [])elseλ_ _ _=>[]
noncomputable def asa(x:ZRp):FuncId->qA:=λf=>bif Nat.beq f 35 then(λb _ h=>bif Nat.beq b 0 then [
 {σ:=ZRn,fr:=λs=>[(10,i64 s.k)],ob:=λs=>[(0,some (.abs (ownM s.s.a.os))),(3,some (s.s.f.st 1 s.s.ph gY))],inv:=λs=>Hd (1<=s.k/\x.I s.k 0 s.s),meas:=λs=>501-s.k,test:=λ_ h=> !byAt h},
 {σ:=ZRn,fr:=λs=>[(10,i64 s.k)],ob:=λs=>[(0,some (.abs (ownM s.s.a.os))),(3,some (s.s.f.st 1 2 (.slW h.next 0 1 (64*s.m)))),(h.next,some (abg x.b.enc (64*s.m)))],nx:=1,inv:=λs=>Hd (1<=s.k/\s.m≠0/\s.s.ph=2/\x.I s.k s.m s.s),meas:=λs=>501-s.k,test:=λ_ h=>byAt h}]else [])elseλ_ _ _=>[]
noncomputable def aiB:WTr:=λargs h K=>match args with
 |[a,t,.agg l]=>(bif hasB l then ctrT ank else ctrT (Rf 1)) [a,t,.agg l] h K
 |_=>False
theorem aiC(args:List AV)(h:Heap)(K:AV->Heap->Prop)(hq:aiB args h K):Sp Tryz.prog 34 args h K:=by
 unfold aiB at hq;split at hq
 ·exact amY (P:=Tryz.prog) (f:=34) _ (bP aiz) (bP acv) _ _ _ hq
 ·exact hq.elim
noncomputable def asb(k:Int):jf:=[(17,Qe),(34,ctrT (Rh k))]
noncomputable def asc:jf:=[(17,Qe),(34,aiB)]
theorem amb{k:Int}(h:bZ Tryz.prog 34 (Rh k)):dX Tryz.prog (asb k):= .cons En (.cons (bP h) .nil)
theorem amc:dX Tryz.prog asc:= .cons En (.cons aiC .nil)
def jg:Prop:=Value.slice none 0 0=Value.slice none 0 0
def vH(a:ZFp)(b:ZFp):Prop:=a.code=b.code/\a.found=b.found/\a.ans=b.ans/\jg/\jg/\a.aep=b.aep/\True
def Io(a:ZKs)(b:ZKs):Prop:=a.f.key=b.f.key/\a.f.value=b.f.value/\a.f.to=b.f.to/\jg/\a.ph=b.ph/\a.f.epoch=b.f.epoch/\a.f.pos=b.f.pos/\a.f.past=b.f.past/\(0:Int)=0/\a.f.had=b.f.had/\a.f.old.key=b.f.old.key/\a.f.old.id=b.f.old.id/\a.f.old.ver=b.f.old.ver/\a.f.old.line=b.f.old.line/\a.f.old.cls=b.f.old.cls/\a.f.line=b.f.line/\a.f.cls=b.f.cls/\a.f.piece=b.f.piece/\jg/\(0:Int)=0/\jg/\vH a.f b.f
def sF:Prop:=(0:Int)=0/\false=false/\ByteArray.mk #[]=ByteArray.mk #[]/\jg/\jg/\(0:Int)=0/\True
def ML(a:ZFp):Prop:=a.code=0/\a.found=false/\a.ans=ByteArray.mk #[]/\jg/\jg/\a.aep=0/\True
def MN(a:ZKs)(b:ZRp):Prop:=a.f.key=b.key/\a.f.value=b.v/\a.f.to=ByteArray.mk #[]/\jg/\a.ph=0/\a.f.epoch=0/\a.f.pos=ByteArray.mk #[]/\a.f.past=false/\(0:Int)=0/\a.f.had=false/\a.f.old.key=ByteArray.mk #[]/\a.f.old.id=0/\a.f.old.ver=0/\a.f.old.line=0/\a.f.old.cls=0/\a.f.line=(-(1:Int))/\a.f.cls=0/\a.f.piece=0/\jg/\(0:Int)=0/\jg/\ML a.f
def MO(a:ZSto)(b:ZSto):Prop:=ownM a.os=ownM b.os
def kY(a:ZSto)(b:ZSto):Prop:=MO a b/\True
def Fg(a:ZRp)(b:ZSto):Prop:= ∃y:ZRn,Hd (a.q y.k y.s)/\(ML y.s.f/\(y.k:Int)=0/\true=false/\True)/\kY y.s.a b
def sG(a:ZRp):Prop:=a.key=a.key/\a.v=a.v/\ByteArray.mk #[]=ByteArray.mk #[]/\jg/\True
def sH(a:ZRn)(b:ZRp):Prop:=Hd (1<=a.k/\b.I a.k 0 a.s)
def MP(a:ZRp)(b:ZKs)(c:Nat):Prop:= ∃y_1:ZRn,Hd (a.q y_1.k y_1.s)/\(vH y_1.s.f b.f/\(y_1.k:Int)=(c:Int)/\true=true/\True)/\kY y_1.s.a b.a
def Xt(a:ZWk)(b:ZRp)(c:Nat):Prop:= ∀y:ZKs,Hd (a.q 0 y)->cP (BEq.beq y.ph (7:Int)) (MP b y c) (I64 ((c:Int)+1)/\ ∃s_1:ZRn,sH s_1 b/\501-s_1.k<501-c/\((s_1.k:Int)=(c:Int)+1/\True)/\((1:Int)=1/\Io s_1.s y)/\sF/\((1:Int)=1/\sG b)/\kY s_1.s.a y.a)
def MQ(a:ZRn)(b:ZRp):Prop:=Hd (1<=a.k/\a.m≠0/\a.s.ph=2/\b.I a.k a.m a.s)
def Xu(x:ZRp):Prop:=
 (∃s:ZRn,sH s x/\True/\((s.k:Int)=1/\True)/\((1:Int)=1/\MN s.s x)/\sF/\((1:Int)=1/\sG x)/\kY s.s.a x.a)/\(∀s:ZRn,sH s x->cP (decide ((s.k:Int)<=400)) (∃x_1:ZWk,Hd (x_1.n=0/\wP (1:Int) x_1.t x_1.b 0 x_1.s x_1.q)/\(0=0/\(x_1.t:Int)=(x.t:Int)/\((1:Int)=1/\Io x_1.s s.s)/\True)/\kY x_1.s.a s.s.a/\Xt x_1 x s.k/\ ∀y:ZKs,Hd (x_1.q 1 y/\y.ph=2/\(1:Int)=1)->I64 ((s.k:Int)+1)/\ ∃s_1:ZRn,MQ s_1 x/\501-s_1.k<501-s.k/\((s_1.k:Int)=(s.k:Int)+1/\True)/\(64*s_1.m=64/\ ∀q:Nat,q<64*s_1.m->[Value.int .u8 (x.b.enc q)]=[Value.int .u8 (x_1.b.enc q)])/\((1:Int)=1/\s_1.s.f.key=y.f.key/\s_1.s.f.value=y.f.value/\s_1.s.f.to=y.f.to/\jg/\(2:Int)=2/\s_1.s.f.epoch=y.f.epoch/\s_1.s.f.pos=y.f.pos/\s_1.s.f.past=y.f.past/\(0:Int)=0/\s_1.s.f.had=y.f.had/\s_1.s.f.old.key=y.f.old.key/\s_1.s.f.old.id=y.f.old.id/\s_1.s.f.old.ver=y.f.old.ver/\s_1.s.f.old.line=y.f.old.line/\s_1.s.f.old.cls=y.f.old.cls/\s_1.s.f.line=y.f.line/\s_1.s.f.cls=y.f.cls/\s_1.s.f.piece=y.f.piece/\(0=0/\64*s_1.m=64)/\(0:Int)=0/\jg/\vH s_1.s.f y.f)/\sF/\((1:Int)=1/\sG x)/\kY s_1.s.a y.a) (Fg x s.s.a))/\(∀s:ZRn,MQ s x->cP (decide ((s.k:Int)<=400)) (∃x_1:ZWk,Hd (x_1.n≠0/\x_1.s.ph=2/\wP (1:Int) x_1.t x_1.b x_1.n x_1.s x_1.q)/\(0=0/\(x_1.t:Int)=(x.t:Int)/\((1:Int)=1/\x_1.s.f.key=s.s.f.key/\x_1.s.f.value=s.s.f.value/\x_1.s.f.to=s.s.f.to/\jg/\(2:Int)=2/\x_1.s.f.epoch=s.s.f.epoch/\x_1.s.f.pos=s.s.f.pos/\x_1.s.f.past=s.s.f.past/\(0:Int)=0/\x_1.s.f.had=s.s.f.had/\x_1.s.f.old.key=s.s.f.old.key/\
 x_1.s.f.old.id=s.s.f.old.id/\x_1.s.f.old.ver=s.s.f.old.ver/\x_1.s.f.old.line=s.s.f.old.line/\x_1.s.f.old.cls=s.s.f.old.cls/\x_1.s.f.line=s.s.f.line/\x_1.s.f.cls=s.s.f.cls/\x_1.s.f.piece=s.s.f.piece/\(0=0/\64*x_1.n=64*s.m)/\(0:Int)=0/\jg/\vH x_1.s.f s.s.f)/\True)/\(MO x_1.s.a s.s.a/\(64*x_1.n=64*s.m/\ ∀q:Nat,q<64*x_1.n->[Value.int .u8 (x_1.b.enc q)]=[Value.int .u8 (x.b.enc q)])/\True)/\Xt x_1 x s.k/\ ∀y:ZKs,Hd (x_1.q (x_1.n+1) y/\y.ph=2)->I64 ((s.k:Int)+1)/\ ∃s_1:ZRn,MQ s_1 x/\501-s_1.k<501-s.k/\((s_1.k:Int)=(s.k:Int)+1/\True)/\(64*s_1.m=64*(x_1.n+1)/\ ∀q:Nat,q<64*s_1.m->[Value.int .u8 (x.b.enc q)]=[Value.int .u8 (x_1.b.enc q)])/\((1:Int)=1/\s_1.s.f.key=y.f.key/\s_1.s.f.value=y.f.value/\s_1.s.f.to=y.f.to/\jg/\(2:Int)=2/\s_1.s.f.epoch=y.f.epoch/\s_1.s.f.pos=y.f.pos/\s_1.s.f.past=y.f.past/\(0:Int)=0/\s_1.s.f.had=y.f.had/\s_1.s.f.old.key=y.f.old.key/\s_1.s.f.old.id=y.f.old.id/\s_1.s.f.old.ver=y.f.old.ver/\s_1.s.f.old.line=y.f.old.line/\s_1.s.f.old.cls=y.f.old.cls/\s_1.s.f.line=y.f.line/\s_1.s.f.cls=y.f.cls/\s_1.s.f.piece=y.f.piece/\(0=0/\64*s_1.m=64*(x_1.n+1))/\(0:Int)=0/\jg/\vH s_1.s.f y.f)/\sF/\((1:Int)=1/\sG x)/\kY s_1.s.a y.a) (Fg x s.s.a))/\True
theorem acz(x:ZRp):Xu x=wpF Tryz.prog asc tt (asa x) 200 6 35 ((runK 1).args x) (hO 1 ((runK 1).os x)) (λv h'=>eX 1 x v h' (runK 1).outs):=by kernel_rfl
def Xv(x:ZRp):Prop:=
 (∃s:ZRn,sH s x/\True/\((s.k:Int)=1/\True)/\((2:Int)=2/\MN s.s x)/\sF/\((2:Int)=2/\sG x)/\kY s.s.a x.a)/\(∀s:ZRn,sH s x->cP (decide ((s.k:Int)<=400)) (∃x_1:ZWk,Hd (x_1.n=0/\wP (2:Int) x_1.t x_1.b 0 x_1.s x_1.q)/\(0=0/\(x_1.t:Int)=(x.t:Int)/\((2:Int)=2/\Io x_1.s s.s)/\True)/\kY x_1.s.a s.s.a/\ ∀y:ZKs,Hd (x_1.q 0 y)->cP (BEq.beq y.ph (7:Int)) (MP x y s.k) (I64 ((s.k:Int)+1)/\ ∃s_1:ZRn,sH s_1 x/\501-s_1.k<501-s.k/\((s_1.k:Int)=(s.k:Int)+1/\True)/\((2:Int)=2/\Io s_1.s y)/\sF/\((2:Int)=2/\sG x)/\kY s_1.s.a y.a)) (Fg x s.s.a))/\True
theorem acA(x:ZRp):Xv x=wpF Tryz.prog (asb 2) tt (annK 2 x) 200 6 35 ((runK 2).args x) (hO 1 ((runK 2).os x)) (λv h'=>eX 1 x v h' (runK 2).outs):=by kernel_rfl
set_option maxHeartbeats 1000000 in
theorem Rj(x:ZRp)(hx:x.okI 1):Xu x:=by
 obtain⟨h0,hI⟩:=hx;have end0: ∀(k:Nat) (y:ZKs),1<=k->k<=400->((y.ph=7/\(0:Nat)=0/\x.q k y)\/x.I (k+1) 0 y)->(y.ph=7->x.q k y)/\(y.ph≠7->x.I (k+1) 0 y):=λk y _ _ h=>by
  rcases h with ⟨h1,_,h2⟩|h
  ·exact⟨λ_=>h2,λh3=>absurd h1 h3⟩
  ·exact⟨λh3=>absurd h3 (hI _ _ _ h).2.1,λ_=>h⟩
 have aqk: ∀k:Nat,k<=400->I64 ((k:Int)+1):=λk hk=>by unfold I64;omega
 unfold Xu;simp only[sH,MN,sF,sG,kY,Io,Xt,MQ,jg,vH,Fg,MO,ML,MP];simp only[aZ,aV,aU,aA,aI,bT,bF,aO,aK,ay,aX,aW,bU,bH,bI,bJ,bV,bD,bK,bC,eY,aH,aN,ah,ak,aB,aF,aC,aG];refine⟨⟨⟨⟨x.a,fK x.key x.v,0⟩,1,0⟩,⟨aY _,h0⟩,rfl,by repeat' (first|exact rfl|refine And.intro ?_ ?_),rfl⟩,λs hs=> ?_,λs hs=> ?_⟩
 ·obtain⟨h1,h2⟩:=hs
  obtain⟨k50,h7,hw⟩:=hI _ _ _ h2;refine bf (λ_=>⟨⟨s.s,x.t,x.b,0,_⟩,⟨rfl,hw⟩,by repeat' (first|exact rfl|refine And.intro ?_ ?_),rfl,λy hy=> ?_,λy hy=> ?_⟩) λh=>absurd (aT h) (by omega)
  ·obtain⟨e1,e2⟩:=end0 s.k y h1 k50 hy
   refine bf (λh=>⟨⟨y,s.k,0⟩,e1 (beq_iff_eq.1 h),by repeat' (first|exact rfl|refine And.intro ?_ ?_),rfl⟩) λh=>⟨aqk _ k50,⟨y,s.k+1,0⟩,⟨by show 1<=s.k+1;omega,e2 (by simpa using h)⟩,by show 501-(s.k+1)<_;omega,by show((s.k+1:Nat):Int)=_;omega,by repeat' (first|exact rfl|refine And.intro ?_ ?_),rfl⟩
  ·obtain⟨hy,hp⟩:=hy
   rcases hy with ⟨h3,_⟩|hy
   ·exact absurd (hp.symm.trans h3) (by decide)
   ·exact⟨aqk _ k50,⟨y,s.k+1,1⟩,⟨by show 1<=s.k+1;omega,by show¬(1:Nat)=0;decide,hp,hy⟩,by show 501-(s.k+1)<_;omega,by show((s.k+1:Nat):Int)=_;omega,⟨rfl,λ_ _=>rfl⟩,by repeat' (first|exact rfl|refine And.intro ?_ ?_),rfl⟩
 ·obtain⟨h1,hm,hph,h2⟩:=hs
  obtain⟨k50,h7,hw⟩:=hI _ _ _ h2;refine bf (λ_=>⟨⟨s.s,x.t,x.b,s.m,_⟩,⟨hm,hph,hw⟩,by repeat' (first|exact rfl|refine And.intro ?_ ?_),⟨rfl,rfl,λ_ _=>rfl⟩,λy hy=> ?_,λy hy=> ?_⟩) λh=>absurd (aT h) (by omega)
  ·obtain⟨e1,e2⟩:=end0 s.k y h1 k50 hy
   refine bf (λh=>⟨⟨y,s.k,0⟩,e1 (beq_iff_eq.1 h),by repeat' (first|exact rfl|refine And.intro ?_ ?_),rfl⟩) λh=>⟨aqk _ k50,⟨y,s.k+1,0⟩,⟨by show 1<=s.k+1;omega,e2 (by simpa using h)⟩,by show 501-(s.k+1)<_;omega,by show((s.k+1:Nat):Int)=_;omega,by repeat' (first|exact rfl|refine And.intro ?_ ?_),rfl⟩
  ·obtain⟨hy,hp⟩:=hy
   rcases hy with ⟨h3,_⟩|hy
   ·exact absurd (hp.symm.trans h3) (by decide)
   ·exact⟨aqk _ k50,⟨y,s.k+1,s.m+1⟩,⟨by show 1<=s.k+1;omega,by show s.m+1≠0;omega,hp,hy⟩,by show 501-(s.k+1)<_;omega,by show((s.k+1:Nat):Int)=_;omega,⟨rfl,λ_ _=>rfl⟩,by repeat' (first|exact rfl|refine And.intro ?_ ?_),rfl⟩
theorem Rk(x:ZRp)(hx:x.okI 2):Xv x:=by
 obtain⟨h0,hI⟩:=hx;have aqk: ∀k:Nat,k<=400->I64 ((k:Int)+1):=λk hk=>by unfold I64;omega
 unfold Xv;simp only[sH,MN,sF,sG,kY,Io,MP,Fg,ML,jg,vH,MO];simp only[aZ,aV,aU,aA,aI,bT,bF,aO,aK,ay,aX,aW,bU,bH,bI,bJ,bV,bD,bK,bC,eY,aH,aN,ah,ak,aB,aF,aC,aG];refine⟨⟨⟨⟨x.a,fK x.key x.v,0⟩,1,0⟩,⟨aY _,h0⟩,rfl,by repeat' (first|exact rfl|refine And.intro ?_ ?_),rfl⟩,λs hs=> ?_⟩;obtain⟨h1,h2⟩:=hs;obtain⟨k50,h7,hw⟩:=hI _ _ _ h2;refine bf (λ_=>⟨⟨s.s,x.t,x.b,0,_⟩,⟨rfl,hw⟩,by repeat' (first|exact rfl|refine And.intro ?_ ?_),rfl,λy hy=> ?_⟩) λh=>absurd (aT h) (by omega)
 have e:(y.ph=7->x.q s.k y)/\(y.ph≠7->x.I (s.k+1) 0 y):=by
  rcases hy with ⟨h1,_,h2⟩|h
  ·exact⟨λ_=>h2,λh3=>absurd h1 h3⟩
  ·exact⟨λh3=>absurd h3 (hI _ _ _ h).2.1,λ_=>h⟩
 obtain⟨e1,e2⟩:=e;refine bf (λh=>⟨⟨y,s.k,0⟩,e1 (beq_iff_eq.1 h),by repeat' (first|exact rfl|refine And.intro ?_ ?_),rfl⟩) λh=>⟨aqk _ k50,⟨y,s.k+1,0⟩,⟨by show 1<=s.k+1;omega,e2 (by simpa using h)⟩,by show 501-(s.k+1)<_;omega,by show((s.k+1:Nat):Int)=_;omega,by repeat' (first|exact rfl|refine And.intro ?_ ?_),rfl⟩
theorem amd:bZ Tryz.prog 35 (runK 1):=jk dF mixed amc asa 200 6 (λ_=>rfl) (λ_=>⟨λ_=>rfl,trivial⟩) λx hx=>Eq.mp (acz x) (Rj x (aZ.1 hx))
theorem ame:bZ Tryz.prog 35 (runK 2):=jk dF mixed (amb Ik) (annK 2) 200 6 (λ_=>rfl) (λ_=>⟨λ_=>rfl,trivial⟩) λx hx=>Eq.mp (acA x) (Rk x (aZ.1 hx))
def zBk:ZBlk:=⟨0,0,0,0,0,⟨#[]⟩,⟨#[]⟩⟩
def zX(a:ZSto)(b:ZBlk)(ln:Nat):Prop:=PBy a.d b ln/\ ∃i j,a.p.at_ ln i j/\a.p.cls i=b.cls
theorem zX.dev{a a':ZSto}{T M N:Nat}{B:ByteArray->ZBlk}{b:ZBlk}{ln:Nat}(h:zX a b ln)(g:eG a' T M N B)(hp:a'.p=a.p){K n:Nat}(hb: ∀m r:Nat,r<64-> ¬(K<=m/\m<K+n)->a'.d.b (m*193+r)=a.d.b (m*193+r))(hs:ln+b.dK<=K\/K+n<=ln):zX a' b ln:=by
 obtain⟨⟨h1,h2,h3,h4⟩,i,j,h5,h6⟩:=h;rw[<-hp]at h5 h6;have hf:=(MJ g.pg h5).2.1;have hfit:=g.fit;refine⟨⟨h1,h2,by rw[<-h6];omega,λq hq=> ?_⟩,i,j,h5,h6⟩;rw[hb _ _ (by omega) (by omega)];exact h4 q hq
theorem zX.apart{a:ZSto}{T M N:Nat}{B:ByteArray->ZBlk}{b:ZBlk}{ln K:Nat}{c:Int}(h:zX a b ln)(g:eG a T M N B)(hh:iC a K c)(hne:ln≠K):ln+b.dK<=K\/K+(spn c).toNat<=ln:=by
 obtain⟨⟨h1,_⟩,i,j,h5,h6⟩:=h;obtain⟨⟨i',j',h7,rfl⟩,_⟩:=hh;have:=Fb g.pg h5 h7 (by omega);have s:=uV b;have s2:=dM (a.p.cls i');rw[h6]at this;omega
theorem zX.has{a:ZSto}{b:ZBlk}{ln:Nat}(h:zX a b ln):a.p.has ln:=let ⟨_,i,j,h,_⟩:=h;⟨i,j,h⟩
structure ZWp where
 a:ZSto
 T:Nat
 M:Nat
 N:Nat
 B:ByteArray->ZBlk
 t:Nat
 key:ByteArray
 v:ByteArray
namespace ZWp
def ok(x:ZWp):Prop:=eG x.a x.T x.M x.N x.B/\x.t<x.T/\x.a.r.has x.t=0/\x.M<=900000/\x.N<=100
def a1(x:ZWp):ZSto:=x.a.Fv x.t x.a.r.now
def a2(x:ZWp):ZSto:=x.a1.Fv x.t 0
def c(x:ZWp):Int:=ned ((x.key.size+x.v.size:Nat):Int)
def sp(x:ZWp):Nat:=(spn x.c).toNat
def had(x:ZWp):Bool:=(fF x.a.L x.key).isSome
noncomputable def far(x:ZWp):Nat:=(fl x.a.L (bkt x.key) ⟨#[]⟩ false x.key).length
end ZWp
structure PPut (x:ZWp) (R:ZRd) (a':ZSto) (B':ByteArray->ZBlk):Prop where
 base:eG a' x.T (x.M+400) (x.N+1) B'
 bk: ∃b,B'=updB x.B x.key b/\b.value=x.v/\b.key=x.key/\b.may
 L: ∃l,a'.L=iW x.a.L l/\l.key=x.key
 r:a'.r=R
 n:a'.n=x.a.n+1
 e: ∃E:ZEff,E.epoch=x.a.c.now/\ ∀i,a'.e i=if i=x.a.n then E else x.a.e i
 now:a'.c.now=x.a.c.now
 pool: ∃i j,x.a.p.takes x.c i j/\a'.p=x.a.p.take x.c i j
 bag: ∃e:gX,e.r=x.a.r.now/\a'.b=if x.had=true then x.a.b.put e else x.a.b
 keep: ∀b ln,zX x.a b ln->zX a' b ln
 note: ∃K:Nat,a'.c=x.a.c.notes x.t K x.sp
structure FP (x:ZWp) (f:ZFp):Prop where
 key:f.key=x.key
 value:f.value=x.v
 code:f.code=0
 found:f.found=false
 ans:f.ans=⟨#[]⟩
 ep:f.epoch=x.a.c.now
 aep:f.aep=0
def was(x:ZWp)(f:ZFp):Prop:=fF x.a.L x.key=if f.had=true then some f.old else none
def ZWp.ap(x:ZWp)(i j:Nat)(d:DevM):ZSto:=(x.a1.Ld (x.a.p.take x.c i j)).Fz d
inductive Rl (x:ZWp):Nat->Nat->ZKs->Prop
 |enter:Rl x 1 0 ⟨x.a,fK x.key x.v,0⟩
 |ap4 {j f} (h:FP x f) (hs:ama f) (hl:f.line= -1) (hj:j+(ZKs.mk x.a1 f 1).acJ=2+x.far):Rl x j 0 ⟨x.a1,f,1⟩
 |take {f} (h:FP x f) (hl:f.line= -1) (hw:was x f):Rl x (3+x.far) 0 ⟨x.a1,f,3⟩
 |write {f i j K p d} (hn: ¬x.a.p.has ((K:Nat):Int)) (kp: ∀b ln,zX x.a b ln->zX (x.ap i j d) b ln) (h:FP x f) (hw:was x f) (ht:x.a.p.takes x.c i j) (g:eG (x.ap i j d) x.T (x.M+20*p) x.N x.B) (hh:iC (x.ap i j d) K x.c) (hd:MK d K x.key x.v p) (hl:f.line=(K:Nat)) (hp:f.piece=(p:Nat)) (hc:f.cls=x.c) (hlt:p<x.sp):Rl x (4+x.far+p) 0 ⟨x.ap i j d,f,4⟩
 |pub {f i j K d} (hn: ¬x.a.p.has ((K:Nat):Int)) (kp: ∀b ln,zX x.a b ln->zX (x.ap i j d) b ln) (h:FP x f) (hw:was x f) (ht:x.a.p.takes x.c i j) (g:eG (x.ap i j d) x.T (x.M+160) x.N x.B) (hh:iC (x.ap i j d) K x.c) (hd:MK d K x.key x.v x.sp) (hl:f.line=(K:Nat)) (hc:f.cls=x.c):Rl x (4+x.far+x.sp) 0 ⟨x.ap i j d,f,5⟩
 |leave {f a' B'} (hc:f.code=0) (hf:f.found=x.had) (ha:f.ans=⟨#[]⟩) (he:f.aep=x.a.c.now) (g:PPut x (x.a.r.put x.t x.a.r.now) a' B'):Rl x (5+x.far+x.sp) 0 ⟨a',f,6⟩
 |full {f} (hc:f.code=4) (hf:f.found=false) (ha:f.ans=⟨#[]⟩) (he:f.aep=0) (hfu: ∀i,i<x.a.p.n->x.a.p.cls i≠ -1/\x.a.p.full x.c i):Rl x (4+x.far) 0 ⟨x.a1,f,6⟩
inductive aql (x:ZWp):Nat->ZKs->Prop
 |bad {s} (h:goodP 2 x.key x.v≠0) (hs:s=⟨x.a,{fK x.key x.v with code:=goodP 2 x.key x.v},7⟩):aql x 1 s
 |full {f} (h:goodP 2 x.key x.v=0) (hc:f.code=4) (hf:f.found=false) (ha:f.ans=⟨#[]⟩) (he:f.aep=0) (hfu: ∀i,i<x.a.p.n->x.a.p.cls i≠ -1/\x.a.p.full x.c i):aql x (4+x.far) ⟨x.a2,f,7⟩
 |done {f a' B'} (h:goodP 2 x.key x.v=0) (hc:f.code=0) (hf:f.found=x.had) (ha:f.ans=⟨#[]⟩) (he:f.aep=x.a.c.now) (g:PPut x ((x.a.r.put x.t x.a.r.now).put x.t 0) a' B'):aql x (5+x.far+x.sp) ⟨a',f,7⟩
theorem anp{L:Lks}{b:Nat}{pos s:ByteArray}{past:Bool}:(fl L b pos past s).length<=L.length:=List.length_filter_le _ _
theorem ap5{x:ZWp}{f:ZFp}(h:was x f):f.had=x.had:=by
 unfold was at h;unfold ZWp.had;rw[h];cases f.had<;>rfl
theorem amf{x:ZWp}(hx:x.ok){j m:Nat}{s:ZKs}(h:Rl x j m s)(hg:s.ph≠0->goodP 2 x.key x.v=0):j<=400/\s.ph≠7/\wP 2 x.t zBk m s (λm' y=>(y.ph=7/\m'=0/\aql x j y)\/(Rl x (j+1) m' y/\(y.ph≠0->goodP 2 x.key x.v=0))):=by
 obtain⟨g,ht,hr,hM,hN⟩:=hx;have hfar:x.far<=100:=Nat.le_trans anp (Nat.le_trans g.len hN);have hsp:x.sp<=8:=by have:=dM x.c;unfold ZWp.sp;omega
 have g1:eG x.a1 x.T x.M x.N x.B:=g.Fv;cases h with
 |enter=>
  refine⟨by decide,by show¬(0:Int)=7;decide,wp0 g ht hr rfl (λe=> .inl ⟨rfl,rfl,.bad e rfl⟩) λe _=> .inr ⟨.ap4 ⟨rfl,rfl,rfl,rfl,rfl,rfl,rfl⟩ ⟨(yw e).2.1,by show(0:Nat)<=16;decide,λh=>by cases h⟩ rfl ?_,λ_=>e⟩⟩;show 1+1+(fl x.a.L (bkt x.key) ⟨#[]⟩ false x.key).length=2+x.far;unfold ZWp.far;omega
 | @ap4 j f hF hs hl hj=>
  have e:=hg (by show¬(1:Int)=0;decide);refine⟨by omega,by show¬(1:Int)=7;decide,Fe (k:=2) (t:=x.t) (b:=zBk) g1 rfl hs (λh=>by cases h) (λy hy hs' hgo=> .inr ⟨.ap4 ⟨hF.key,hF.value,hF.code,hF.found,hF.ans,hF.ep,hF.aep⟩ hs' hl (by have hgo:(ZKs.mk x.a1 f 1).acJ=(ZKs.mk x.a1 {f with pos:=y.key,past:=true} 1).acJ+1:=hgo;show j+1+(ZKs.mk x.a1 {f with pos:=y.key,past:=true} 1).acJ=2+x.far;omega),λ_=>e⟩) (λy hy h0=> ?_) λhy h0=> ?_⟩
  ·have e1:nx3 f 2 true=3:=by unfold nx3;rw[if_neg (by decide),if_neg (by decide),if_pos (by omega)]
   have ej:j+1=3+x.far:=by omega
   show(nx3 f 2 true=7/\_)\/(Rl x (j+1) 0 ⟨x.a1,_,nx3 f 2 true⟩/\_);rw[e1,ej];exact .inr ⟨.take ⟨hF.key,hF.value,hF.code,hF.found,hF.ans,hF.ep,hF.aep⟩ hl (by have hy:fF x.a.L f.key=some y:=hy;rw[hF.key]at hy;exact hy),λ_=>e⟩
  ·have e1:nx3 f 2 false=3:=by unfold nx3;rw[if_neg (by decide),if_neg (by decide),if_pos (by omega)]
   have ej:j+1=3+x.far:=by omega
   show(nx3 f 2 false=7/\_)\/(Rl x (j+1) 0 ⟨x.a1,_,nx3 f 2 false⟩/\_);rw[e1,ej];exact .inr ⟨.take ⟨hF.key,hF.value,hF.code,hF.found,hF.ans,hF.ep,hF.aep⟩ hl (by have hy:fF x.a.L f.key=none:=hy;rw[hF.key]at hy;exact hy),λ_=>e⟩
 | @take f hF hl hw=>
  have e:=hg (by show¬(3:Int)=0;decide);obtain⟨k0,k1,k2⟩:=yw e;have ec:ndK 2 f=x.c:=by unfold ndK ZWp.c;rw[if_pos rfl,hF.key,hF.value]
  refine⟨by omega,by show¬(3:Int)=7;decide,wp3 (k:=2) g1 (.inl rfl) rfl (by rw[hF.key];exact k1) (by rw[hF.value];exact k2 rfl) (λhfu=> ?_) λi j K h1 h2 h3 h4 hnew=> ?_⟩
  ·have hfu: ∀i,i<x.a.p.n->x.a.p.cls i≠ -1/\x.a.p.full (ndK 2 f) i:=hfu
   rw[ec]at hfu;have:=Rl.full (x:=x) (f:={f with cls:=ndK 2 f,code:=4}) rfl hF.found hF.ans hF.aep hfu;rw[show 3+x.far+1=4+x.far by omega];exact .inr ⟨this,λ_=>e⟩
  ·have h1:x.a.p.takes (ndK 2 f) i j:=h1
   have h3:eG (x.a1.Ld (x.a.p.take (ndK 2 f) i j)) x.T x.M x.N x.B:=h3;have h4:iC (x.a1.Ld (x.a.p.take (ndK 2 f) i j)) K (ndK 2 f):=h4;show(_/\_)\/(Rl x _ 0 ⟨x.a1.Ld (x.a.p.take (ndK 2 f) i j),{f with cls:=ndK 2 f,line:=K,piece:=0},4⟩/\_);rw[ec]at h1 h3 h4 ⊢;have s1:=dM x.c;have s2:=anm (k:=2) (f:=f) (by rw[hF.key];exact k1) (by rw[hF.value];exact k2 rfl);rw[ec]at s2;have hz:0<x.sp:=by unfold ZWp.sp;omega
   have:=Rl.write (x:=x) (f:={f with cls:=x.c,line:=K,piece:=0}) (i:=i) (j:=j) (K:=K) (p:=0) (d:=x.a.d) hnew (λb ln hk=>⟨hk.1,by obtain⟨_,i',j',q1,q2⟩:=hk;obtain⟨q3,q4⟩:=take_at g.pg h1 _ _ _ q1;exact⟨i',j',q3,q4.trans q2⟩⟩) ⟨hF.key,hF.value,hF.code,hF.found,hF.ans,hF.ep,hF.aep⟩ hw h1 h3 h4 (λm r h1 h2 _=>absurd h2 (by omega)) rfl rfl rfl hz;rw[show 3+x.far+1=4+x.far+0 by omega];exact .inr ⟨this,λ_=>e⟩
 | @write f i j K p d hn kp hF hw htk g' hh hd hl hp hc hlt=>
  have e:=hg (by show¬(4:Int)=0;decide);obtain⟨k0,k1,k2⟩:=yw e;have s1:=dM x.c;have hsp2:(x.sp:Int)=spn x.c:=by unfold ZWp.sp;omega
  refine⟨by omega,by show¬(4:Int)=7;decide,wp4 (k:=2) g' (by omega) rfl (by rw[hF.key];exact k1) (by rw[hF.value];exact k2 rfl) (K:=K) (p:=p) (.inl rfl) hl hp (by show(p:Int)<spn f.cls;rw[hc];omega) (by show iC _ K f.cls;rw[hc];exact hh) (by rw[hF.key,hF.value];exact hd) (λd' hne gd hh' hd' hb=> ?_) λd' heq gd hh' hd' hb=> ?_⟩
  ·have hne:(p:Int)+1≠spn f.cls:=hne
   have hh':iC (x.ap i j d') K f.cls:=hh';have hd':MK d' K f.key f.value (p+1):=hd';rw[hc]at hne hh';rw[hF.key,hF.value]at hd';have:=Rl.write (x:=x) (f:={f with piece:=(p+1:Nat)}) (i:=i) (j:=j) (K:=K) (p:=p+1) (d:=d') hn (λb ln hk=>(kp b ln hk).dev gd rfl (K:=K) (n:=(spn f.cls).toNat) hb (by rw[hc];exact(kp b ln hk).apart g' hh λe=>hn (by rw[<-e];exact hk.has))) ⟨hF.key,hF.value,hF.code,hF.found,hF.ans,hF.ep,hF.aep⟩ hw htk (by rw[show x.M+20*(p+1)=x.M+20*p+20 by omega];exact gd) hh' hd' hl rfl hc (by omega);rw[show 4+x.far+p+1=4+x.far+(p+1) by omega];exact .inr ⟨this,λ_=>e⟩
  ·have heq:(p:Int)+1=spn f.cls:=heq
   have hh':iC (x.ap i j d') K f.cls:=hh';have hd':MK d' K f.key f.value (spn f.cls).toNat:=hd';rw[hc]at heq hh' hd';rw[hF.key,hF.value]at hd';have:=Rl.pub (x:=x) (f:={f with piece:=0}) (i:=i) (j:=j) (K:=K) (d:=d') hn (λb ln hk=>(kp b ln hk).dev gd rfl (K:=K) (n:=(spn f.cls).toNat) hb (by rw[hc];exact(kp b ln hk).apart g' hh λe=>hn (by rw[<-e];exact hk.has))) ⟨hF.key,hF.value,hF.code,hF.found,hF.ans,hF.ep,hF.aep⟩ hw htk (eG.up gd (by omega) (aY _)) hh' hd' hl hc;rw[show 4+x.far+p+1=4+x.far+x.sp by omega];exact .inr ⟨this,λ_=>e⟩
 | @pub f i j K d hn kp hF hw htk g' hh hd hl hc=>
  have e:=hg (by show¬(5:Int)=0;decide);obtain⟨k0,k1,k2⟩:=yw e;refine⟨by omega,by show¬(5:Int)=7;decide,wp5p (k:=2) g' (by omega) (by omega) rfl rfl (K:=K) ht hl (by show iC _ K f.cls;rw[hc];exact hh) (by rw[hF.key];exact k0) (by rw[hF.key];exact k1) (by rw[hF.value];exact k2 rfl) (by show f.cls=_;rw[hc,hF.key,hF.value];rfl) hF.ep (by show fF x.a.L f.key=_;rw[hF.key];exact hw) (by show MK d K f.key f.value (spn f.cls).toNat;rw[hF.key,hF.value,hc];exact hd) λgr=> ?_⟩;have wh:=ap5 hw;rw[show 4+x.far+x.sp+1=5+x.far+x.sp by omega];refine .inr ⟨.leave (B':=updB x.B f.key (ano ⟨x.ap i j d,f,5⟩ x.t K)) hF.code (by show f.had=_;exact wh) hF.ans (by show f.epoch=_;exact hF.ep) ?_,λ_=>e⟩
  exact{base:=eG.up gr (by omega) (aY _)
        bk:=⟨_,by rw[hF.key],hF.value,hF.key,by
         obtain⟨ln,_,q2,_,_,_,q6,_⟩:=gr.q ((((ZPp.mk (x.ap i j d) f x.t K).pt 2).cg).lnk 2 f.had) ((fZ g'.srt).2 (.inl rfl));have e0:updB x.B f.key (ano ⟨x.ap i j d,f,5⟩ x.t K) ((((ZPp.mk (x.ap i j d) f x.t K).pt 2).cg).lnk 2 f.had).key=ano ⟨x.ap i j d,f,5⟩ x.t K:=if_pos rfl;rw[e0]at q6
         exact q6.1⟩
        L:=⟨(((ZPp.mk (x.ap i j d) f x.t K).pt 2).cg).lnk 2 f.had,rfl,hF.key⟩
        r:=rfl
        n:=rfl
        e:=⟨(((ZPp.mk (x.ap i j d) f x.t K).pt 2).cg).eff 2 f.had,hF.ep,λi=>rfl⟩
        now:=oP _ _ _ _
        pool:=⟨i,j,htk,rfl⟩
        keep:=λb ln hk=>(kp b ln hk).dev gr rfl (K:=K) (n:=(spn x.c).toNat) (λm r hr hm=>by
         show(d.store K 0 64 _).b (m*193+r)=d.b (m*193+r)
         rw[yZ _ _ _ _ _ hr,if_neg λe=>hm ⟨by omega,by have s:=dM x.c;have f:=hh.fits g';omega⟩]) ((kp b ln hk).apart g' hh λe=>hn (by rw[<-e];exact hk.has))
        bag:=⟨(((ZPp.mk (x.ap i j d) f x.t K).pt 2).cg).ent 2,rfl,by
         rw[<-wh];show(if f.had=true/\(2:Int)≠4 then x.a.b.put _ else x.a.b)=_
         cases f.had<;>rfl⟩
        note:=⟨K,by
         show x.a.c.notes x.t (K:Int) (ano ⟨x.ap i j d,f,5⟩ x.t K).dK=_;have:(ano ⟨x.ap i j d,f,5⟩ x.t K).dK=x.sp:=by show(spn f.cls).toNat=_;rw[hc];rfl
         rw[this]⟩}
 | @leave f a' B' hc hf ha he gp=>
  have e:=hg (by show¬(6:Int)=0;decide);refine⟨by omega,by show¬(6:Int)=7;decide,wp6 gp.base rfl ht λgr=> .inl ⟨rfl,rfl,.done (B':=B') e hc hf ha he ?_⟩⟩;exact{base:=gr,bk:=gp.bk,L:=gp.L,r:=by show a'.r.put x.t 0=_;rw[gp.r],n:=gp.n,e:=gp.e,now:=gp.now,pool:=gp.pool,bag:=gp.bag,keep:=λb ln hk=>gp.keep b ln hk,note:=gp.note}
 | @full f hc hf ha he hfu=>
  have e:=hg (by show¬(6:Int)=0;decide);exact⟨by omega,by show¬(6:Int)=7;decide,wp6 g1 rfl ht λ_=> .inl ⟨rfl,rfl,.full e hc hf ha he hfu⟩⟩
inductive amg (x:ZWp):Nat->Nat->ZKs->Prop
 |enter:amg x 1 0 ⟨x.a,fK x.key x.v,0⟩
 |ap4 {j f} (h:FP x f) (hs:ama f) (hj:j+(ZKs.mk x.a1 f 1).acJ=2+x.far):amg x j 0 ⟨x.a1,f,1⟩
 |read {f m y ln} (h:FP x f) (hh:f.had=true) (hw:fF x.a.L x.key=some y) (hl:y.line=(ln:Nat)) (ho:f.old=y) (hp:f.piece=(m:Nat)) (hlt:(m:Int)<spn (x.B x.key).cls):amg x (3+x.far+m) m ⟨x.a1,f,2⟩
 |leave {j f} (hj:j<=200) (hc:f.code=0) (he:f.aep=0) (h:f.found=false/\f.ans=⟨#[]⟩/\fF x.a.L x.key=none\/f.found=true/\f.ans=(x.B x.key).value/\ ∃y,fF x.a.L x.key=some y):amg x j 0 ⟨x.a1,f,6⟩
inductive aqm (x:ZWp):ZKs->Prop
 |bad {s} (h:goodP 1 x.key x.v≠0) (hs:s=⟨x.a,{fK x.key x.v with code:=goodP 1 x.key x.v},7⟩):aqm x s
 |miss {f} (h:goodP 1 x.key x.v=0) (hc:f.code=0) (he:f.aep=0) (hf:f.found=false) (ha:f.ans=⟨#[]⟩) (hw:fF x.a.L x.key=none):aqm x ⟨x.a2,f,7⟩
 |hit {f y} (h:goodP 1 x.key x.v=0) (hc:f.code=0) (he:f.aep=0) (hf:f.found=true) (ha:f.ans=(x.B x.key).value) (hw:fF x.a.L x.key=some y):aqm x ⟨x.a2,f,7⟩
theorem amh{x:ZWp}(hx:x.ok){j m:Nat}{s:ZKs}(h:amg x j m s)(hg:s.ph≠0->goodP 1 x.key x.v=0):j<=400/\s.ph≠7/\wP 1 x.t (x.B x.key) m s (λm' y=>(y.ph=7/\m'=0/\aqm x y)\/(amg x (j+1) m' y/\(y.ph≠0->goodP 1 x.key x.v=0))):=by
 obtain⟨g,ht,hr,hM,hN⟩:=hx;have hfar:x.far<=100:=Nat.le_trans anp (Nat.le_trans g.len hN);have g1:eG x.a1 x.T x.M x.N x.B:=g.Fv;cases h with
 |enter=>
  refine⟨by decide,by show¬(0:Int)=7;decide,wp0 g ht hr rfl (λe=> .inl ⟨rfl,rfl,.bad e rfl⟩) λe _=> .inr ⟨.ap4 ⟨rfl,rfl,rfl,rfl,rfl,rfl,rfl⟩ ⟨(yw e).2.1,by show(0:Nat)<=16;decide,λh=>by cases h⟩ ?_,λ_=>e⟩⟩;show 1+1+(fl x.a.L (bkt x.key) ⟨#[]⟩ false x.key).length=2+x.far;unfold ZWp.far;omega
 | @ap4 j f hF hs hj=>
  have e:=hg (by show¬(1:Int)=0;decide);refine⟨by omega,by show¬(1:Int)=7;decide,Fe (k:=1) (t:=x.t) (b:=x.B x.key) g1 rfl hs (λh=>by cases h) (λy hy hs' hgo=> .inr ⟨.ap4 ⟨hF.key,hF.value,hF.code,hF.found,hF.ans,hF.ep,hF.aep⟩ hs' (by have hgo:(ZKs.mk x.a1 f 1).acJ=(ZKs.mk x.a1 {f with pos:=y.key,past:=true} 1).acJ+1:=hgo;show j+1+(ZKs.mk x.a1 {f with pos:=y.key,past:=true} 1).acJ=2+x.far;omega),λ_=>e⟩) (λy hy h0=> ?_) λhy h0=> ?_⟩
  ·have hy:fF x.a.L f.key=some y:=hy
   rw[hF.key]at hy;have hm:=lQ hy;obtain⟨ln,q1,k1,k2,k3,k4,q2,_⟩:=g.q y hm.1;have hsp:(0:Int)<spn (x.B x.key).cls:=by
    have h1:=q2.1.1;rw[hm.2]at h1;have:=dM (x.B x.key).cls;omega
   have:=amg.read (x:=x) (f:={f with had:=true,old:=y,piece:=0}) (m:=0) (y:=y) (ln:=ln) ⟨hF.key,hF.value,hF.code,hF.found,hF.ans,hF.ep,hF.aep⟩ rfl hy q1 rfl rfl hsp;rw[show j+1=3+x.far+0 by omega];exact .inr ⟨this,λ_=>e⟩
  ·have hy:fF x.a.L f.key=none:=hy
   rw[hF.key]at hy;exact .inr ⟨.leave (by omega) hF.code hF.aep (.inl ⟨hF.found,hF.ans,hy⟩),λ_=>e⟩
 | @read f m y ln hF hh hw hl ho hp hlt=>
  have e:=hg (by show¬(2:Int)=0;decide);have hm:=lQ hw;obtain⟨ln',q1,k1,k2,k3,k4,q2,_⟩:=g.q y hm.1;have el:ln'=ln:=by have:=q1.symm.trans hl;omega
  subst el;have hsp:=dM (x.B x.key).cls;rw[hm.2]at k1 k2 k3 k4 q2;refine⟨by omega,by show¬(2:Int)=7;decide,wp2 (k:=1) rfl rfl g1.dok (ln:=ln') q2 hh ?_ hp hlt (λhne=> ?_) λheq=> ?_⟩
  ·show f.old=_
   rw[ho,k1,k2,k3,k4,<-q1,<-hm.2]
  ·have:=amg.read (x:=x) (f:={f with piece:=(m+1:Nat)}) (m:=m+1) (y:=y) (ln:=ln') ⟨hF.key,hF.value,hF.code,hF.found,hF.ans,hF.ep,hF.aep⟩ hh hw hl ho rfl (by omega)
   rw[show 3+x.far+m+1=3+x.far+(m+1) by omega];exact .inr ⟨this,λ_=>e⟩
  ·exact .inr ⟨.leave (by omega) hF.code hF.aep (.inr ⟨rfl,rfl,y,hw⟩),λ_=>e⟩
 | @leave j f hj hc he h=>
  have e:=hg (by show¬(6:Int)=0;decide);refine⟨by omega,by show¬(6:Int)=7;decide,wp6 g1 rfl ht λ_=> .inl ⟨rfl,rfl,?_⟩⟩;rcases h with ⟨h1,h2,h3⟩|⟨h1,h2,y,h3⟩
  ·exact .miss e hc he h1 h2 h3
  ·exact .hit e hc he h1 h2 h3
noncomputable def aiD:Ctr:={X:=ZWp,args:=λx=>[.ptr 0 0,i64 x.t,ape 2 x.key x.v],k:=1,os:=λx=>[.abs (ownM x.a.os)],pre:=λx=>Hd x.ok,outs:=[
 {Y:=Unit,post:=λx _=>Hd (goodP 2 x.key x.v≠0),ret:=λx _=> .tup [agz (goodP 2 x.key x.v) false ⟨#[]⟩ 0,i64 1,boo true],m:=1,os:=λx _=>[.abs (ownM x.a.os)]},
 {Y:=Unit,post:=λx _=>Hd (goodP 2 x.key x.v=0/\ ∀i,i<x.a.p.n->x.a.p.cls i≠ -1/\x.a.p.full x.c i),ret:=λx _=> .tup [agz 4 false ⟨#[]⟩ 0,i64 (4+x.far:Nat),boo true],m:=1,os:=λx _=>[.abs (ownM x.a2.os)]},
 {Y:=ZSto,post:=λx y=>Hd (goodP 2 x.key x.v=0/\ ∃B',PPut x ((x.a.r.put x.t x.a.r.now).put x.t 0) y B'),ret:=λx _=> .tup [agz 0 x.had ⟨#[]⟩ x.a.c.now,i64 (5+x.far+x.sp:Nat),boo true],m:=1,os:=λ_ y=>[.abs (ownM y.os)]}]}
noncomputable def aiE:Ctr:={X:=ZWp,args:=λx=>[.ptr 0 0,i64 x.t,ape 1 x.key x.v],k:=1,os:=λx=>[.abs (ownM x.a.os)],pre:=λx=>Hd x.ok,outs:=[
 {Y:=Nat,post:=λx _=>Hd (goodP 1 x.key x.v≠0),ret:=λx n=> .tup [agz (goodP 1 x.key x.v) false ⟨#[]⟩ 0,i64 n,boo true],m:=1,os:=λx _=>[.abs (ownM x.a.os)]},
 {Y:=Nat,post:=λx _=>Hd (goodP 1 x.key x.v=0/\fF x.a.L x.key=none),ret:=λx n=> .tup [agz 0 false ⟨#[]⟩ 0,i64 n,boo true],m:=1,os:=λx _=>[.abs (ownM x.a2.os)]},
 {Y:=Nat,post:=λx _=>Hd (goodP 1 x.key x.v=0/\ ∃y,fF x.a.L x.key=some y),ret:=λx n=> .tup [agz 0 true (x.B x.key).value 0,i64 n,boo true],m:=1,os:=λx _=>[.abs (ownM x.a2.os)]}]}
theorem anq{X:Type}{x:X}{v:AV}{h':Heap}{o p q:Out X}{r:List (Out X)}(h: ∃y,q.post x y/\v=q.ret x y/\h'=hO q.m (q.os x y)):lK x v h' (o::p::q::r):=by
 rw[dU,dU,dU];exact .inr (.inr (.inl h))
theorem acB:bZ Tryz.prog 35 aiD:=jS λx hx=>by
 have hx:=aZ.1 hx;refine⟨_,ame,rfl,⟨x.a,x.t,x.key,x.v,zBk,λj m s=>Rl x j m s/\(s.ph≠0->goodP 2 x.key x.v=0),aql x⟩,aZ.2 ⟨⟨.enter,λh=>absurd rfl h⟩,λj m s h=>amf hx h.1 h.2⟩,rfl,rfl,λv h' hh=> ?_⟩;obtain⟨⟨s,n,m⟩,h0,e1,e2⟩:=jT hh;have h0:aql x n s:=aZ.1 h0;cases h0 with
 |bad h hs=>
  subst hs;exact fE ⟨(),aZ.2 h,e1,e2⟩
 | @full f h hc hf ha he hfu=>
  refine D7 ⟨(),aZ.2 ⟨h,hfu⟩,e1.trans ?_,e2⟩;show AV.tup [agz f.code f.found f.ans f.aep,_,_]=_;rw[hc,hf,ha,he]
  first|done|rfl
 | @done f a' B' h hc hf ha he g=>
  refine anq ⟨a',aZ.2 ⟨h,B',g⟩,e1.trans ?_,e2⟩;show AV.tup [agz f.code f.found f.ans f.aep,_,_]=_;rw[hc,hf,ha,he]
  first|done|rfl
theorem acC:bZ Tryz.prog 35 aiE:=jS λx hx=>by
 have hx:=aZ.1 hx;refine⟨_,amd,rfl,⟨x.a,x.t,x.key,x.v,x.B x.key,λj m s=>amg x j m s/\(s.ph≠0->goodP 1 x.key x.v=0),λ_=>aqm x⟩,aZ.2 ⟨⟨.enter,λh=>absurd rfl h⟩,λj m s h=>amh hx h.1 h.2⟩,rfl,rfl,λv h' hh=> ?_⟩;obtain⟨⟨s,n,m⟩,h0,e1,e2⟩:=jT hh;have h0:aqm x s:=aZ.1 h0;cases h0 with
 |bad h hs=>
  subst hs;exact fE ⟨n,aZ.2 h,e1,e2⟩
 | @miss f h hc he hf ha hw=>
  refine D7 ⟨n,aZ.2 ⟨h,hw⟩,e1.trans ?_,e2⟩;show AV.tup [agz f.code f.found f.ans f.aep,_,_]=_;rw[hc,hf,ha,he]
  first|done|rfl
 | @hit f y h hc he hf ha hw=>
  refine anq ⟨n,aZ.2 ⟨h,y,hw⟩,e1.trans ?_,e2⟩;show AV.tup [agz f.code f.found f.ans f.aep,_,_]=_;rw[hc,hf,ha,he]
  first|done|rfl
noncomputable def ap6:WTr:=λargs h K=>match args with
 |[a,t,.agg l]=>(bif decide (intL l 0=2)then ctrT aiD else ctrT aiE) [a,t,.agg l] h K
 |_=>False
theorem ami(args:List AV)(h:Heap)(K:AV->Heap->Prop)(hq:ap6 args h K):Sp Tryz.prog 35 args h K:=by
 unfold ap6 at hq;split at hq
 ·exact amY (P:=Tryz.prog) (f:=35) _ (bP acB) (bP acC) _ _ _ hq
 ·exact hq.elim
noncomputable def Cb:Ctr:=det Unit (λ_=>[]) 0 (λ_=>[]) (λ_=>True) (λ_=>boo true) 0 (λ_=>[])
noncomputable def aiF:jf:=[(13,ctrT ahp.ctr),(35,ap6)]
theorem Rn:dX Tryz.prog aiF:= .cons (bP apR) (.cons ami .nil)
def sJ:Prop:= ∃y_3:Unit,True/\true=false/\True
def aiG:Prop:=ByteArray.mk #[]=ByteArray.mk #[]/\Value.slice none 0 0=Value.slice none 0 0/\True
def ZB(a:ZWp):Prop:=0=0/\(a.t:Int)=0/\((1:Int)=1/\a.key= @ByteArray.mk (@List.toArray UInt8 [(97:UInt8)])/\a.v=ByteArray.mk #[]/\aiG)/\True
def ZC(a:ZWp):Prop:=Hd (goodP (1:Int) a.key a.v=0/\ ∃y_3:ZLnk,fF a.a.L a.key=some y_3)
def MR(a:ZWp):Prop:=Hd (goodP (1:Int) a.key a.v=0/\fF a.a.L a.key= @Option.none ZLnk)
def MV(a:ZWp):Prop:=cP (BEq.beq ((4+a.far:Nat):Int) (6:Int)) sJ sJ
def Xw(a:ZWp):Prop:=cP (BEq.beq ((5+a.far+a.sp:Nat):Int) (6:Int)) (cP (BEq.beq a.a.c.now (1:Int)) sJ sJ) sJ
def Fh(x:Unit):Prop:=
 ∃x_1:ZNew,Hd (10<=x_1.n/\x_1.n<=258/\1<=x_1.t/\x_1.t<=4)/\((x_1.n:Int)=10/\(x_1.t:Int)=1/\True)/\True/\ ∀y:DevM,Hd (y.ok/\y.n=x_1.n/\y.st=2/\y.fl=2/\y.fe=1)-> ∃x_2:ZWp,Hd x_2.ok/\(0=0/\(x_2.t:Int)=0/\((2:Int)=2/\x_2.key= @ByteArray.mk (@List.toArray UInt8 [(97:UInt8)])/\x_2.v= @ByteArray.mk (@List.toArray UInt8 [(49:UInt8)])/\aiG)/\True)/\(ownM x_2.a.os=ownM (ZSto.os (newSto x_1.n x_1.t y))/\True)/\(∀y_1:Unit,Hd (goodP (2:Int) x_2.key x_2.v≠(0:Int))-> ∃x_3:ZWp,Hd x_3.ok/\ZB x_3/\(ownM x_3.a.os=ownM x_2.a.os/\True)/\(∀y_2:Nat,Hd (goodP (1:Int) x_3.key x_3.v≠(0:Int))->sJ)/\(∀y_2:Nat,MR x_3->sJ)/\ ∀y_2:Nat,ZC x_3->sJ)/\(∀y_1:Unit,Hd (goodP (2:Int) x_2.key x_2.v=0/\ ∀i:Nat,i<x_2.a.p.n->x_2.a.p.cls i≠(-(1:Int))/\x_2.a.p.full x_2.c i)-> ∃x_3:ZWp,Hd x_3.ok/\ZB x_3/\(ownM x_3.a.os=ownM x_2.a2.os/\True)/\(∀y_2:Nat,Hd (goodP (1:Int) x_3.key x_3.v≠(0:Int))->MV x_2)/\(∀y_2:Nat,MR x_3->MV x_2)/\ ∀y_2:Nat,ZC x_3->MV x_2)/\ ∀y_1:ZSto,Hd (goodP (2:Int) x_2.key x_2.v=0/\ ∃B': ∀a:ByteArray,ZBlk,PPut x_2 (ZRd.put (x_2.a.r.put x_2.t x_2.a.r.now) x_2.t (0:Int)) y_1 B')-> ∃x_3:ZWp,Hd x_3.ok/\ZB x_3/\(ownM x_3.a.os=ownM y_1.os/\True)/\(∀y_2:Nat,Hd (goodP (1:Int) x_3.key x_3.v≠(0:Int))->Xw x_2)/\(∀y_2:Nat,MR x_3->Xw x_2)/\ ∀y_2:Nat,ZC x_3->cP (BEq.beq ((5+x_2.far+x_2.sp:Nat):Int) (6:Int)) (cP (BEq.beq x_2.a.c.now (1:Int)) (∃y_3:Unit,True/\true=BEq.beq (ByteArray.toList (ZBlk.value (x_3.B x_3.key))) (ByteArray.toList (@ByteArray.mk (@List.toArray UInt8 [(49:UInt8)])))/\
 True) sJ) sJ
theorem Ro(x:Unit):Fh x=wpF Tryz.prog aiF tt (noA x) 200 6 32 (Cb.args x) (hO 0 []) (λv h'=>eX 0 x v h' Cb.outs):=by kernel_rfl
theorem Xx{n:Nat}(hn:0<n){c:Int}: ¬ ∀i,i<(gy n n).n->(gy n n).cls i≠ -1/\(gy n n).full c i:=λh=>(h 0 hn).1 (if_pos hn)
theorem eG.new{n T:Nat}{d:DevM}(h:d.ok/\d.n=n/\d.st=2/\d.fl=2/\d.fe=1)(hn:10<=n/\n<=258)(hT:1<=T/\T<=4)(B:ByteArray->ZBlk):eG (newSto n T d) T 10 0 B:={
 dok:=h.1
 dst:=by show d.st<=_;omega
 dfl:=by show d.fl<=_;omega
 dfe:=by show d.fe<=_;omega
 rok:=⟨hT.1,hT.2,show(1:Int)<=1 by decide,show(1:Int)<4611686018427387904 by decide⟩
 rt:=rfl
 cok:=⟨hT.1,hT.2,⟨show(0:Int)<=0+1 by decide,show(0:Int)+1<4611686018427387904 by decide⟩,⟨Int.le_refl 0,show(0:Int)<4611686018427387904 by decide⟩,⟨Int.le_refl 0,show(0:Int)<4611686018427387904 by decide⟩,λ_=>⟨Int.le_refl 0,show(0:Int)<1099511627776 by decide⟩⟩
 ct:=rfl
 ph:=rfl
 OL:=rfl
 pg:=by
  refine⟨⟨by show 1<=(n-2)/8;omega,by show(n-2)/8<=32;omega,λi hi=> ?_⟩,λi hi=> ?_⟩
  ·have hi:i<(n-2)/8:=hi
   show-1<=(if i<(n-2)/8 then(-1:Int)else 0)/\(if i<(n-2)/8 then(-1:Int)else 0)<=3/\(0:Int)<=0/\(0:Int)<=8;rw[if_pos hi];decide
  ·exact⟨λ_ _=>rfl,λk hk=>(nomatch hk),(congrArg Int.ofNat (Qg (λ_=>rfl) 8)).symm⟩
 fit:=by show 2+(n-2)/8*8<=d.n;omega
 bok:=⟨Nat.zero_le _,λ_=>rfl⟩
 lok:=⟨show 0<1099511627776 by decide,aY 0,aY 0,λ_=>rfl,λh=>absurd rfl h⟩
 ln:=rfl
 srt:=List.Pairwise.nil
 len:=aY 0
 id0:=Int.le_refl 0
 id1:=show(0:Int)<=10 by decide
 v0:=Int.le_refl 0
 v1:=show(0:Int)<=10 by decide
 nn:=show 0<=10 by decide
 now0:=show(1:Int)<=0+1 by decide
 ar9:=show(0:Int)+1<=10 by decide
 owed:=λ_=>show(0:Int)<=10 by decide
 used:=λK _ hu=>by
  rcases hu with ⟨y,hy,_⟩|⟨i,hi,_⟩
  ·cases hy
  ·exact absurd hi (Nat.not_lt_zero i)
 q:=λy hy=>by cases hy}
theorem Gl(u:Unit):Fh u:=by
 unfold Fh;simp only[aiG,ZB,sJ,MR,ZC,MV,Xw];simp only[aZ,aV,aU,aA,aI,bT,bF,aO,aK,ay,aX,aW,bU,bH,bI,bJ,bV,bD,bK,bC,eY,aH,aN,ah,ak,aB,aF,aC,aG];refine⟨⟨10,1⟩,by decide,⟨rfl,rfl⟩,λd hd=> ?_⟩;have g0:=eG.new (n:=10) (T:=1) hd (by decide) (by decide) (λ_=>zBk);refine⟨⟨newSto 10 1 d,1,10,0,λ_=>zBk,0,⟨#[97]⟩,⟨#[49]⟩⟩,⟨g0,by show 0<1;decide,rfl,by show 10<=900000;decide,by show 0<=100;decide⟩,⟨rfl,rfl,rfl⟩,rfl,λh=>absurd (show goodP 2 ⟨#[97]⟩ ⟨#[49]⟩=0 by decide) h,λh=>absurd h.2 (Xx (n:=1) (by decide)),λa' h=> ?_⟩;obtain⟨_,B',g⟩:=h;obtain⟨l,hl,hk⟩:=g.L;obtain⟨b,hb,hv,_⟩:=g.bk;refine⟨⟨a',1,410,1,B',0,⟨#[97]⟩,⟨#[]⟩⟩,⟨g.base,by show 0<1;decide,by show a'.r.has 0=0;rw[g.r];rfl,by show 410<=900000;decide,by show 1<=100;decide⟩,⟨rfl,rfl,rfl⟩,rfl,λ_ h=>absurd (show goodP 1 ⟨#[97]⟩ ⟨#[]⟩=0 by decide) h,λ_ h=> ?_,λ_ h=> ?_⟩
 ·exfalso
  have h:fF a'.L ⟨#[97]⟩=none:=h.2;rw[hl]at h;have:=akP (l:=l) (s:=⟨#[97]⟩) (show srt (newSto 10 1 d).L from g0.srt);rw[if_pos (show(⟨#[97]⟩:ByteArray)=l.key from hk.symm)]at this;have h':=this.symm.trans h;cases h'
 ·have e0:B' ⟨#[97]⟩=b:=by rw[hb];exact if_pos rfl
  refine bf (λ_=>bf (λ_=> ?_) λh=> ?_) λh=> ?_
  ·show true=((B' ⟨#[97]⟩).value.toList==(⟨#[49]⟩:ByteArray).toList)
   rw[e0,hv];exact(beq_self_eq_true _).symm
  ·exact Bool.noConfusion (show true=false from h)
  ·exact Bool.noConfusion (show true=false from h)
theorem acD:bZ Tryz.prog 32 Cb:=dR dF mixed Rn noA 200 6 (λ_=>rfl) (λ_=>rfl) λx _=>Eq.mp (Ro x) (Gl x)
namespace ZPool
end ZPool












section
variable{a:UY}{T M:Nat}{b:Nat->ZBlk}
end




section
variable{a:UY}{T M:Nat}{b:Nat->ZBlk}
end
section
variable{a:ZSto}{T M N:Nat}{B:ByteArray->ZBlk}
end
def epc(key v:ByteArray):Int:=ned ((key.size+v.size:Nat):Int)
def eps(key v:ByteArray):Nat:=(spn (epc key v)).toNat
section
variable{key v:ByteArray}{nw:Int}{n M M':Nat}{s:ZKs}{r:Nat}
theorem ZE(hk:key.size<=16)(hv:v.size<=400):(eps key v:Int)=spn (epc key v)/\1<=eps key v/\eps key v<=8/\0<=epc key v/\epc key v<=3:=by
 have h1:0<=epc key v/\epc key v<=3:=aiA (n:=key.size+v.size) (by omega);have:=dM (epc key v);unfold eps;omega
end
section
variable{a:ZSto}{T M N:Nat}{B:ByteArray->ZBlk}
theorem iC.two(g:eG a T M N B){K K':Nat}{c c':Int}(h:iC a K c)(h':iC a K' c')(hne:K≠K'):(K:Int)+spn c<=K'\/(K':Int)+spn c'<=K:=by
 obtain⟨⟨i,j,h1,rfl⟩,_⟩:=h;obtain⟨⟨i',j',h2,rfl⟩,_⟩:=h';exact Fb g.pg h1 h2 (by omega)
theorem iC.putK{t K:Nat}{f:ZFp}{had:Bool}(hs:srt a.L)(hw:fF a.L f.key=if had=true then some f.old else none){K':Nat}{c':Int}(h:iC a K' c')(hne:K'≠K):iC (((ZPp.mk a f t K).pt 2).cg.res 2 had) K' c':=by
 obtain⟨h1,h2,h3⟩:=h;have hold:had=true->f.old∈a.L:=λe=>by
  rw[if_pos e]at hw;exact(lQ hw).1
 have hb:(((ZPp.mk a f t K).pt 2).cg.res 2 had).b=if had=true then a.b.put (((ZPp.mk a f t K).pt 2).cg.ent 2)else a.b:=by cases had<;>rfl
 refine⟨h1,λy hy=> ?_,λhu=> ?_⟩
 ·rcases (fZ hs).1 (show y∈iW a.L (((ZPp.mk a f t K).pt 2).cg.lnk 2 had) from hy)with rfl|⟨hy,_⟩
  ·show((K:Nat):Int)≠K'
   omega
  ·exact h2 y hy
 ·have hu:acH.inB ⟨(((ZPp.mk a f t K).pt 2).cg.res 2 had).b,a.l,K'⟩:=hu
  rw[hb]at hu;by_cases e:had=true
  ·rw[if_pos e]at hu
   rcases agF hu with hu|hu|hu
   ·exact h3 hu
   ·exact h2 _ (hold e) hu
   ·have hu:(-1:Int)=K':=hu
    omega
  ·rw[if_neg e]at hu
   exact h3 hu
end
def kk:ByteArray:=⟨#[107]⟩
structure dZ where
 f:ZFp
 ph:Int
 K:Nat
 q:Nat
 tk:Bool
 od:Nat
 r:Nat
def MW(x:dZ):Prop:=x.ph=4\/x.ph=5\/(x.ph=1/\x.tk=true)
theorem MX{x:dZ}(h4:x.ph≠4)(h5:x.ph≠5)(h1:x.ph=1->x.tk=false): ¬MW x:=λe=>by
 rcases e with e|e|⟨e,k⟩
 ·exact h4 e
 ·exact h5 e
 ·rw[h1 e]at k;cases k
def yA(x:dZ):Nat:=if x.ph=6\/x.ph=7 then 1 else 0
def tkN(x:dZ):Nat:=if x.tk=true then 1 else 0
def eT(o:Nat):Nat:=if o=0 then 2 else 0
def dT(o q:Nat):Nat:=eT o+if q=o then 0 else 2
def aiH(a:ZSto)(o:Nat)(x:dZ):Prop:=x.q<=o/\(x.q=o->fF a.L kk=if x.f.had=true then some x.f.old else none)
def ap7(V:Nat->ByteArray)(a:ZSto)(t:Nat)(x:dZ):Prop:=x.tk=true/\x.f.line=(x.K:Nat)/\x.f.cls=epc kk (V t)/\iC a x.K (epc kk (V t))
def Th0(V:Nat->ByteArray)(t:Nat)(x:dZ):Prop:=x.f.key=kk/\x.f.value=V t/\x.f.code=0/\x.f.pos=⟨#[]⟩/\x.f.past=false
def ThP(V:Nat->ByteArray)(a:ZSto)(o t:Nat)(x:dZ):Prop:=
 (x.ph=0/\x.tk=false/\a.r.has t=0/\x.f.line= -1/\5+eps kk (V t)+eT o<=x.r)\/
 (x.ph=1/\x.tk=false/\x.f.epoch=1/\x.f.line= -1/\4+eps kk (V t)+eT o<=x.r)\/
 (x.ph=3/\x.tk=false/\x.f.epoch=1/\aiH a o x/\3+eps kk (V t)+dT o x.q<=x.r)\/
 (x.ph=4/\ap7 V a t x/\x.f.epoch=1/\aiH a o x/\ ∃p:Nat,x.f.piece=p/\p<eps kk (V t)/\MK a.d x.K kk (V t) p/\2+(eps kk (V t)-p)+dT o x.q<=x.r)\/
 (x.ph=5/\ap7 V a t x/\x.f.epoch=1/\aiH a o x/\MK a.d x.K kk (V t) (eps kk (V t))/\2+dT o x.q<=x.r)\/
 (x.ph=1/\ap7 V a t x/\x.f.epoch=1/\MK a.d x.K kk (V t) (eps kk (V t))/\3+eT o<=x.r)\/
 (x.ph=6/\x.tk=true/\x.f.found=decide (x.od=1)/\x.od<o/\1<=x.r)\/
 (x.ph=7/\x.tk=true/\x.f.found=decide (x.od=1)/\x.od<o/\a.r.has t=0)
def Th(V:Nat->ByteArray)(a:ZSto)(o t:Nat)(x:dZ):Prop:=Th0 V t x/\ThP V a o t x
structure TW (o M:Nat) (B:ByteArray->ZBlk) (last:ByteArray) (a:ZSto):Prop where
 base:eG a 2 M o B
 o2:o<=2
 n:a.n=o
 now:a.c.now=1
 L0:o=0->a.L=[]
 L1:o≠0-> ∃l,a.L=[l]/\l.key=kk/\(B kk).value=last
def MZ(t i:Nat):Nat:=if i<60 then 30 else(120+t-i)/2
structure TS (V:Nat->ByteArray) (M o:Nat) (B:ByteArray->ZBlk) (last:ByteArray) (a:ZSto) (X:Nat->dZ) (i:Nat):Prop where
 w:TW o M B last a
 th: ∀t,t<2->Th V a o t (X t)
 cnt: ∀t u,t+u=1->o=yA (X t)+yA (X u)
 ne: ∀t u,t+u=1->MW (X t)->MW (X u)->(X t).K≠(X u).K
 od: ∀t u,t+u=1->yA (X t)=1->yA (X u)=1->(X t).od≠(X u).od
 pn:a.p.n=4
 tk: ∀t u,t+u=1-> ∀j,tkN (X t)+tkN (X u)<=j->j<4->a.p.cls j= -1
 r: ∀t,t<2->(X t).r<=MZ t i
def anr(X:Nat->dZ)(t:Nat)(x:dZ):Nat->dZ:=λq=>if q=t then x else X q
section
variable{V:Nat->ByteArray}{M M' o o':Nat}{B B':ByteArray->ZBlk}{last last':ByteArray}{a a':ZSto}{X:Nat->dZ}{i t u:Nat}{x x':dZ}
theorem Th.keep(h:Th V a o u x)(hr:a'.r.has u=a.r.has u)(ho:o<=o')(hs:(x.ph=3\/x.ph=4\/x.ph=5)->(o'=o/\a'.L=a.L)\/(o=0/\o'=1))(hp:MW x->iC a x.K (epc kk (V u))->iC a' x.K (epc kk (V u))/\ ∀n,n<=eps kk (V u)->MK a.d x.K kk (V u) n->MK a'.d x.K kk (V u) n):Th V a' o' u x:=by
 have he:eT o'<=eT o:=by unfold eT;split<;>split<;>omega
 have hsn:(x.ph=3\/x.ph=4\/x.ph=5)->aiH a o x->aiH a' o' x/\dT o' x.q<=dT o x.q:=λh3 hq=>by
  obtain⟨q1,q2⟩:=hq;rcases hs h3 with ⟨rfl,e⟩|⟨rfl,rfl⟩
  ·exact⟨⟨q1,λh=>by rw[e];exact q2 h⟩,aY _⟩
  ·have q0:x.q=0:=by omega
   exact⟨⟨by omega,λh=>by omega⟩,by rw[q0];decide⟩
 obtain⟨h0,h⟩:=h;refine⟨h0,?_⟩;rcases h with ⟨h1,h2,h3,h4,h5⟩|⟨h1,h2,h3,h4,h5⟩|⟨h1,h2,h3,h4,h5⟩|⟨h1,⟨k1,k2,k3,k4⟩,h3,h4,p,h5,h6,h7,h8⟩|⟨h1,⟨k1,k2,k3,k4⟩,h3,h4,h5,h6⟩|⟨h1,⟨k1,k2,k3,k4⟩,h3,h4,h5⟩|⟨h1,h2,h3,h4,h5⟩|⟨h1,h2,h3,h4,h5⟩
 ·exact .inl ⟨h1,h2,by rw[hr];exact h3,h4,by omega⟩
 ·exact .inr (.inl ⟨h1,h2,h3,h4,by omega⟩)
 ·obtain⟨s1,s2⟩:=hsn (.inl h1) h4
  exact .inr (.inr (.inl ⟨h1,h2,h3,s1,by omega⟩))
 ·obtain⟨s1,s2⟩:=hsn (.inr (.inl h1)) h4
  obtain⟨p1,p2⟩:=hp (.inl h1) k4;exact .inr (.inr (.inr (.inl ⟨h1,⟨k1,k2,k3,p1⟩,h3,s1,p,h5,h6,p2 _ (by omega) h7,by omega⟩)))
 ·obtain⟨s1,s2⟩:=hsn (.inr (.inr h1)) h4
  obtain⟨p1,p2⟩:=hp (.inr (.inl h1)) k4;exact .inr (.inr (.inr (.inr (.inl ⟨h1,⟨k1,k2,k3,p1⟩,h3,s1,p2 _ (aY _) h5,by omega⟩))))
 ·obtain⟨p1,p2⟩:=hp (.inr (.inr ⟨h1,k1⟩)) k4
  exact .inr (.inr (.inr (.inr (.inr (.inl ⟨h1,⟨k1,k2,k3,p1⟩,h3,p2 _ (aY _) h4,by omega⟩)))))
 ·exact .inr (.inr (.inr (.inr (.inr (.inr (.inl ⟨h1,h2,h3,by omega,h5⟩))))))
 ·exact .inr (.inr (.inr (.inr (.inr (.inr (.inr ⟨h1,h2,h3,by omega,by rw[hr];exact h5⟩))))))
theorem TS.mk'(hu:t+u=1)(w:TW o' M' B' last' a')(h1:Th V a' o' t x')(h2:Th V a' o' u (X u))(hc:o'=yA x'+yA (X u))(hne:MW x'->MW (X u)->x'.K≠(X u).K)(hod:yA x'=1->yA (X u)=1->x'.od≠(X u).od)(hn:a'.p.n=4)(htk: ∀j,tkN x'+tkN (X u)<=j->j<4->a'.p.cls j= -1)(hr:x'.r<=MZ t (i+1))(hr':(X u).r<=MZ u (i+1)):TS V M' o' B' last' a' (anr X t x') (i+1):=by
 have ht:anr X t x' t=x':=if_pos rfl;have hq:anr X t x' u=X u:=if_neg (by omega);have two: ∀k,k<2->k=t\/k=u:=λk hk=>by omega
 have two2: ∀k l,k+l=1->(k=t/\l=u)\/(k=u/\l=t):=λk l hk=>by omega
 refine⟨w,λk hk=> ?_,λk l hk=> ?_,λk l hk=> ?_,λk l hk=> ?_,hn,λk l hk=> ?_,λk hk=> ?_⟩
 ·rcases two k hk with rfl|rfl
  ·rw[ht];exact h1
  ·rw[hq];exact h2
 ·rcases two2 k l hk with ⟨rfl,rfl⟩|⟨rfl,rfl⟩<;>rw[ht,hq]<;>omega
 ·rcases two2 k l hk with ⟨rfl,rfl⟩|⟨rfl,rfl⟩<;>rw[ht,hq]
  ·exact hne
  ·exactλe1 e2 e=>hne e2 e1 e.symm
 ·rcases two2 k l hk with ⟨rfl,rfl⟩|⟨rfl,rfl⟩<;>rw[ht,hq]
  ·exact hod
  ·exactλe1 e2 e=>hod e2 e1 e.symm
 ·rcases two2 k l hk with ⟨rfl,rfl⟩|⟨rfl,rfl⟩<;>rw[ht,hq]
  ·exact htk
  ·exactλj hj=>htk j (by omega)
 ·rcases two k hk with rfl|rfl
  ·rw[ht];exact hr
  ·rw[hq];exact hr'
def TQ(V:Nat->ByteArray)(M:Nat)(last:ByteArray)(X:Nat->dZ)(i t:Nat)(y:ZKs):Prop:= ∃o B x',TS V M o B (if (X t).ph=5/\y.ph=6 then V t else last) y.a (anr X t x') (i+1)/\y.f=x'.f/\y.ph=x'.ph
theorem TS.step(h:TS V M o B last a X i)(hM:M<=900000)(hV: ∀t,(V t).size<=400)(ht:t<2)(hi:i<60\/t=i%2):wP 2 t zBk 0 ⟨a,(X t).f,(X t).ph⟩ (λ_ y=>TQ V (M+20) last X i t y):=by
 obtain⟨u,hu⟩: ∃u,t+u=1:=⟨1-t,by omega⟩;have hu2:u<2:=by omega
 have w:=h.w;have g:=w.base;have o2:=w.o2;obtain⟨⟨f1,f2,f3,f4,f5⟩,hp⟩:=h.th t ht;have thu:=h.th u hu2;have hcnt:=h.cnt t u hu;have hne:=h.ne t u hu;have hod:=h.od t u hu;have htk:=h.tk t u hu;have hrt:(X t).r-1<=MZ t (i+1):=by
  have:=h.r t ht;unfold MZ at this ⊢;split at this<;>split<;>omega
 have hru:(X u).r<=MZ u (i+1):=by
  have:=h.r u hu2;unfold MZ at this ⊢;split at this<;>split<;>omega
 obtain⟨z1,z2,z3,z4,z5⟩:=ZE (key:=kk) (v:=V t) (by decide) (hV t);have ks:(X t).f.key.size<=16:=by rw[f1];decide
 have vs:(X t).f.value.size<=400:=by rw[f2];exact hV t
 have ec:ndK 2 (X t).f=epc kk (V t):=by unfold ndK epc;rw[if_pos rfl,f1,f2]
 have up: ∀{a'},eG a' 2 M o B->a'.n=a.n->a'.c.now=a.c.now->a'.L=a.L->TW o (M+20) B last a':=λg' e1 e2 e3=>⟨g'.up (by omega) (aY _),o2,by rw[e1];exact w.n,by rw[e2];exact w.now,by rw[e3];exact w.L0,by rw[e3];exact w.L1⟩
 have up2: ∀{a'},eG a' 2 (M+20) o B->a'.n=a.n->a'.c.now=a.c.now->a'.L=a.L->TW o (M+20) B last a':=λg' e1 e2 e3=>⟨g',o2,by rw[e1];exact w.n,by rw[e2];exact w.now,by rw[e3];exact w.L0,by rw[e3];exact w.L1⟩
 have fin: ∀{a' f' ph' x'},¬((X t).ph=5/\ph'=6)->TW o (M+20) B last a'->Th V a' o t x'->Th V a' o u (X u)->yA x'=yA (X t)->(MW x'->MW (X u)->x'.K≠(X u).K)->(yA x'=1->x'.od=(X t).od)->a'.p.n=4->(∀j,tkN x'+tkN (X u)<=j->j<4->a'.p.cls j= -1)->x'.r<=(X t).r-1->f'=x'.f->ph'=x'.ph->TQ V (M+20) last X i t ⟨a',f',ph'⟩:=λ{a' f' ph' x'} hl w' t1 t2 e1 e2 e3 e4 e5 e6 e7 e8=>by
  refine⟨o,B,x',?_,e7,e8⟩;rw[if_neg hl];exact TS.mk' hu w' t1 t2 (by rw[e1];exact hcnt) e2 (λq1 q2=>by rw[e3 q1];exact hod (by rw[<-e1];exact q1) q2) e4 e5 (Nat.le_trans e6 hrt) hru
 have find: ∀{Q:Nat->ZKs->Prop},(X t).ph=1->(∀(hd:Bool) (y:ZLnk),(fF a.L kk=if hd=true then some y else none)->Q 0 ⟨a,{(X t).f with had:=hd,old:=y},nx3 (X t).f 2 hd⟩)->wP 2 t zBk 0 ⟨a,(X t).f,(X t).ph⟩ Q:=λhp hq=>by
  refine Fe g hp ⟨ks,by show(X t).f.pos.size<=16;rw[f4];decide,λe=>by(have e:(X t).f.past=true:=e);rw[f5]at e;cases e⟩ (λe=>by cases e) (λy hy hs _=> ?_) (λy hy _=> ?_) λhy _=> ?_
  ·exfalso
   have hy:y∈a.L:=hy;by_cases e0:o=0
   ·rw[w.L0 e0]at hy;cases hy
   ·obtain⟨l,e1,e2,_⟩:=w.L1 e0
    rw[e1,List.mem_singleton]at hy;have:=hs.2.2 rfl;have this:kl y.key (X t).f.key=true:=this;rw[hy,e2,f1,lD]at this;cases this
  ·have hy:fF a.L (X t).f.key=some y:=hy
   rw[f1]at hy;exact hq true y (by rw[hy];rfl)
  ·have hy:fF a.L (X t).f.key=none:=hy
   rw[f1]at hy;exact hq false iI (by rw[hy];rfl)
 rcases hp with ⟨h1,h2,h3,h4,h5⟩|⟨h1,h2,h3,h4,h5⟩|⟨h1,h2,h3,h4,h5⟩|⟨h1,⟨k1,k2,k3,k4⟩,h3,h4,p,h5,h6,h7,h8⟩|⟨h1,⟨k1,k2,k3,k4⟩,h3,h4,h5,h6⟩|⟨h1,⟨k1,k2,k3,k4⟩,h3,h4,h5⟩|⟨h1,h2,h3,h4,h5⟩|⟨h1,h2,h3,h4,h5⟩
 ·refine wp0 g ht h3 h1 (λe=>absurd ?_ e) λ_ g'=> ?_
  ·show goodP 2 (X t).f.key (X t).f.value=0
   unfold goodP;rw[if_neg (by rw[f1];decide),if_neg (by omega)]
  ·exact fin (x':={X t with f:={(X t).f with epoch:=a.c.now},ph:=1,r:=(X t).r-1}) (λe=>by omega) (up g' rfl rfl rfl) ⟨⟨f1,f2,f3,f4,f5⟩,.inr (.inl ⟨rfl,h2,w.now,h4,by show _<=(X t).r-1;omega⟩)⟩ (thu.keep (if_neg (by omega)) (aY _) (λ_=> .inl ⟨rfl,rfl⟩) λ_ hh=>⟨hh,λ_ _ hd=>hd⟩)
    (by unfold yA;rw[h1];rfl) (λe=>absurd e (MX (show(1:Int)≠4 by decide) (show(1:Int)≠5 by decide) (λ_=>h2))) (λ_=>rfl) h.pn htk (aY _) rfl rfl
 ·refine find h1 λhd y hw=> ?_
  have e3:nx3 (X t).f 2 hd=3:=by unfold nx3;rw[if_neg (by decide),if_neg (λe=>absurd e.1 (by decide)),if_pos (by omega)]
  rw[e3];exact fin (x':={X t with f:={(X t).f with had:=hd,old:=y},ph:=3,q:=o,r:=(X t).r-1}) (λe=>by omega) (up g rfl rfl rfl) ⟨⟨f1,f2,f3,f4,f5⟩,.inr (.inr (.inl ⟨rfl,h2,h3,⟨aY _,λ_=>hw⟩,by show 3+eps kk (V t)+dT o o<=(X t).r-1;unfold dT;rw[if_pos rfl];omega⟩))⟩ thu
   (by unfold yA;rw[h1];rfl) (λe=>absurd e (MX (show(3:Int)≠4 by decide) (show(3:Int)≠5 by decide) (λe=>absurd (show(3:Int)=1 from e) (by decide)))) (λ_=>rfl) h.pn htk (aY _) rfl rfl
 ·have tz:tkN (X t)=0:=by unfold tkN;rw[if_neg (by rw[h2];decide)]
  have tu:tkN (X u)<=1:=by unfold tkN;split<;>omega
  have room:a.p.cls (tkN (X u))= -1:=htk _ (by omega) (by omega);refine wp3 g (.inl rfl) h1 ks vs (λhf=>absurd room (hf (tkN (X u)) (by show _<a.p.n;rw[h.pn];omega)).1) λi j K t1 t2 t3 t4 t5=> ?_
  have t1:a.p.takes (ndK 2 (X t).f) i j:=t1;have t3:eG (a.Ld (a.p.take (ndK 2 (X t).f) i j)) 2 M o B:=t3;have t4:iC (a.Ld (a.p.take (ndK 2 (X t).f) i j)) K (ndK 2 (X t).f):=t4;show TQ V (M+20) last X _ t ⟨a.Ld (a.p.take (ndK 2 (X t).f) i j),{(X t).f with cls:=ndK 2 (X t).f,line:=K,piece:=0},4⟩;rw[ec]at t1 t3 t4 ⊢;have il:i<=tkN (X u):=by
   obtain⟨q1,q2,q3,q4⟩:=t1;rcases q4 with ⟨q4,_⟩|⟨q4,q5,_,q6⟩
   ·have:=htk i
    rw[h.pn]at q1;rcases Nat.lt_or_ge (tkN (X u)) i with hlt|hge
    ·have:=this (by omega) q1;omega
    ·exact hge
   ·rcases Nat.lt_or_ge (tkN (X u)) i with hlt|hge
    ·exact absurd room (q6 _ hlt)
    ·exact hge
  refine fin (x':={X t with f:={(X t).f with cls:=epc kk (V t),line:=K,piece:=0},ph:=4,K:=K,tk:=true,r:=(X t).r-1}) (λe=>by omega) (up t3 rfl rfl rfl) ⟨⟨f1,f2,f3,f4,f5⟩,.inr (.inr (.inr (.inl ⟨rfl,⟨rfl,rfl,rfl,t4⟩,h3,h4,0,rfl,by omega,λm r e1 e2 _=>absurd e2 (by omega),by show 2+(eps kk (V t)-0)+dT o (X t).q<=(X t).r-1;omega⟩)))⟩ (thu.keep rfl (aY _) (λ_=> .inl ⟨rfl,rfl⟩) λ_ hh=>⟨hh.take g t1,λ_ _ hd=>hd⟩)
   (by unfold yA;rw[h1];rfl) (λ_ e=> ?_) (λ_=>rfl) h.pn (λj e1 e2=> ?_) (aY _) rfl rfl
  ·show K≠(X u).K
   intro ek;have hh:iC a (X u).K (epc kk (V u)):=by
    obtain⟨_,hp⟩:=thu;rcases hp with ⟨h1,_⟩|⟨h1,h2,_⟩|⟨h1,_⟩|⟨_,⟨_,_,_,k4⟩,_⟩|⟨_,⟨_,_,_,k4⟩,_⟩|⟨_,⟨_,_,_,k4⟩,_⟩|⟨h1,_⟩|⟨h1,_⟩
    ·rcases e with e|e|e<;>omega
    ·rcases e with e|e|e
     ·omega
     ·omega
     ·rw[h2]at e;cases e.2
    ·rcases e with e|e|e<;>omega
    ·exact k4
    ·exact k4
    ·exact k4
    ·rcases e with e|e|e<;>omega
    ·rcases e with e|e|e<;>omega
   obtain⟨⟨i',j',q,_⟩,_⟩:=hh;exact t5 ⟨i',j',by rw[ek];exact q⟩
  ·have e1:1+tkN (X u)<=j:=e1
   show(if j=i then _ else a.p.cls j)= -1;rw[if_neg (by omega)];exact htk j (by omega) e2
 ·refine wp4 g (by omega) h1 ks vs (K:=(X t).K) (p:=p) (.inl rfl) k2 h5 (by rw[k3];omega) (by rw[k3];exact k4) (by rw[f1,f2];exact h7) (λd' hne' g' hh hd hb=> ?_) λd' he g' hh hd hb=> ?_
  all_goals
   rw[k3]at hh
   have ase:Th V (a.Fz d') o u (X u):=thu.keep rfl (aY _) (λ_=> .inl ⟨rfl,rfl⟩) λe hu'=>⟨hu',λn hn hd' m r m1 m2 m3=>by
    have hk:=hne (.inl h1) e;have ap:=iC.two g k4 hu' hk;obtain⟨y1,y2,y3,_⟩:=ZE (key:=kk) (v:=V u) (by decide) (hV u);show d'.b (((X u).K+m)*193+r)=_;rw[hb _ _ m3 (by rw[k3];omega)]
    exact hd' m r m1 m2 m3⟩
  ·have hne':(p:Int)+1≠spn (X t).f.cls:=hne'
   rw[k3]at hne';have hd:MK d' (X t).K (X t).f.key (X t).f.value (p+1):=hd;rw[f1,f2]at hd;exact fin (x':={X t with f:={(X t).f with piece:=(p+1:Nat)},r:=(X t).r-1}) (λe=>by omega) (up2 g' rfl rfl rfl) ⟨⟨f1,f2,f3,f4,f5⟩,.inr (.inr (.inr (.inl ⟨h1,⟨k1,k2,k3,hh⟩,h3,h4,p+1,rfl,by omega,hd,by show 2+(eps kk (V t)-(p+1))+dT o (X t).q<=(X t).r-1;omega⟩)))⟩ ase rfl (λ_ e=>hne (.inl h1) e) (λ_=>rfl) h.pn htk (aY _) rfl h1.symm
  ·have he:(p:Int)+1=spn (X t).f.cls:=he
   rw[k3]at he hd;have hd:MK d' (X t).K (X t).f.key (X t).f.value (eps kk (V t)):=hd;rw[f1,f2]at hd;exact fin (x':={X t with f:={(X t).f with piece:=0},ph:=5,r:=(X t).r-1}) (λe=>by omega) (up2 g' rfl rfl rfl) ⟨⟨f1,f2,f3,f4,f5⟩,.inr (.inr (.inr (.inr (.inl ⟨rfl,⟨k1,k2,k3,hh⟩,h3,h4,hd,by show 2+dT o (X t).q<=(X t).r-1;omega⟩))))⟩ ase (by unfold yA;rw[h1];rfl) (λ_ e=>hne (.inl h1) e) (λ_=>rfl) h.pn htk (aY _) rfl rfl
 ·have pt0:yA (X t)=0:=by unfold yA;rw[h1];rfl
  have pu1:yA (X u)<=1:=by unfold yA;split<;>omega
  by_cases hf:fF a.L kk=if (X t).f.had=true then some (X t).f.old else none
  ·have hw:fF a.L (X t).f.key=if (X t).f.had=true then some (X t).f.old else none:=by rw[f1];exact hf
   have hsz:(spn (X t).f.cls).toNat=eps kk (V t):=by rw[k3];rfl
   refine wp5p g (by omega) (by omega) rfl h1 (K:=(X t).K) ht k2 (by rw[k3];exact k4) (by rw[f1];decide) ks vs (by rw[k3,f1,f2];rfl) (by rw[h3,w.now]) hw (by rw[hsz,f1,f2];exact h5) λgr=> ?_
   have hhad:(X t).f.had=decide (o=1):=by
    by_cases e0:o=0
    ·rw[w.L0 e0]at hf
     cases hb:(X t).f.had with
     |false=>rw[e0];rfl
     |true=>rw[hb]at hf;cases hf
    ·have e1:o=1:=by omega
     obtain⟨l,q1,q2,_⟩:=w.L1 e0;rw[q1]at hf;cases hb:(X t).f.had with
     |true=>rw[e1];rfl
     |false=>
      rw[hb]at hf;have:fF [l] kk=some l:=by unfold fF;rw[List.find?_cons_of_pos (by rw[q2];exact decide_eq_true rfl)]
      rw[this]at hf;cases hf
   have hL: ∃l,(resK 2 ⟨a,(X t).f,(X t).ph⟩ t (X t).K).L=[l]/\l.key=kk:=by
    refine⟨(((ZPp.mk a (X t).f t (X t).K).pt 2).cg).lnk 2 (X t).f.had,?_,f1⟩;show iW a.L ((((ZPp.mk a (X t).f t (X t).K).pt 2).cg).lnk 2 (X t).f.had)=_;have hk:((((ZPp.mk a (X t).f t (X t).K).pt 2).cg).lnk 2 (X t).f.had).key=kk:=f1;by_cases e0:o=0
    ·rw[w.L0 e0];rfl
    ·obtain⟨l,q1,q2,_⟩:=w.L1 e0
     rw[q1];have key: ∀z:ZLnk,z.key=kk->iW [l] z=[z]:=λz hz=>by
      have e:z.key=l.key:=by rw[hz,q2]
      unfold iW;simp[e,lD]
     exact key _ hk
   have hv:(updB B (X t).f.key (ano ⟨a,(X t).f,(X t).ph⟩ t (X t).K) kk).value=V t:=by
    unfold updB;rw[if_pos f1.symm];exact f2
   refine⟨o+1,updB B (X t).f.key (ano ⟨a,(X t).f,(X t).ph⟩ t (X t).K),{X t with f:={(X t).f with found:=(X t).f.had,aep:=(X t).f.epoch,line:= -1},ph:=6,od:=o,r:=(X t).r-1},?_,rfl,rfl⟩;rw[if_pos ⟨h1,rfl⟩];refine TS.mk' hu ⟨gr,by omega,by show a.n+1=_;rw[w.n],(oP _ _ _ _).trans w.now,λe=>by omega,λ_=> ?_⟩ ⟨⟨f1,f2,f3,f4,f5⟩,.inr (.inr (.inr (.inr (.inr (.inr (.inl ⟨rfl,k1,hhad,Nat.lt_succ_self o,by show 1<=(X t).r-1;omega⟩))))))⟩ (thu.keep rfl (by omega) (λe=> .inr ?_) λe hh=>⟨hh.putK g.srt hw (λek=>hne (.inr (.inl h1)) e ek.symm),λn hn hd m r m1 m2 m3=> ?_⟩) ?_ (λe=> ?_) (λ_ e=> ?_) h.pn htk hrt hru
   ·obtain⟨l,q1,q2⟩:=hL
    exact⟨l,q1,q2,hv⟩
   ·have:yA (X u)=0:=by unfold yA;rw[if_neg (by omega)]
    omega
   ·have hk:=hne (.inr (.inl h1)) e
    have ap:=iC.two g k4 hh hk;obtain⟨y1,y2,y3,_⟩:=ZE (key:=kk) (v:=V u) (by decide) (hV u);show(a.d.store (X t).K 0 64 _).b (((X u).K+m)*193+r)=_;rw[yZ _ _ _ _ _ m3,if_neg (by omega)];exact hd m r m1 m2 m3
   ·show o+1=1+yA (X u)
    omega
   ·rcases e with e|e|e
    ·exact absurd (show(6:Int)=4 from e) (by decide)
    ·exact absurd (show(6:Int)=5 from e) (by decide)
    ·exact absurd (show(6:Int)=1 from e.1) (by decide)
   ·obtain⟨_,hp⟩:=thu
    have e7:(X u).ph=6\/(X u).ph=7:=by
     unfold yA at e;split at e
     ·assumption
     ·cases e
    have lt:(X u).od<o:=by
     rcases hp with ⟨h1,_⟩|⟨h1,_⟩|⟨h1,_⟩|⟨h1,_⟩|⟨h1,_⟩|⟨h1,_⟩|⟨_,_,_,q,_⟩|⟨_,_,_,q,_⟩
     ·omega
     ·omega
     ·omega
     ·omega
     ·omega
     ·omega
     ·exact q
     ·exact q
    show o≠(X u).od;omega
  ·have hq:(X t).q≠o:=λe=>hf (h4.2 e)
   have hd2:dT o (X t).q=eT o+2:=by unfold dT;rw[if_neg hq]
   refine wp5r g (.inl rfl) h1 (K:=(X t).K) ht k2 ks (.inr (by rw[f1];exact hf)) ?_;exact fin (x':={X t with f:={(X t).f with epoch:=a.c.now,pos:=emp,past:=false,had:=false,old:=iI},ph:=1,r:=(X t).r-1}) (λe=>absurd e.2 (by decide)) (up g rfl rfl rfl) ⟨⟨f1,f2,f3,rfl,rfl⟩,.inr (.inr (.inr (.inr (.inr (.inl ⟨rfl,⟨k1,k2,k3,k4⟩,w.now,h5,by show 3+eT o<=(X t).r-1;omega⟩)))))⟩ thu (by rw[pt0];rfl) (λ_ e=>hne (.inr (.inl h1)) e) (λ_=>rfl) h.pn htk (aY _) rfl rfl
 ·refine find h1 λhd y hw=> ?_
  have k2:(X t).f.line=((X t).K:Nat):=k2;have e3:nx3 (X t).f 2 hd=5:=by unfold nx3;rw[if_neg (by decide),if_neg (λe=>absurd e.1 (by decide)),if_neg (by omega)]
  rw[e3];exact fin (x':={X t with f:={(X t).f with had:=hd,old:=y},ph:=5,q:=o,r:=(X t).r-1}) (λe=>absurd e.2 (by decide)) (up g rfl rfl rfl) ⟨⟨f1,f2,f3,f4,f5⟩,.inr (.inr (.inr (.inr (.inl ⟨rfl,⟨k1,k2,k3,k4⟩,h3,⟨aY _,λ_=>hw⟩,h4,by show 2+dT o o<=(X t).r-1;unfold dT;rw[if_pos rfl];omega⟩))))⟩ thu
   (by unfold yA;rw[h1];rfl) (λ_ e=>hne (.inr (.inr ⟨h1,k1⟩)) e) (λ_=>rfl) h.pn htk (aY _) rfl rfl
 ·refine wp6 g h1 ht λgr=> ?_
  exact fin (x':={X t with ph:=7,r:=(X t).r-1}) (λe=>absurd e.2 (by decide)) (up gr rfl rfl rfl) ⟨⟨f1,f2,f3,f4,f5⟩,.inr (.inr (.inr (.inr (.inr (.inr (.inr ⟨rfl,h2,h3,h4,if_pos rfl⟩))))))⟩ (thu.keep (if_neg (by omega)) (aY _) (λ_=> .inl ⟨rfl,rfl⟩) λ_ hh=>⟨hh,λ_ _ hd=>hd⟩)
   (by unfold yA;rw[h1];rfl) (λe=>absurd e (MX (show(7:Int)≠4 by decide) (show(7:Int)≠5 by decide) (λe=>absurd (show(7:Int)=1 from e) (by decide)))) (λ_=>rfl) h.pn htk (aY _) rfl rfl
 ·refine .inr (.inr (.inr (.inr (.inr (.inr (.inr (.inr (.inr ⟨h1,rfl,?_⟩))))))))
  exact fin (x':={X t with r:=(X t).r-1}) (λe=>by have:=e.1;omega) (up g rfl rfl rfl) ⟨⟨f1,f2,f3,f4,f5⟩,.inr (.inr (.inr (.inr (.inr (.inr (.inr ⟨h1,h2,h3,h4,h5⟩))))))⟩ thu rfl hne (λ_=>rfl) h.pn htk (aY _) rfl rfl
end

def lk(B:Nat->ZBlk)(LN:Nat->Nat)(i:Nat):ZLnk:=⟨⟨#[]⟩,(B i).id,(B i).ver,(LN i:Nat),(B i).cls⟩
section
variable{n o M:Nat}{B:Nat->ZBlk}{LN:Nat->Nat}{a:UY}
end
structure ZTh where
 f:ZFr
 ph:Int
 tk:Nat
 hl:Nat
 q:Nat
 fd:Nat
def HH(a:UY)(x:ZTh):Prop:=(x.f.line= -1/\x.tk=0)\/(x.f.cls=0/\x.f.line=x.hl/\Hold a x.hl 0/\x.tk=1)
def FQ(n o:Nat)(B:Nat->ZBlk)(LN:Nat->Nat)(x:ZTh):Prop:=x.q<=o/\x.q<n/\x.f.had=true/\x.f.old=lk B LN x.q
def TI(n o:Nat)(B:Nat->ZBlk)(LN:Nat->Nat)(a:UY)(has:Int)(x:ZTh):Prop:=x.f.value.size=0/\x.f.code=0/\(
 (x.ph=0/\has=0/\x.f.line= -1/\x.tk=0/\x.fd=0/\x.f.found=false)\/
 (x.ph=1/\x.f.epoch=1/\HH a x/\x.fd=0/\x.f.found=false)\/
 (x.ph=2/\x.f.epoch=1/\HH a x/\x.fd=0/\x.f.found=false/\FQ n o B LN x/\x.f.piece=0)\/
 (x.ph=3/\x.f.epoch=1/\x.tk=0/\x.fd=0/\x.f.found=false/\FQ n o B LN x/\x.f.ans=(B x.q).value)\/
 (x.ph=4/\x.f.epoch=1/\x.f.cls=0/\x.f.piece=0/\x.f.line=x.hl/\Hold a x.hl 0/\x.tk=1/\x.fd=0/\x.f.found=false/\FQ n o B LN x/\x.f.ans=(B x.q).value)\/
 (x.ph=5/\x.f.epoch=1/\x.f.cls=0/\x.f.line=x.hl/\Hold a x.hl 0/\x.tk=1/\x.fd=0/\x.f.found=false/\FQ n o B LN x/\x.f.ans=(B x.q).value)\/
 ((x.ph=6\/x.ph=7)/\((x.f.found=true/\x.tk=1/\x.fd=1)\/(x.f.found=false/\x.tk=0/\x.fd=0/\o=n))))
def arrAt(fr:Fr):Nat:=match SE.look fr 9 with
 | .ptr j _=>j
 |_=>0
def ZFp.vs(f:ZFp)(k ph:Int):List Value:=[.int .i64 k,.string f.key,.string f.value,.string f.to,.slice none 0 0,.int .i64 ph,.int .u64 f.epoch,.string f.pos,.bool f.past,.int .i64 0,.bool f.had,.string f.old.key,.int .u64 f.old.id,.int .u64 f.old.ver,.int .i64 f.old.line,.int .i64 f.old.cls,.int .i64 f.line,.int .i64 f.cls,.int .i64 f.piece,.slice none 0 0,.int .i64 0,.slice none 0 0,.int .i64 f.code,.bool f.found,.string f.ans,.slice none 0 0,.slice none 0 0,.int .u64 f.aep]
structure Ip where
 m:Nat
 g:Nat->Bool
 v:ByteArray
 w:ByteArray
def Ip.os(x:Ip):List dB:=[.ro (.row 1 x.m (λi=>[.bool (x.g i)]) [])]
def Ip.V(x:Ip)(t:Nat):ByteArray:=if t=0 then x.v else x.w
structure Na where
 i:Nat
 a:ZSto
 X:Nat->dZ
 o:Nat
 B:ByteArray->ZBlk
 last:ByteArray
noncomputable def asf(x:Ip):FuncId->qA:=λf=>bif Nat.beq f 6 then(λb fr h=>bif Nat.beq b 0 then [
 {σ:=Na,fr:=λs=>[(11,i64 s.i),(10,.lit (.string s.last))],ob:=λs=>[(1,some (.abs (ownM s.a.os))),(arrAt fr,some (.cells 79 (.row 28 2 (λt=>(s.X t).f.vs 2 (s.X t).ph) [])))],inv:=λs=>Hd (s.i<=120/\TS x.V (20*s.i+10) s.o s.B s.last s.a s.X s.i),meas:=λs=>120-s.i}]else [])elseλ_ _ _=>[]
noncomputable def Rq:jE:={X:=ZSto,args:=λ_=>[.ptr 0 0],k:=1,l:=λa=>[.m ({a with n:=2}:ZSto).os],pre:=λ_=>Hd True,outs:=[{Y:=Unit,post:=λ_ _=>True,ret:=λ_ _=> .ptr 7 0,m:=11,l:=λa _=>({a with n:=2}:ZSto).os.map PO.o}]}
noncomputable def ant:jf:=aiF++[(32,ctrT Cb),(17,Qe),(34,ctrT (Rh 2)),(38,ctrT arR.C)]
noncomputable def asg:jf:=ant++[(37,ctrT Rq.ctr)]
theorem aiI:dX Tryz.prog ant:= .append Rn (.cons (bP acD) (.cons En (.cons (bP Ik) (.cons (bP apF) .nil))))
def zY(a:Nat):Prop:=0<=IntKind.wrap .i64 ((@BitVec.toNat 64 (@HAnd.hAnd (@BitVec 64) (@BitVec 64) (@BitVec 64) (@instHAndOfAndOp (@BitVec 64) (@BitVec.instAndOp 64)) (@BitVec.ofInt 64 (a:Int)) (@BitVec.ofInt 64 (1:Int))):Nat):Int)/\IntKind.wrap .i64 ((@BitVec.toNat 64 (@HAnd.hAnd (@BitVec 64) (@BitVec 64) (@BitVec 64) (@instHAndOfAndOp (@BitVec 64) (@BitVec.instAndOp 64)) (@BitVec.ofInt 64 (a:Int)) (@BitVec.ofInt 64 (1:Int))):Nat):Int)<2
def vI(a:Ip):Prop:=(Cs.row 1 a.m (λ(i:Nat)=>[Value.bool (a.g i)]) (@List.nil (Prod Nat (List Value)))=Cs.row 1 a.m (λ(i:Nat)=>[Value.bool (a.g i)]) (@List.nil (Prod Nat (List Value)))/\true=true)/\True
def kE:Prop:=Value.slice none 0 0=Value.slice none 0 0
def vJ(a:ByteArray):Prop:=(2:Int)=2/\ @ByteArray.mk (@List.toArray UInt8 [(107:UInt8)])= @ByteArray.mk (@List.toArray UInt8 [(107:UInt8)])/\a=a/\ByteArray.mk #[]=ByteArray.mk #[]/\kE/\True
def aiJ(a:Na)(b:Na)(c:ZKs)(d:Ip):Prop:=(2=2/\
 ∀q:Nat,q<2->[Value.int .i64 2,Value.string (ZFp.key (dZ.f (a.X q))),Value.string (ZFp.value (dZ.f (a.X q))),Value.string (ZFp.to (dZ.f (a.X q))),Value.slice none 0 0,Value.int .i64 (dZ.ph (a.X q)),Value.int .u64 (ZFp.epoch (dZ.f (a.X q))),Value.string (ZFp.pos (dZ.f (a.X q))),Value.bool (ZFp.past (dZ.f (a.X q))),Value.int .i64 0,Value.bool (ZFp.had (dZ.f (a.X q))),Value.string (ZLnk.key (ZFp.old (dZ.f (a.X q)))),Value.int .u64 (ZLnk.id (ZFp.old (dZ.f (a.X q)))),Value.int .u64 (ZLnk.ver (ZFp.old (dZ.f (a.X q)))),Value.int .i64 (ZLnk.line (ZFp.old (dZ.f (a.X q)))),Value.int .i64 (ZLnk.cls (ZFp.old (dZ.f (a.X q)))),Value.int .i64 (ZFp.line (dZ.f (a.X q))),Value.int .i64 (ZFp.cls (dZ.f (a.X q))),Value.int .i64 (ZFp.piece (dZ.f (a.X q))),Value.slice none 0 0,Value.int .i64 0,Value.slice none 0 0,Value.int .i64 (ZFp.code (dZ.f (a.X q))),Value.bool (ZFp.found (dZ.f (a.X q))),Value.string (ZFp.ans (dZ.f (a.X q))),Value.slice none 0 0,Value.slice none 0 0,Value.int .u64 (ZFp.aep (dZ.f (a.X q)))]=Cs.eff (λ(t:Nat)=>ZFp.vs (dZ.f (b.X t)) (2:Int) (dZ.ph (b.X t))) [(Int.toNat (IntKind.wrap .i64 ((@BitVec.toNat 64 (@HAnd.hAnd (@BitVec 64) (@BitVec 64) (@BitVec 64) (@instHAndOfAndOp (@BitVec 64) (@BitVec.instAndOp 64)) (@BitVec.ofInt 64 (b.i:Int)) (@BitVec.ofInt 64 (1:Int))):Nat):Int)),[Value.int .i64 2,Value.string c.f.key,Value.string c.f.value,Value.string c.f.to,Value.slice none 0 0,Value.int .i64 c.ph,Value.int .u64 c.f.epoch,Value.string c.f.pos,Value.bool c.f.past,Value.int .i64 0,Value.bool c.f.had,Value.string c.f.old.key,Value.int .u64 c.f.old.id,Value.int .u64 c.f.old.ver,Value.int .i64 c.f.old.line,Value.int .i64 c.f.old.cls,Value.int .i64 c.f.line,Value.int .i64 c.f.cls,Value.int .i64 c.f.piece,Value.slice none 0 0,Value.int .i64 0,Value.slice none 0 0,Value.int .i64 c.f.code,Value.bool c.f.found,Value.string c.f.ans,Value.slice none 0 0,Value.slice none 0 0,Value.int .u64 c.f.aep])] q)/\vJ d.w/\vJ d.v/\ownM a.a.os=ownM c.a.os/\vI d
def vK(a:Na)(b:Ip):Prop:=Hd (a.i<=120/\TS b.V (20*a.i+10) a.o a.B a.last a.a a.X a.i)
def zZ(a:Nat):Prop:=Int.toNat (IntKind.wrap .i64 ((@BitVec.toNat 64 (@HAnd.hAnd (@BitVec 64) (@BitVec 64) (@BitVec 64) (@instHAndOfAndOp (@BitVec 64) (@BitVec.instAndOp 64)) (@BitVec.ofInt 64 (a:Int)) (@BitVec.ofInt 64 (1:Int))):Nat):Int))<2
def Xy(a:Na)(b:Ip)(c:ZKs):Prop:=zY a.i/\zZ a.i/\I64 ((a.i:Int)+1)/\ ∃s_1:Na,vK s_1 b/\120-s_1.i<120-a.i/\((s_1.i:Int)=(a.i:Int)+1/\s_1.last=a.last/\True)/\aiJ s_1 a c b
def Xz(a:ByteArray)(b:Na):Prop:=a=ZFp.value (dZ.f (b.X (Int.toNat (IntKind.wrap .i64 ((@BitVec.toNat 64 (@HAnd.hAnd (@BitVec 64) (@BitVec 64) (@BitVec 64) (@instHAndOfAndOp (@BitVec 64) (@BitVec.instAndOp 64)) (@BitVec.ofInt 64 (b.i:Int)) (@BitVec.ofInt 64 (1:Int))):Nat):Int)))))
def aiK(a:Na)(b:Ip):Prop:=zY a.i/\zZ a.i/\ ∃x_2:ZWk,Hd (x_2.n=0/\wP (2:Int) x_2.t x_2.b 0 x_2.s x_2.q)/\(0=0/\(x_2.t:Int)=IntKind.wrap .i64 ((@BitVec.toNat 64 (@HAnd.hAnd (@BitVec 64) (@BitVec 64) (@BitVec 64) (@instHAndOfAndOp (@BitVec 64) (@BitVec.instAndOp 64)) (@BitVec.ofInt 64 (a.i:Int)) (@BitVec.ofInt 64 (1:Int))):Nat):Int)/\((2:Int)=2/\x_2.s.f.key=ZFp.key (dZ.f (a.X (Int.toNat (IntKind.wrap .i64 ((@BitVec.toNat 64 (@HAnd.hAnd (@BitVec 64) (@BitVec 64) (@BitVec 64) (@instHAndOfAndOp (@BitVec 64) (@BitVec.instAndOp 64)) (@BitVec.ofInt 64 (a.i:Int)) (@BitVec.ofInt 64 (1:Int))):Nat):Int)))))/\Xz x_2.s.f.value a/\x_2.s.f.to=ZFp.to (dZ.f (a.X (Int.toNat (IntKind.wrap .i64 ((@BitVec.toNat 64 (@HAnd.hAnd (@BitVec 64) (@BitVec 64) (@BitVec 64) (@instHAndOfAndOp (@BitVec 64) (@BitVec.instAndOp 64)) (@BitVec.ofInt 64 (a.i:Int)) (@BitVec.ofInt 64 (1:Int))):Nat):Int)))))/\kE/\x_2.s.ph=dZ.ph (a.X (Int.toNat (IntKind.wrap .i64 ((@BitVec.toNat 64 (@HAnd.hAnd (@BitVec 64) (@BitVec 64) (@BitVec 64) (@instHAndOfAndOp (@BitVec 64) (@BitVec.instAndOp 64)) (@BitVec.ofInt 64 (a.i:Int)) (@BitVec.ofInt 64 (1:Int))):Nat):Int))))/\x_2.s.f.epoch=ZFp.epoch (dZ.f (a.X (Int.toNat (IntKind.wrap .i64 ((@BitVec.toNat 64 (@HAnd.hAnd (@BitVec 64) (@BitVec 64) (@BitVec 64) (@instHAndOfAndOp (@BitVec 64) (@BitVec.instAndOp 64)) (@BitVec.ofInt 64 (a.i:Int)) (@BitVec.ofInt 64 (1:Int))):Nat):Int)))))/\x_2.s.f.pos=ZFp.pos (dZ.f (a.X (Int.toNat (IntKind.wrap .i64 ((@BitVec.toNat 64 (@HAnd.hAnd (@BitVec 64) (@BitVec 64) (@BitVec 64) (@instHAndOfAndOp (@BitVec 64) (@BitVec.instAndOp 64)) (@BitVec.ofInt 64 (a.i:Int)) (@BitVec.ofInt 64 (1:Int))):Nat):Int)))))/\
 x_2.s.f.past=ZFp.past (dZ.f (a.X (Int.toNat (IntKind.wrap .i64 ((@BitVec.toNat 64 (@HAnd.hAnd (@BitVec 64) (@BitVec 64) (@BitVec 64) (@instHAndOfAndOp (@BitVec 64) (@BitVec.instAndOp 64)) (@BitVec.ofInt 64 (a.i:Int)) (@BitVec.ofInt 64 (1:Int))):Nat):Int)))))/\(0:Int)=0/\x_2.s.f.had=ZFp.had (dZ.f (a.X (Int.toNat (IntKind.wrap .i64 ((@BitVec.toNat 64 (@HAnd.hAnd (@BitVec 64) (@BitVec 64) (@BitVec 64) (@instHAndOfAndOp (@BitVec 64) (@BitVec.instAndOp 64)) (@BitVec.ofInt 64 (a.i:Int)) (@BitVec.ofInt 64 (1:Int))):Nat):Int)))))/\x_2.s.f.old.key=ZLnk.key (ZFp.old (dZ.f (a.X (Int.toNat (IntKind.wrap .i64 ((@BitVec.toNat 64 (@HAnd.hAnd (@BitVec 64) (@BitVec 64) (@BitVec 64) (@instHAndOfAndOp (@BitVec 64) (@BitVec.instAndOp 64)) (@BitVec.ofInt 64 (a.i:Int)) (@BitVec.ofInt 64 (1:Int))):Nat):Int))))))/\x_2.s.f.old.id=ZLnk.id (ZFp.old (dZ.f (a.X (Int.toNat (IntKind.wrap .i64 ((@BitVec.toNat 64 (@HAnd.hAnd (@BitVec 64) (@BitVec 64) (@BitVec 64) (@instHAndOfAndOp (@BitVec 64) (@BitVec.instAndOp 64)) (@BitVec.ofInt 64 (a.i:Int)) (@BitVec.ofInt 64 (1:Int))):Nat):Int))))))/\x_2.s.f.old.ver=ZLnk.ver (ZFp.old (dZ.f (a.X (Int.toNat (IntKind.wrap .i64 ((@BitVec.toNat 64 (@HAnd.hAnd (@BitVec 64) (@BitVec 64) (@BitVec 64) (@instHAndOfAndOp (@BitVec 64) (@BitVec.instAndOp 64)) (@BitVec.ofInt 64 (a.i:Int)) (@BitVec.ofInt 64 (1:Int))):Nat):Int))))))/\x_2.s.f.old.line=ZLnk.line (ZFp.old (dZ.f (a.X (Int.toNat (IntKind.wrap .i64 ((@BitVec.toNat 64 (@HAnd.hAnd (@BitVec 64) (@BitVec 64) (@BitVec 64) (@instHAndOfAndOp (@BitVec 64) (@BitVec.instAndOp 64)) (@BitVec.ofInt 64 (a.i:Int)) (@BitVec.ofInt 64 (1:Int))):Nat):Int))))))/\
 x_2.s.f.old.cls=ZLnk.cls (ZFp.old (dZ.f (a.X (Int.toNat (IntKind.wrap .i64 ((@BitVec.toNat 64 (@HAnd.hAnd (@BitVec 64) (@BitVec 64) (@BitVec 64) (@instHAndOfAndOp (@BitVec 64) (@BitVec.instAndOp 64)) (@BitVec.ofInt 64 (a.i:Int)) (@BitVec.ofInt 64 (1:Int))):Nat):Int))))))/\x_2.s.f.line=ZFp.line (dZ.f (a.X (Int.toNat (IntKind.wrap .i64 ((@BitVec.toNat 64 (@HAnd.hAnd (@BitVec 64) (@BitVec 64) (@BitVec 64) (@instHAndOfAndOp (@BitVec 64) (@BitVec.instAndOp 64)) (@BitVec.ofInt 64 (a.i:Int)) (@BitVec.ofInt 64 (1:Int))):Nat):Int)))))/\x_2.s.f.cls=ZFp.cls (dZ.f (a.X (Int.toNat (IntKind.wrap .i64 ((@BitVec.toNat 64 (@HAnd.hAnd (@BitVec 64) (@BitVec 64) (@BitVec 64) (@instHAndOfAndOp (@BitVec 64) (@BitVec.instAndOp 64)) (@BitVec.ofInt 64 (a.i:Int)) (@BitVec.ofInt 64 (1:Int))):Nat):Int)))))/\x_2.s.f.piece=ZFp.piece (dZ.f (a.X (Int.toNat (IntKind.wrap .i64 ((@BitVec.toNat 64 (@HAnd.hAnd (@BitVec 64) (@BitVec 64) (@BitVec 64) (@instHAndOfAndOp (@BitVec 64) (@BitVec.instAndOp 64)) (@BitVec.ofInt 64 (a.i:Int)) (@BitVec.ofInt 64 (1:Int))):Nat):Int)))))/\kE/\(0:Int)=0/\kE/\x_2.s.f.code=ZFp.code (dZ.f (a.X (Int.toNat (IntKind.wrap .i64 ((@BitVec.toNat 64 (@HAnd.hAnd (@BitVec 64) (@BitVec 64) (@BitVec 64) (@instHAndOfAndOp (@BitVec 64) (@BitVec.instAndOp 64)) (@BitVec.ofInt 64 (a.i:Int)) (@BitVec.ofInt 64 (1:Int))):Nat):Int)))))/\x_2.s.f.found=ZFp.found (dZ.f (a.X (Int.toNat (IntKind.wrap .i64 ((@BitVec.toNat 64 (@HAnd.hAnd (@BitVec 64) (@BitVec 64) (@BitVec 64) (@instHAndOfAndOp (@BitVec 64) (@BitVec.instAndOp 64)) (@BitVec.ofInt 64 (a.i:Int)) (@BitVec.ofInt 64 (1:Int))):Nat):Int)))))/\
 x_2.s.f.ans=ZFp.ans (dZ.f (a.X (Int.toNat (IntKind.wrap .i64 ((@BitVec.toNat 64 (@HAnd.hAnd (@BitVec 64) (@BitVec 64) (@BitVec 64) (@instHAndOfAndOp (@BitVec 64) (@BitVec.instAndOp 64)) (@BitVec.ofInt 64 (a.i:Int)) (@BitVec.ofInt 64 (1:Int))):Nat):Int)))))/\kE/\kE/\x_2.s.f.aep=ZFp.aep (dZ.f (a.X (Int.toNat (IntKind.wrap .i64 ((@BitVec.toNat 64 (@HAnd.hAnd (@BitVec 64) (@BitVec 64) (@BitVec 64) (@instHAndOfAndOp (@BitVec 64) (@BitVec.instAndOp 64)) (@BitVec.ofInt 64 (a.i:Int)) (@BitVec.ofInt 64 (1:Int))):Nat):Int)))))/\True)/\True)/\(ownM x_2.s.a.os=ownM a.a.os/\True)/\ ∀y_1:ZKs,Hd (x_2.q 0 y_1)->zY a.i/\zZ a.i/\cP (BEq.beq (dZ.ph (a.X (Int.toNat (IntKind.wrap .i64 ((@BitVec.toNat 64 (@HAnd.hAnd (@BitVec 64) (@BitVec 64) (@BitVec 64) (@instHAndOfAndOp (@BitVec 64) (@BitVec.instAndOp 64)) (@BitVec.ofInt 64 (a.i:Int)) (@BitVec.ofInt 64 (1:Int))):Nat):Int))))) (5:Int)) (cP (BEq.beq y_1.ph (6:Int)) (zY a.i/\zZ a.i/\zY a.i/\zZ a.i/\I64 ((a.i:Int)+1)/\ ∃s_1:Na,vK s_1 b/\120-s_1.i<120-a.i/\((s_1.i:Int)=(a.i:Int)+1/\Xz s_1.last a/\True)/\aiJ s_1 a y_1 b) (Xy a b y_1)) (Xy a b y_1)
def aiL(a:Na)(b:Na)(c:ZKs)(d:Ip):Prop:=(2=2/\
 ∀q:Nat,q<2->[Value.int .i64 2,Value.string (ZFp.key (dZ.f (a.X q))),Value.string (ZFp.value (dZ.f (a.X q))),Value.string (ZFp.to (dZ.f (a.X q))),Value.slice none 0 0,Value.int .i64 (dZ.ph (a.X q)),Value.int .u64 (ZFp.epoch (dZ.f (a.X q))),Value.string (ZFp.pos (dZ.f (a.X q))),Value.bool (ZFp.past (dZ.f (a.X q))),Value.int .i64 0,Value.bool (ZFp.had (dZ.f (a.X q))),Value.string (ZLnk.key (ZFp.old (dZ.f (a.X q)))),Value.int .u64 (ZLnk.id (ZFp.old (dZ.f (a.X q)))),Value.int .u64 (ZLnk.ver (ZFp.old (dZ.f (a.X q)))),Value.int .i64 (ZLnk.line (ZFp.old (dZ.f (a.X q)))),Value.int .i64 (ZLnk.cls (ZFp.old (dZ.f (a.X q)))),Value.int .i64 (ZFp.line (dZ.f (a.X q))),Value.int .i64 (ZFp.cls (dZ.f (a.X q))),Value.int .i64 (ZFp.piece (dZ.f (a.X q))),Value.slice none 0 0,Value.int .i64 0,Value.slice none 0 0,Value.int .i64 (ZFp.code (dZ.f (a.X q))),Value.bool (ZFp.found (dZ.f (a.X q))),Value.string (ZFp.ans (dZ.f (a.X q))),Value.slice none 0 0,Value.slice none 0 0,Value.int .u64 (ZFp.aep (dZ.f (a.X q)))]=Cs.eff (λ(t:Nat)=>ZFp.vs (dZ.f (b.X t)) (2:Int) (dZ.ph (b.X t))) [(Int.toNat (1-IntKind.wrap .i64 ((@BitVec.toNat 64 (@HAnd.hAnd (@BitVec 64) (@BitVec 64) (@BitVec 64) (@instHAndOfAndOp (@BitVec 64) (@BitVec.instAndOp 64)) (@BitVec.ofInt 64 (b.i:Int)) (@BitVec.ofInt 64 (1:Int))):Nat):Int)),[Value.int .i64 2,Value.string c.f.key,Value.string c.f.value,Value.string c.f.to,Value.slice none 0 0,Value.int .i64 c.ph,Value.int .u64 c.f.epoch,Value.string c.f.pos,Value.bool c.f.past,Value.int .i64 0,Value.bool c.f.had,Value.string c.f.old.key,Value.int .u64 c.f.old.id,Value.int .u64 c.f.old.ver,Value.int .i64 c.f.old.line,Value.int .i64 c.f.old.cls,Value.int .i64 c.f.line,Value.int .i64 c.f.cls,Value.int .i64 c.f.piece,Value.slice none 0 0,Value.int .i64 0,Value.slice none 0 0,Value.int .i64 c.f.code,Value.bool c.f.found,Value.string c.f.ans,Value.slice none 0 0,Value.slice none 0 0,Value.int .u64 c.f.aep])] q)/\vJ d.w/\vJ d.v/\ownM a.a.os=ownM c.a.os/\vI d
def Aa(a:Nat):Prop:=Int.toNat (1-IntKind.wrap .i64 ((@BitVec.toNat 64 (@HAnd.hAnd (@BitVec 64) (@BitVec 64) (@BitVec 64) (@instHAndOfAndOp (@BitVec 64) (@BitVec.instAndOp 64)) (@BitVec.ofInt 64 (a:Int)) (@BitVec.ofInt 64 (1:Int))):Nat):Int))<2
def Ac(a:Nat):Prop:=0<=1-IntKind.wrap .i64 ((@BitVec.toNat 64 (@HAnd.hAnd (@BitVec 64) (@BitVec 64) (@BitVec 64) (@instHAndOfAndOp (@BitVec 64) (@BitVec.instAndOp 64)) (@BitVec.ofInt 64 (a:Int)) (@BitVec.ofInt 64 (1:Int))):Nat):Int)/\1-IntKind.wrap .i64 ((@BitVec.toNat 64 (@HAnd.hAnd (@BitVec 64) (@BitVec 64) (@BitVec 64) (@instHAndOfAndOp (@BitVec 64) (@BitVec.instAndOp 64)) (@BitVec.ofInt 64 (a:Int)) (@BitVec.ofInt 64 (1:Int))):Nat):Int)<2
def XA(a:Na)(b:Ip)(c:ZKs):Prop:=Ac a.i/\Aa a.i/\I64 ((a.i:Int)+1)/\ ∃s_1:Na,vK s_1 b/\120-s_1.i<120-a.i/\((s_1.i:Int)=(a.i:Int)+1/\s_1.last=a.last/\True)/\aiL s_1 a c b
def Fj:Prop:=(0:Int)<=1/\(0:Int)<=0
def Fp:Prop:=(0:Int)<=0/\(0:Int)<=1
def oD(a:Ip):Prop:=true=false/\vI a
def XB(a:Na)(b:Ip):Prop:=Fp/\0<2/\Fj/\1<2/\cP (Bool.not (@BEq.beq Bool (@instBEqOfDecidableEq Bool @instDecidableEqBool) (ZFp.found (dZ.f (a.X 0))) (ZFp.found (dZ.f (a.X 1))))) (Fp/\0<2/\cP (BEq.beq (dZ.ph (a.X 0)) (7:Int)) (Fj/\1<2/\cP (BEq.beq (dZ.ph (a.X 1)) (7:Int)) (oD b) (oD b)) (oD b)) (oD b)
def XC(a:ByteArray)(b:Na):Prop:=a=ZFp.value (dZ.f (b.X (Int.toNat (1-IntKind.wrap .i64 ((@BitVec.toNat 64 (@HAnd.hAnd (@BitVec 64) (@BitVec 64) (@BitVec 64) (@instHAndOfAndOp (@BitVec 64) (@BitVec.instAndOp 64)) (@BitVec.ofInt 64 (b.i:Int)) (@BitVec.ofInt 64 (1:Int))):Nat):Int)))))
def Nb(a:Ip):Prop:= ∃x_1:Unit,True/\True/\True/\ ∀y:Unit,True->true=true/\vI a
def Nc(a:ZSto):Prop:=
 ∃y:Unit,True/\0=0/\(0=0/\0=0/\0=0/\0=0/\0=0/\0=0/\0=0/\0=0/\a.id=a.id/\a.ver=a.ver/\(Nat.beq 2 0=false/\2=2)/\True)/\(0=0/\(1:Int)=1/\(0:Int)=0/\(0:Int)=0/\True)/\ownM a.d.os=ownM a.d.os/\ownM a.p.os=ownM a.p.os/\ownM a.r.os=ownM a.r.os/\ownM (ZCk.os (ZSto.ck (ZSto.mk a.d a.p a.r a.c a.ph a.b a.l a.L a.id a.ver 2 a.e)))=ownM (ZCk.os (ZSto.ck (ZSto.mk a.d a.p a.r a.c a.ph a.b a.l a.L a.id a.ver 2 a.e)))/\ownM a.b.os=ownM a.b.os/\tabA a.L=tabA a.L/\ordA a.L=ordA a.L/\ownM a.l.os=ownM a.l.os/\(Nat.beq 2 0=false/\2=2/\ ∀q:Nat,q<2->[Value.int .i64 (ZEff.kind (a.e q)),Value.string (ZEff.key (a.e q)),Value.string (ZEff.value (a.e q)),Value.int .u64 (ZEff.id (a.e q)),Value.int .u64 (ZEff.ver (a.e q)),Value.int .u64 (ZEff.epoch (a.e q)),Value.int .i64 (ZEff.group (a.e q))]=[Value.int .i64 (ZEff.kind (a.e q)),Value.string (ZEff.key (a.e q)),Value.string (ZEff.value (a.e q)),Value.int .u64 (ZEff.id (a.e q)),Value.int .u64 (ZEff.ver (a.e q)),Value.int .u64 (ZEff.epoch (a.e q)),Value.int .i64 (ZEff.group (a.e q))])/\True
theorem XD(a:ZSto):Nc a=wpF Tryz.prog [] tt (noA a) 200 6 37 (Rq.args a) (hO 11 (flatP 1 (Rq.l a))) (λv h'=>endsPK 1 a v h' Rq.outs):=by kernel_rfl
def Nh(x:Ip):Prop:=
 cP (decide ((x.m:Int)>(60:Int))) (Nb x) (cP (decide ((x.v.size:Int)>(400:Int))) (Nb x) (cP (decide ((x.w.size:Int)>(400:Int))) (Nb x) (∃x_1:ZNew,Hd (10<=x_1.n/\x_1.n<=258/\1<=x_1.t/\x_1.t<=4)/\((x_1.n:Int)=34/\(x_1.t:Int)=2/\True)/\True/\ ∀y:DevM,Hd (y.ok/\y.n=x_1.n/\y.st=2/\y.fl=2/\y.fe=1)->(∃s:Na,vK s x/\True/\((s.i:Int)=0/\s.last=ByteArray.mk #[]/\True)/\(List.length [Value.int .i64 2,Value.string (@ByteArray.mk (@List.toArray UInt8 [(107:UInt8)])),Value.string x.v,Value.string (ByteArray.mk #[]),Value.slice none 0 0,Value.int .i64 0,Value.int .u64 0,Value.string (ByteArray.mk #[]),Value.bool false,Value.int .i64 0,Value.bool false,Value.string (ByteArray.mk #[]),Value.int .u64 0,Value.int .u64 0,Value.int .i64 0,Value.int .i64 0,Value.int .i64 (-(1:Int)),Value.int .i64 0,Value.int .i64 0,Value.slice none 0 0,Value.int .i64 0,Value.slice none 0 0,Value.int .i64 0,Value.bool false,Value.string (ByteArray.mk #[]),Value.slice none 0 0,Value.slice none 0 0,Value.int .u64 0,Value.int .i64 2,Value.string (@ByteArray.mk (@List.toArray UInt8 [(107:UInt8)])),Value.string x.w,Value.string (ByteArray.mk #[]),Value.slice none 0 0,Value.int .i64 0,Value.int .u64 0,Value.string (ByteArray.mk #[]),Value.bool false,Value.int .i64 0,Value.bool false,Value.string (ByteArray.mk #[]),Value.int .u64 0,Value.int .u64 0,Value.int .i64 0,Value.int .i64 0,Value.int .i64 (-(1:Int)),Value.int .i64 0,Value.int .i64 0,Value.slice none 0 0,Value.int .i64 0,Value.slice none 0 0,Value.int .i64 0,Value.bool false,Value.string (ByteArray.mk #[]),Value.slice none 0 0,Value.slice none 0 0,Value.int .u64 0]=56/\
 ∀q:Nat,q<2->[Value.int .i64 2,Value.string (ZFp.key (dZ.f (s.X q))),Value.string (ZFp.value (dZ.f (s.X q))),Value.string (ZFp.to (dZ.f (s.X q))),Value.slice none 0 0,Value.int .i64 (dZ.ph (s.X q)),Value.int .u64 (ZFp.epoch (dZ.f (s.X q))),Value.string (ZFp.pos (dZ.f (s.X q))),Value.bool (ZFp.past (dZ.f (s.X q))),Value.int .i64 0,Value.bool (ZFp.had (dZ.f (s.X q))),Value.string (ZLnk.key (ZFp.old (dZ.f (s.X q)))),Value.int .u64 (ZLnk.id (ZFp.old (dZ.f (s.X q)))),Value.int .u64 (ZLnk.ver (ZFp.old (dZ.f (s.X q)))),Value.int .i64 (ZLnk.line (ZFp.old (dZ.f (s.X q)))),Value.int .i64 (ZLnk.cls (ZFp.old (dZ.f (s.X q)))),Value.int .i64 (ZFp.line (dZ.f (s.X q))),Value.int .i64 (ZFp.cls (dZ.f (s.X q))),Value.int .i64 (ZFp.piece (dZ.f (s.X q))),Value.slice none 0 0,Value.int .i64 0,Value.slice none 0 0,Value.int .i64 (ZFp.code (dZ.f (s.X q))),Value.bool (ZFp.found (dZ.f (s.X q))),Value.string (ZFp.ans (dZ.f (s.X q))),Value.slice none 0 0,Value.slice none 0 0,Value.int .u64 (ZFp.aep (dZ.f (s.X q)))]=List.take 28 (List.drop (q*28) [Value.int .i64 2,Value.string (@ByteArray.mk (@List.toArray UInt8 [(107:UInt8)])),Value.string x.v,Value.string (ByteArray.mk #[]),Value.slice none 0 0,Value.int .i64 0,Value.int .u64 0,Value.string (ByteArray.mk #[]),Value.bool false,Value.int .i64 0,Value.bool false,Value.string (ByteArray.mk #[]),Value.int .u64 0,Value.int .u64 0,Value.int .i64 0,Value.int .i64 0,Value.int .i64 (-(1:Int)),Value.int .i64 0,Value.int .i64 0,Value.slice none 0 0,Value.int .i64 0,Value.slice none 0 0,Value.int .i64 0,Value.bool false,Value.string (ByteArray.mk #[]),Value.slice none 0 0,Value.slice none 0 0,Value.int .u64 0,Value.int .i64 2,Value.string (@ByteArray.mk (@List.toArray UInt8 [(107:UInt8)])),Value.string x.w,Value.string (ByteArray.mk #[]),Value.slice none 0 0,Value.int .i64 0,Value.int .u64 0,Value.string (ByteArray.mk #[]),Value.bool false,Value.int .i64 0,Value.bool false,Value.string (ByteArray.mk #[]),Value.int .u64 0,Value.int .u64 0,Value.int .i64 0,Value.int .i64 0,Value.int .i64 (-(1:Int)),Value.int .i64 0,Value.int .i64 0,Value.slice none 0 0,Value.int .i64 0,Value.slice none 0 0,Value.int .i64 0,Value.bool false,Value.string (ByteArray.mk #[]),Value.slice none 0 0,Value.slice none 0 0,Value.int .u64 0]))/\vJ x.w/\vJ x.v/\ownM s.a.os=ownM (ZSto.os (newSto x_1.n x_1.t y))/\vI x)/\(∀s:Na,vK s x->cP (decide ((s.i:Int)<120)) (cP (decide ((s.i:Int)<(x.m:Int))) ((0<=(s.i:Int)/\(s.i:Int)<(x.m:Int))/\0+s.i<x.m/\cP (x.g (0+s.i)) (I64 (1-IntKind.wrap .i64 ((@BitVec.toNat 64 (@HAnd.hAnd (@BitVec 64) (@BitVec 64) (@BitVec 64) (@instHAndOfAndOp (@BitVec 64) (@BitVec.instAndOp 64)) (@BitVec.ofInt 64 (s.i:Int)) (@BitVec.ofInt 64 (1:Int))):Nat):Int))/\Ac s.i/\Aa s.i/\ ∃x_2:ZWk,Hd (x_2.n=0/\wP (2:Int) x_2.t x_2.b 0 x_2.s x_2.q)/\(0=0/\(x_2.t:Int)=1-IntKind.wrap .i64 ((@BitVec.toNat 64 (@HAnd.hAnd (@BitVec 64) (@BitVec 64) (@BitVec 64) (@instHAndOfAndOp (@BitVec 64) (@BitVec.instAndOp 64)) (@BitVec.ofInt 64 (s.i:Int)) (@BitVec.ofInt 64 (1:Int))):Nat):Int)/\((2:Int)=2/\x_2.s.f.key=ZFp.key (dZ.f (s.X (Int.toNat (1-IntKind.wrap .i64 ((@BitVec.toNat 64 (@HAnd.hAnd (@BitVec 64) (@BitVec 64) (@BitVec 64) (@instHAndOfAndOp (@BitVec 64) (@BitVec.instAndOp 64)) (@BitVec.ofInt 64 (s.i:Int)) (@BitVec.ofInt 64 (1:Int))):Nat):Int)))))/\XC x_2.s.f.value s/\x_2.s.f.to=ZFp.to (dZ.f (s.X (Int.toNat (1-IntKind.wrap .i64 ((@BitVec.toNat 64 (@HAnd.hAnd (@BitVec 64) (@BitVec 64) (@BitVec 64) (@instHAndOfAndOp (@BitVec 64) (@BitVec.instAndOp 64)) (@BitVec.ofInt 64 (s.i:Int)) (@BitVec.ofInt 64 (1:Int))):Nat):Int)))))/\kE/\x_2.s.ph=dZ.ph (s.X (Int.toNat (1-IntKind.wrap .i64 ((@BitVec.toNat 64 (@HAnd.hAnd (@BitVec 64) (@BitVec 64) (@BitVec 64) (@instHAndOfAndOp (@BitVec 64) (@BitVec.instAndOp 64)) (@BitVec.ofInt 64 (s.i:Int)) (@BitVec.ofInt 64 (1:Int))):Nat):Int))))/\x_2.s.f.epoch=ZFp.epoch (dZ.f (s.X (Int.toNat (1-IntKind.wrap .i64 ((@BitVec.toNat 64 (@HAnd.hAnd (@BitVec 64) (@BitVec 64) (@BitVec 64) (@instHAndOfAndOp (@BitVec 64) (@BitVec.instAndOp 64)) (@BitVec.ofInt 64 (s.i:Int)) (@BitVec.ofInt 64 (1:Int))):Nat):Int)))))/\x_2.s.f.pos=ZFp.pos (dZ.f (s.X (Int.toNat (1-IntKind.wrap .i64 ((@BitVec.toNat 64 (@HAnd.hAnd (@BitVec 64) (@BitVec 64) (@BitVec 64) (@instHAndOfAndOp (@BitVec 64) (@BitVec.instAndOp 64)) (@BitVec.ofInt 64 (s.i:Int)) (@BitVec.ofInt 64 (1:Int))):Nat):Int)))))/\x_2.s.f.past=ZFp.past (dZ.f (s.X (Int.toNat (1-IntKind.wrap .i64 ((@BitVec.toNat 64 (@HAnd.hAnd (@BitVec 64) (@BitVec 64) (@BitVec 64) (@instHAndOfAndOp (@BitVec 64) (@BitVec.instAndOp 64)) (@BitVec.ofInt 64 (s.i:Int)) (@BitVec.ofInt 64 (1:Int))):Nat):Int)))))/\(0:Int)=0/\x_2.s.f.had=ZFp.had (dZ.f (s.X (Int.toNat (1-IntKind.wrap .i64 ((@BitVec.toNat 64 (@HAnd.hAnd (@BitVec 64) (@BitVec 64) (@BitVec 64) (@instHAndOfAndOp (@BitVec 64) (@BitVec.instAndOp 64)) (@BitVec.ofInt 64 (s.i:Int)) (@BitVec.ofInt 64 (1:Int))):Nat):Int)))))/\x_2.s.f.old.key=ZLnk.key (ZFp.old (dZ.f (s.X (Int.toNat (1-IntKind.wrap .i64 ((@BitVec.toNat 64 (@HAnd.hAnd (@BitVec 64) (@BitVec 64) (@BitVec 64) (@instHAndOfAndOp (@BitVec 64) (@BitVec.instAndOp 64)) (@BitVec.ofInt 64 (s.i:Int)) (@BitVec.ofInt 64 (1:Int))):Nat):Int))))))/\x_2.s.f.old.id=ZLnk.id (ZFp.old (dZ.f (s.X (Int.toNat (1-IntKind.wrap .i64 ((@BitVec.toNat 64 (@HAnd.hAnd (@BitVec 64) (@BitVec 64) (@BitVec 64) (@instHAndOfAndOp (@BitVec 64) (@BitVec.instAndOp 64)) (@BitVec.ofInt 64 (s.i:Int)) (@BitVec.ofInt 64 (1:Int))):Nat):Int))))))/\x_2.s.f.old.ver=ZLnk.ver (ZFp.old (dZ.f (s.X (Int.toNat (1-IntKind.wrap .i64 ((@BitVec.toNat 64 (@HAnd.hAnd (@BitVec 64) (@BitVec 64) (@BitVec 64) (@instHAndOfAndOp (@BitVec 64) (@BitVec.instAndOp 64)) (@BitVec.ofInt 64 (s.i:Int)) (@BitVec.ofInt 64 (1:Int))):Nat):Int))))))/\x_2.s.f.old.line=ZLnk.line (ZFp.old (dZ.f (s.X (Int.toNat (1-IntKind.wrap .i64 ((@BitVec.toNat 64 (@HAnd.hAnd (@BitVec 64) (@BitVec 64) (@BitVec 64) (@instHAndOfAndOp (@BitVec 64) (@BitVec.instAndOp 64)) (@BitVec.ofInt 64 (s.i:Int)) (@BitVec.ofInt 64 (1:Int))):Nat):Int))))))/\x_2.s.f.old.cls=ZLnk.cls (ZFp.old (dZ.f (s.X (Int.toNat (1-IntKind.wrap .i64 ((@BitVec.toNat 64 (@HAnd.hAnd (@BitVec 64) (@BitVec 64) (@BitVec 64) (@instHAndOfAndOp (@BitVec 64) (@BitVec.instAndOp 64)) (@BitVec.ofInt 64 (s.i:Int)) (@BitVec.ofInt 64 (1:Int))):Nat):Int))))))/\x_2.s.f.line=ZFp.line (dZ.f (s.X (Int.toNat (1-IntKind.wrap .i64 ((@BitVec.toNat 64 (@HAnd.hAnd (@BitVec 64) (@BitVec 64) (@BitVec 64) (@instHAndOfAndOp (@BitVec 64) (@BitVec.instAndOp 64)) (@BitVec.ofInt 64 (s.i:Int)) (@BitVec.ofInt 64 (1:Int))):Nat):Int)))))/\x_2.s.f.cls=ZFp.cls (dZ.f (s.X (Int.toNat (1-IntKind.wrap .i64 ((@BitVec.toNat 64 (@HAnd.hAnd (@BitVec 64) (@BitVec 64) (@BitVec 64) (@instHAndOfAndOp (@BitVec 64) (@BitVec.instAndOp 64)) (@BitVec.ofInt 64 (s.i:Int)) (@BitVec.ofInt 64 (1:Int))):Nat):Int)))))/\x_2.s.f.piece=ZFp.piece (dZ.f (s.X (Int.toNat (1-IntKind.wrap .i64 ((@BitVec.toNat 64 (@HAnd.hAnd (@BitVec 64) (@BitVec 64) (@BitVec 64) (@instHAndOfAndOp (@BitVec 64) (@BitVec.instAndOp 64)) (@BitVec.ofInt 64 (s.i:Int)) (@BitVec.ofInt 64 (1:Int))):Nat):Int)))))/\kE/\(0:Int)=0/\kE/\x_2.s.f.code=ZFp.code (dZ.f (s.X (Int.toNat (1-IntKind.wrap .i64 ((@BitVec.toNat 64 (@HAnd.hAnd (@BitVec 64) (@BitVec 64) (@BitVec 64) (@instHAndOfAndOp (@BitVec 64) (@BitVec.instAndOp 64)) (@BitVec.ofInt 64 (s.i:Int)) (@BitVec.ofInt 64 (1:Int))):Nat):Int)))))/\x_2.s.f.found=ZFp.found (dZ.f (s.X (Int.toNat (1-IntKind.wrap .i64 ((@BitVec.toNat 64 (@HAnd.hAnd (@BitVec 64) (@BitVec 64) (@BitVec 64) (@instHAndOfAndOp (@BitVec 64) (@BitVec.instAndOp 64)) (@BitVec.ofInt 64 (s.i:Int)) (@BitVec.ofInt 64 (1:Int))):Nat):Int)))))/\x_2.s.f.ans=ZFp.ans (dZ.f (s.X (Int.toNat (1-IntKind.wrap .i64 ((@BitVec.toNat 64 (@HAnd.hAnd (@BitVec 64) (@BitVec 64) (@BitVec 64) (@instHAndOfAndOp (@BitVec 64) (@BitVec.instAndOp 64)) (@BitVec.ofInt 64 (s.i:Int)) (@BitVec.ofInt 64 (1:Int))):Nat):Int)))))/\kE/\kE/\x_2.s.f.aep=ZFp.aep (dZ.f (s.X (Int.toNat (1-IntKind.wrap .i64 ((@BitVec.toNat 64 (@HAnd.hAnd (@BitVec 64) (@BitVec 64) (@BitVec 64) (@instHAndOfAndOp (@BitVec 64) (@BitVec.instAndOp 64)) (@BitVec.ofInt 64 (s.i:Int)) (@BitVec.ofInt 64 (1:Int))):Nat):Int)))))/\True)/\True)/\(ownM x_2.s.a.os=ownM s.a.os/\True)/\ ∀y_1:ZKs,Hd (x_2.q 0 y_1)->Ac s.i/\Aa s.i/\cP (BEq.beq (dZ.ph (s.X (Int.toNat (1-IntKind.wrap .i64 ((@BitVec.toNat 64 (@HAnd.hAnd (@BitVec 64) (@BitVec 64) (@BitVec 64) (@instHAndOfAndOp (@BitVec 64) (@BitVec.instAndOp 64)) (@BitVec.ofInt 64 (s.i:Int)) (@BitVec.ofInt 64 (1:Int))):Nat):Int))))) (5:Int)) (cP (BEq.beq y_1.ph (6:Int)) (Ac s.i/\Aa s.i/\Ac s.i/\Aa s.i/\I64 ((s.i:Int)+1)/\ ∃s_1:Na,vK s_1 x/\120-s_1.i<120-s.i/\((s_1.i:Int)=(s.i:Int)+1/\XC s_1.last s/\True)/\aiL s_1 s y_1 x) (XA s x y_1)) (XA s x y_1)) (aiK s x)) (aiK s x)) (∃x_2:ZWp,Hd x_2.ok/\(0=0/\(x_2.t:Int)=0/\((1:Int)=1/\x_2.key= @ByteArray.mk (@List.toArray UInt8 [(107:UInt8)])/\x_2.v=ByteArray.mk #[]/\ByteArray.mk #[]=ByteArray.mk #[]/\kE/\True)/\True)/\(ownM x_2.a.os=ownM s.a.os/\True)/\(∀y_1:Nat,Hd (goodP (1:Int) x_2.key x_2.v≠(0:Int))->XB s x)/\(∀y_1:Nat,Hd (goodP (1:Int) x_2.key x_2.v=0/\fF x_2.a.L x_2.key= @Option.none ZLnk)->XB s x)/\ ∀y_1:Nat,Hd (goodP (1:Int) x_2.key x_2.v=0/\ ∃y_2:ZLnk,fF x_2.a.L x_2.key=some y_2)->Fp/\0<2/\Fj/\1<2/\cP (Bool.not (@BEq.beq Bool (@instBEqOfDecidableEq Bool @instDecidableEqBool) (ZFp.found (dZ.f (s.X 0))) (ZFp.found (dZ.f (s.X 1))))) (Fp/\0<2/\cP (BEq.beq (dZ.ph (s.X 0)) (7:Int)) (Fj/\1<2/\cP (BEq.beq (dZ.ph (s.X 1)) (7:Int)) (cP (BEq.beq (ByteArray.toList (ZBlk.value (x_2.B x_2.key))) (ByteArray.toList s.last)) (∃x_3:ZSto,Hd True/\(0=0/\True)/\(ownM (ZSto.os (ZSto.mk x_3.d x_3.p x_3.r x_3.c x_3.ph x_3.b x_3.l x_3.L x_3.id x_3.ver 2 x_3.e))=ownM x_2.a2.os/\True)/\ ∀y_2:Unit,True-> ∃x_4:ZLq,True/\(0=0/\True)/\(tabA x_4.L=tabA x_3.L/\True)/\ ∀y_3:Unit,True->cP (BEq.beq ((List.length x_4.L:Nat):Int) (1:Int)) (2<=2/\(2*(0+2)+1000)*72<=281474976710656/\ ∃x_5:Unit,True/\True/\True/\ ∀y_4:Unit,True->true=true/\vI x) (oD x)) (oD x)) (oD x)) (oD x)) (oD x)))/\True)))
theorem XE(x:Ip):Nh x=wpF Tryz.prog asg tt (asf x) 200 6 6 [.slR 0 0 1 x.m,.lit (.string x.v),.lit (.string x.w)] (hO 1 x.os) (λv h'=>endP 1 (boo true) x.os v h'):=by kernel_rfl
theorem Nj(a:ZSto):Nc a:=by
 unfold Nc;simp only[aZ,aV,aU,aA,aI,bT,bF,aO,aK,ay,aX,aW,bU,bH,bI,bJ,bV,bD,bK,bC,eY,aH,aN,ah,ak,aB,aF,aC,aG];rfl
theorem aiM:bZ Tryz.prog 37 Rq.ctr:=cO dF mixed .nil 11 noA 200 6 (λ_=>⟨rfl,rfl,rfl,rfl⟩) λx _=>Eq.mp (XD x) (Nj x)
theorem amj:dX Tryz.prog asg:= .append aiI (.cons (bP aiM) .nil)
theorem amk(X:Nat->dZ)(t:Nat)(x':dZ)(q:Nat):(anr X t x' q).f.vs 2 (anr X t x' q).ph=Cs.eff (λt=>(X t).f.vs 2 (X t).ph) [(t,x'.f.vs 2 x'.ph)] q:=by
 show _=bif Nat.beq q t then _ else _;unfold anr;by_cases e:q=t
 ·subst e;rw[Nat.beq_refl,if_pos rfl];rfl
 ·rw[if_neg e,dA,decide_eq_false e];rfl
theorem and1{i:Nat}(h:i<=120):IntKind.wrap .i64 ((BitVec.ofInt 64 (i:Int)&&&BitVec.ofInt 64 1).toNat:Nat)=((i%2:Nat):Int):=by
 have e:(BitVec.ofInt 64 (i:Int)&&&BitVec.ofInt 64 1).toNat=i%2:=by
  rw[BitVec.toNat_and,BitVec.toNat_ofInt,show(BitVec.ofInt 64 1).toNat=1 from rfl,Nat.and_one_is_mod];omega
 rw[e];have:i%2=0\/i%2=1:=by omega
 rcases this with e|e<;>rw[e]<;>rfl
section
variable{V:Nat->ByteArray}{M o:Nat}{B:ByteArray->ZBlk}{last:ByteArray}{a:ZSto}{X:Nat->dZ}{i t:Nat}
theorem TS.up{M':Nat}(h:TS V M o B last a X i)(hM:M<=M'):TS V M' o B last a X i:={h with w:={h.w with base:=h.w.base.up hM (aY _)}}
theorem TS.fin(h:TS V M o B last a X 120)(ht:t<2):(X t).ph=7/\(X t).f.found=decide ((X t).od=1)/\(X t).od<o/\a.r.has t=0:=by
 have hr:=h.r t ht;have hc:MZ t 120=0:=by unfold MZ;rw[if_neg (by decide)];omega
 obtain⟨_,hp⟩:=h.th t ht;rcases hp with ⟨h1,h2,h3,h4,h5⟩|⟨h1,h2,h3,h4,h5⟩|⟨h1,h2,h3,h4,h5⟩|⟨h1,_,h3,h4,p,h5,h6,h7,h8⟩|⟨h1,_,h3,h4,h5,h6⟩|⟨h1,_,h3,h4,h5⟩|⟨h1,h2,h3,h4,h5⟩|⟨h1,h2,h3,h4,h5⟩
 ·omega
 ·omega
 ·omega
 ·omega
 ·omega
 ·omega
 ·omega
 ·exact⟨h1,h3,h4,h5⟩
theorem TS.two(h:TS V M o B last a X 120):o=2/\(X 0).f.found≠(X 1).f.found:=by
 obtain⟨a1,a2,a3,_⟩:=h.fin (t:=0) (by decide);obtain⟨b1,b2,b3,_⟩:=h.fin (t:=1) (by decide);have p0:yA (X 0)=1:=by unfold yA;rw[if_pos (.inr a1)]
 have p1:yA (X 1)=1:=by unfold yA;rw[if_pos (.inr b1)]
 have hc:=h.cnt 0 1 rfl;have ho:=h.od 0 1 rfl p0 p1;refine⟨by omega,λe=> ?_⟩;rw[a2,b2]at e;by_cases e0:(X 0).od=1
 ·rw[decide_eq_true e0,decide_eq_false (by omega)]at e;cases e
 ·rw[decide_eq_false e0,decide_eq_true (by omega)]at e;cases e
end
def tq0(v:ByteArray):dZ:=⟨fK kk v,0,0,0,false,0,15⟩
theorem TS.new{V:Nat->ByteArray}(hV: ∀t,(V t).size<=400){d:DevM}(hd:d.ok/\d.n=34/\d.st=2/\d.fl=2/\d.fe=1):TS V 10 0 (λ_=>zBk) ⟨#[]⟩ (newSto 34 2 d) (λt=>tq0 (V t)) 0:=by
 have nh: ∀t,¬MW (tq0 (V t)):=λt=>MX (show(0:Int)≠4 by decide) (show(0:Int)≠5 by decide) (λe=>absurd (show(0:Int)=1 from e) (by decide))
 refine⟨⟨eG.new hd (by decide) (by decide) _,by decide,rfl,rfl,λ_=>rfl,λe=>absurd rfl e⟩,λt ht=>⟨⟨rfl,rfl,rfl,rfl,rfl⟩,.inl ⟨rfl,rfl,rfl,rfl,?_⟩⟩,λ_ _ _=>rfl,λt _ _ e=>absurd e (nh t),λt _ _ e=>absurd e (show¬(0:Nat)=1 by decide),rfl,λ_ _ _ j _ hj=>if_pos hj,λ_ _=>show(15:Nat)<=30 by decide⟩;obtain⟨_,_,z3,_⟩:=ZE (key:=kk) (v:=V t) (by decide) (hV t);show 5+eps kk (V t)+2<=15;omega
theorem ash(a:ZSto)(h:a.n=2):({a with n:=2}:ZSto)=a:=by
 obtain⟨d,p,r,c,ph,b,l,L,id,ver,n,e⟩:=a;have h:n=2:=h;subst h;rfl
set_option maxRecDepth 20000 in
theorem Nk(x:Ip):Nh x:=by
 have aw: ∀{P:Prop},P-> ∃x_1:Unit,True/\True/\True/\ ∀y:Unit,True->P:=λh=>⟨(),trivial,trivial,trivial,λ_ _=>h⟩
 unfold Nh;simp only[Nb,vK,vJ,vI,Ac,Aa,XC,kE,aiL,XA,aiK,XB,Fp,Fj,oD,zY,zZ,Xz,aiJ,Xy];simp only[aZ,aV,aU,aA,aI,bT,bF,aO,aK,ay,aX,aW,bU,bH,bI,bJ,bV,bD,bK,bC,eY,aH,aN,ah,ak,aB,aF,aC,aG];refine bf (λ_=>trivial) λhm=>bf (λ_=>trivial) λhv=>bf (λ_=>trivial) λhw=> ?_
 have hm:x.m<=60:=by have:=aT hm;omega
 have hV: ∀t,(x.V t).size<=400:=λt=>by
  have:=aT hv;have:=aT hw;unfold Ip.V;split<;>omega
 refine⟨⟨34,2⟩,by decide,⟨rfl,rfl⟩,λd hd=>⟨?_,λs hs=>bf (λhlt=> ?_) λhge=> ?_⟩⟩
 ·refine⟨⟨0,newSto 34 2 d,λt=>tq0 (x.V t),0,λ_=>zBk,⟨#[]⟩⟩,⟨Nat.zero_le _,TS.new hV hd⟩,⟨rfl,rfl⟩,⟨rfl,λq hq=> ?_⟩,rfl⟩
  have:q=0\/q=1:=by omega
  rcases this with rfl|rfl<;>rfl
 ·obtain⟨h1,h⟩:=hs
  have hlt:s.i<120:=by have:=aS hlt;omega
  have nxt: ∀(t:Nat) (y:ZKs) (l':ByteArray),t<2->TQ x.V (20*s.i+10+20) s.last s.X s.i t y->l'=(if (s.X t).ph=5/\y.ph=6 then(s.X t).f.value else s.last)->
    ∃s_1:Na,(s_1.i<=120/\TS x.V (20*s_1.i+10) s_1.o s_1.B s_1.last s_1.a s_1.X s_1.i)/\120-s_1.i<120-s.i/\((s_1.i:Int)=s.i+1/\s_1.last=l')/\(∀q,q<2->(s_1.X q).f.vs 2 (s_1.X q).ph=Cs.eff (λt=>(s.X t).f.vs 2 (s.X t).ph) [(t,y.f.vs 2 y.ph)] q)/\ownM s_1.a.os=ownM y.a.os:=λt y l' ht ⟨o',B',x',k1,k2,k3⟩ hl=>by
   have hf:=(h.th t ht).1.2.1;rw[hf]at hl;exact⟨⟨s.i+1,y.a,anr s.X t x',o',B',l'⟩,⟨by show s.i+1<=120;omega,by rw[hl];exact k1.up (by show _<=20*(s.i+1)+10;omega)⟩,by show 120-(s.i+1)<_;omega,⟨by show((s.i+1:Nat):Int)=_;omega,rfl⟩,λq _=>by rw[k2,k3];exact amk _ _ _ _,rfl⟩
  have hi64:I64 ((s.i:Int)+1):=by unfold I64;omega
  refine bf (λhx=>⟨⟨by omega,aS hx⟩,by have:=aS hx;omega,bf (λ_=> ?_) λ_=> ?_⟩) λhx=> ?_
  all_goals rw[and1 (by omega)]
  ·have hlm:s.i<x.m:=by have:=aS hx;omega
   obtain⟨t,ht,et⟩: ∃t:Nat,t<2/\(1-((s.i%2:Nat):Int))=(t:Int):=⟨1-s.i%2,by omega,by omega⟩;rw[et];simp only[ay];refine⟨by unfold I64;omega,⟨by omega,by omega⟩,ht,⟨⟨s.a,(s.X t).f,(s.X t).ph⟩,t,zBk,0,_⟩,⟨rfl,h.step (by omega) hV ht (.inl (by omega))⟩,?_,rfl,λy hy=>⟨⟨by omega,by omega⟩,ht,bf (λh5=>bf (λh6=>⟨⟨by omega,by omega⟩,ht,⟨by omega,by omega⟩,ht,hi64,nxt t y _ ht hy ?_⟩) λh6=>⟨⟨by omega,by omega⟩,ht,hi64,nxt t y _ ht hy ?_⟩) λh5=>⟨⟨by omega,by omega⟩,ht,hi64,nxt t y _ ht hy ?_⟩⟩⟩
   ·repeat' (first|exact rfl|refine And.intro ?_ ?_)
   ·rw[if_pos ⟨beq_iff_eq.1 h5,beq_iff_eq.1 h6⟩]
   ·rw[if_neg (λe=>beq_eq_false_iff_ne.1 h6 e.2)]
   ·rw[if_neg (λe=>beq_eq_false_iff_ne.1 h5 e.1)]
  all_goals
   obtain⟨t,ht,et,em⟩: ∃t:Nat,t<2/\((s.i%2:Nat):Int)=(t:Int)/\t=s.i%2:=⟨s.i%2,by omega,rfl,rfl⟩;rw[et];simp only[ay];refine⟨⟨by omega,by omega⟩,ht,⟨⟨s.a,(s.X t).f,(s.X t).ph⟩,t,zBk,0,_⟩,⟨rfl,h.step (by omega) hV ht (.inr em)⟩,?_,rfl,λy hy=>⟨⟨by omega,by omega⟩,ht,bf (λh5=>bf (λh6=>⟨⟨by omega,by omega⟩,ht,⟨by omega,by omega⟩,ht,hi64,nxt t y _ ht hy ?_⟩) λh6=>⟨⟨by omega,by omega⟩,ht,hi64,nxt t y _ ht hy ?_⟩) λh5=>⟨⟨by omega,by omega⟩,ht,hi64,nxt t y _ ht hy ?_⟩⟩⟩
   ·repeat' (first|exact rfl|refine And.intro ?_ ?_)
   ·rw[if_pos ⟨beq_iff_eq.1 h5,beq_iff_eq.1 h6⟩]
   ·rw[if_neg (λe=>beq_eq_false_iff_ne.1 h6 e.2)]
   ·rw[if_neg (λe=>beq_eq_false_iff_ne.1 h5 e.1)]
 ·obtain⟨h1,h⟩:=hs
  have hi:s.i=120:=by have:=aT hge;omega
  rw[hi]at h;have w:=h.w;obtain⟨o2,hf⟩:=h.two;obtain⟨a1,_,_,a4⟩:=h.fin (t:=0) (by decide);obtain⟨b1,_,_,b4⟩:=h.fin (t:=1) (by decide);obtain⟨l,l1,l2,l3⟩:=w.L1 (by omega);have hl:fF s.a.L kk=some l:=by
   rw[l1];unfold fF;rw[List.find?_cons_of_pos (by rw[l2];exact decide_eq_true rfl)]
  have hn:s.a.n=2:=by rw[w.n];exact o2
  let X5:ZWp:=⟨s.a,2,20*120+10,s.o,s.B,0,kk,⟨#[]⟩⟩
  have f0: ∀{P Q:Prop},Q->cP ((s.X 0).ph==7) Q P:=λh=>bf (λ_=>h) λe=>absurd a1 (beq_eq_false_iff_ne.1 e)
  have f1: ∀{P Q:Prop},Q->cP ((s.X 1).ph==7) Q P:=λh=>bf (λ_=>h) λe=>absurd b1 (beq_eq_false_iff_ne.1 e)
  refine⟨X5,⟨w.base,by show 0<2;decide,a4,by show 20*120+10<=900000;decide,by show s.o<=100;omega⟩,⟨rfl,rfl,rfl⟩,rfl,λ_ e=>absurd rfl e,λ_ e=> ?_,λ_ _=>⟨by decide,by decide,by decide,by decide,bf (λ_=>⟨by decide,by decide,f0 ⟨by decide,by decide,f1 (bf (λ_=>⟨X5.a2,by rw[ash X5.a2 hn],⟨s.a.L⟩,rfl,bf (λ_=>by decide) λe=> ?_⟩) λe=> ?_)⟩⟩) λe=> ?_⟩⟩
  ·have e:fF s.a.L kk=none:=e.2
   rw[hl]at e;cases e
  ·have e:(((s.a.L.length:Nat):Int)==1)=false:=e
   rw[l1]at e;cases e
  ·have e:((s.B kk).value.toList==s.last.toList)=false:=e
   rw[l3,beq_self_eq_true]at e;cases e
  ·have e:(!((s.X 0).f.found==(s.X 1).f.found))=false:=e
   rw[Bool.not_eq_false']at e;exact absurd (eq_of_beq e) hf
theorem aiN(x:Ip):Sp Tryz.prog 6 [.slR 0 0 1 x.m,.lit (.string x.v),.lit (.string x.w)] (hO 1 x.os) (λv _=>v=boo true):=
 (aqT dF mixed amj (asf x) 200 6 (v0:=boo true) (os:=x.os) (Eq.mp (XE x) (Nk x))).mono λ_ _ hh=>hh.1
end Go.Proofs.YtenfleoejgjklaaGreat
end
