import Derived.Test.YtenfleoejgjklaaGreatWa
import Derived.Test.YtenfleoejgjklaaGreatWb
import Derived.Test.YtenfleoejgjklaaGreatWc
import Derived.Test.YtenfleoejgjklaaGreatWd
import Derived.Test.YtenfleoejgjklaaGreatWe
import Derived.Test.YtenfleoejgjklaaGreatWf
import Derived.Test.YtenfleoejgjklaaGreatWg
import Derived.KernelRfl
set_option linter.unusedVariables false
set_option linter.unusedSimpArgs false
set_option linter.unnecessarySimpa false
section
namespace Go.Proofs.YtenfleoejgjklaaGreat
open Go SE
def pF(a:ZSto):Prop:=ownM a.b.os=ownM a.b.os/\tabA a.L=tabA a.L/\ordA a.L=ordA a.L/\ownM a.l.os=ownM a.l.os/\(Nat.beq a.n 0=Nat.beq a.n 0/\a.n=a.n/\ ∀q:Nat,q<a.n->[Value.int .i64 (ZEff.kind (a.e q)),Value.string (ZEff.key (a.e q)),Value.string (ZEff.value (a.e q)),Value.int .u64 (ZEff.id (a.e q)),Value.int .u64 (ZEff.ver (a.e q)),Value.int .u64 (ZEff.epoch (a.e q)),Value.int .i64 (ZEff.group (a.e q))]=[Value.int .i64 (ZEff.kind (a.e q)),Value.string (ZEff.key (a.e q)),Value.string (ZEff.value (a.e q)),Value.int .u64 (ZEff.id (a.e q)),Value.int .u64 (ZEff.ver (a.e q)),Value.int .u64 (ZEff.epoch (a.e q)),Value.int .i64 (ZEff.group (a.e q))])/\True
def dL:Prop:=Value.slice none 0 0=Value.slice none 0 0
def bM(a:Int):Prop:=a=a
def je(a:ZSto):Prop:=0=0/\0=0/\0=0/\0=0/\0=0/\0=0/\0=0/\0=0/\bM a.id/\bM a.ver/\(Nat.beq a.n 0=Nat.beq a.n 0/\a.n=a.n)/\True
def bY(a:ByteArray):Prop:=a=a
def gX(a:ZFp):Prop:=a.found=a.found/\bY a.ans/\dL/\dL/\bM a.aep/\True
def jf:Prop:=0=0/\(1:Int)=1/\(0:Int)=0/\(0:Int)=0/\True
def vJ(a:ZFp):Prop:=dL/\(0:Int)=0/\dL/\bM a.code/\gX a
def zV(a:ZFp):Prop:=bY a.pos/\a.past=a.past/\(0:Int)=0/\a.had=a.had/\bY a.old.key/\bM a.old.id/\bM a.old.ver/\bM a.old.line/\bM a.old.cls/\bM a.line/\bM a.cls/\bM a.piece/\vJ a
def LX(a:ZPs):Prop:=bY a.f.key/\bY a.f.value/\bY a.f.to/\dL/\(1:Int)=7/\a.a.c.now=a.f.epoch/\bY a.f.pos/\a.f.past=a.f.past/\(0:Int)=0/\a.f.had=a.f.had/\bY a.f.old.key/\bM a.f.old.id/\bM a.f.old.ver/\bM a.f.old.line/\bM a.f.old.cls/\bM a.f.line/\bM a.f.cls/\bM a.f.piece/\dL/\(0:Int)=0/\dL/\a.f.code=5/\gX a.f
def jg(a:DevM):Prop:=ownM a.os=ownM a.os
def nI(a:ZPool):Prop:=ownM a.os=ownM a.os
def zW(a:ZPs):Prop:=je a.a/\jf/\jg a.a.d/\nI a.a.p/\ownM (ZRd.os (a.a.r.put a.t a.a.r.now))=ownM a.a.r.os/\ownM (ZCk.os (ZSto.ck (a.a.Ce a.t a.a.r.now)))=ownM a.a.ck.os/\pF a.a
def EZ(a:ZFp):Prop:=Hd (goodP (2:Int) a.key a.value≠(0:Int))
def zX(a:ZSto):Prop:=ownM a.r.os=ownM a.r.os/\ownM a.ck.os=ownM a.ck.os/\pF a
def zY(a:ZSto):Prop:=je a/\jf/\jg a.d/\nI a.p/\zX a
def E5(a:ZFp):Prop:=Hd (goodP (2:Int) a.key a.value=0)
def WZ(a:ZPs):Prop:=True/\((∃y:Unit,EZ a.f/\((2:Int)=2/\bY a.f.key/\bY a.f.value/\bY a.f.to/\dL/\(7:Int)=7/\bM a.f.epoch/\bY a.f.pos/\a.f.past=a.f.past/\(0:Int)=0/\a.f.had=a.f.had/\bY a.f.old.key/\bM a.f.old.id/\bM a.f.old.ver/\bM a.f.old.line/\bM a.f.old.cls/\bM a.f.line/\bM a.f.cls/\bM a.f.piece/\dL/\(0:Int)=0/\dL/\goodP (2:Int) a.f.key a.f.value=5/\gX a.f)/\zY a.a)\/ ∃y:Unit,E5 a.f/\((2:Int)=2/\LX a)/\zW a)
def E8(a:ZFp):Prop:=dL/\(0:Int)=0/\dL/\a.code=1/\gX a
def LY(a:ZPs):Prop:=bY a.f.key/\bY a.f.value/\bY a.f.to/\dL/\(1:Int)=7/\a.a.c.now=a.f.epoch/\bY a.f.pos/\a.f.past=a.f.past/\(0:Int)=0/\a.f.had=a.f.had/\bY a.f.old.key/\bM a.f.old.id/\bM a.f.old.ver/\bM a.f.old.line/\bM a.f.old.cls/\bM a.f.line/\bM a.f.cls/\bM a.f.piece/\E8 a.f
def LZ(a:ZPs):Prop:=bY a.f.key/\bY a.f.value/\bY a.f.to/\dL/\(1:Int)=7/\a.a.c.now=a.f.epoch/\bY a.f.pos/\a.f.past=a.f.past/\(0:Int)=0/\a.f.had=a.f.had/\bY a.f.old.key/\bM a.f.old.id/\bM a.f.old.ver/\bM a.f.old.line/\bM a.f.old.cls/\bM a.f.line/\bM a.f.cls/\bM a.f.piece/\dL/\(0:Int)=0/\dL/\a.f.code=7/\gX a.f
def L6(a:ZPs)(b:ZRdT):Prop:=je a.a/\jf/\jg a.a.d/\nI a.a.p/\ownM (ZRd.os (a.a.r.put a.t (0:Int)))=ownM (ZRd.os (b.r.put b.k (0:Int)))/\ownM (ZCk.os (ZSto.ck (a.a.Ce a.t (0:Int))))=ownM a.a.ck.os/\pF a.a
def L8(a:ZPs)(b:ZRdT)(c:ZCk):Prop:=je a.a/\jf/\jg a.a.d/\nI a.a.p/\ownM (ZRd.os (a.a.r.put a.t a.a.r.now))=ownM (ZRd.os (b.r.put b.k b.r.now))/\ownM (ZCk.os (ZSto.ck (a.a.Ce a.t a.a.r.now)))=ownM c.os/\pF a.a
def W9(a:ZSto)(b:ZPool):Prop:=je a/\jf/\jg a.d/\ownM a.p.os=ownM b.os/\zX a
def L9(a:ZPs)(b:ZRd):Prop:=je a.a/\jf/\jg a.a.d/\nI a.a.p/\ownM (ZRd.os (a.a.r.put a.t a.a.r.now))=ownM b.os/\ownM (ZCk.os (ZSto.ck (a.a.Ce a.t a.a.r.now)))=ownM a.a.ck.os/\pF a.a
def Mc(a:ZSto)(b:ZRdT)(c:ZCk):Prop:=je a/\jf/\jg a.d/\nI a.p/\ownM a.r.os=ownM (ZRd.os (b.r.put b.k b.r.now))/\ownM a.ck.os=ownM c.os/\pF a
def vK(a:ZPs):Prop:=a.nd (2:Int)=ned ((a.f.key.size:Int)+(a.f.value.size:Int))
def Md(a:ZSto)(b:ZRd):Prop:=je a/\jf/\jg a.d/\nI a.p/\ownM a.r.os=ownM b.os/\ownM a.ck.os=ownM a.ck.os/\pF a
def Xa(a:ZPs)(b:Prod Nat Nat):Prop:=ownM a.a.r.os=ownM a.a.r.os/\ownM (ZCk.os (ZSto.ck (a.a.Wx (a.a.p.take (a.nd (2:Int)) b.1 b.2))))=ownM a.a.ck.os/\pF a.a
def Me(a:ZFp):Prop:=bY a.key/\bY a.value/\bY a.to/\dL/\(7:Int)=7/\bM a.epoch/\zV a
def MB(a:ZPs)(b:Int):Prop:=bY a.f.key/\bY a.f.value/\bY a.f.to/\dL/\(1:Int)=1/\a.a.c.now=b/\zV a.f
def Xb(a:ZPs)(b:Prod Nat Nat)(c:ZPool):Prop:=je a.a/\jf/\jg a.a.d/\ownM (ZPool.os (a.a.p.take (a.nd (2:Int)) b.1 b.2))=ownM c.os/\Xa a b
def MC(a:ZPs):Prop:=Hd (∀i:Nat,i<a.a.p.n->a.a.p.cls i≠(-(1:Int))/\a.a.p.full (a.nd (2:Int)) i)
def sQ(a:Nat)(b:Nat):Prop:=0=0/\(a:Int)=(b:Int)/\True
def Fa(a:ZFp):Prop:=Hd (goodP (1:Int) a.key a.value≠(0:Int))
def sS(a:ZRdT):Prop:=Hd (a.r.ok/\a.k<a.r.t)
def aiq(a:lI):Prop:=Hd (spn a.c≠(0:Int)/\ ∀i:Nat,i<a.p.n->a.p.cls i≠(-(1:Int))/\a.p.full a.c i)
def Fb(a:ZFp):Prop:=Hd (goodP (1:Int) a.key a.value=0)
def air(x:ZPs):Prop:=
 ((0:Int)<=0/\(0:Int)<=6)/\cP (BEq.beq (ByteArray.toList x.f.key) (ByteArray.toList (ByteArray.mk #[]))) (True/\((∃y:Unit,Fa x.f/\((1:Int)=1/\bY x.f.key/\bY x.f.value/\bY x.f.to/\dL/\(7:Int)=7/\bM x.f.epoch/\bY x.f.pos/\x.f.past=x.f.past/\(0:Int)=0/\x.f.had=x.f.had/\bY x.f.old.key/\bM x.f.old.id/\bM x.f.old.ver/\bM x.f.old.line/\bM x.f.old.cls/\bM x.f.line/\bM x.f.cls/\bM x.f.piece/\dL/\(0:Int)=0/\dL/\goodP (1:Int) x.f.key x.f.value=1/\gX x.f)/\zY x.a)\/ ∃y:Unit,Fb x.f/\((1:Int)=1/\LY x)/\zW x)) (cP (decide ((x.f.key.size:Int)>(16:Int))) (True/\((∃y:Unit,Fa x.f/\((1:Int)=1/\bY x.f.key/\bY x.f.value/\bY x.f.to/\dL/\(7:Int)=7/\bM x.f.epoch/\bY x.f.pos/\x.f.past=x.f.past/\(0:Int)=0/\x.f.had=x.f.had/\bY x.f.old.key/\bM x.f.old.id/\bM x.f.old.ver/\bM x.f.old.line/\bM x.f.old.cls/\bM x.f.line/\bM x.f.cls/\bM x.f.piece/\dL/\(0:Int)=0/\dL/\goodP (1:Int) x.f.key x.f.value=5/\gX x.f)/\zY x.a)\/ ∃y:Unit,Fb x.f/\((1:Int)=1/\LX x)/\zW x)) (∃x_1:ZRdT,sS x_1/\sQ x_1.k x.t/\(ownM x_1.r.os=ownM x.a.r.os/\True)/\(∀y:Unit,Hd (x_1.r.has x_1.k=0)-> ∃x_2:ZCk,Hd (x_2.ph<=4/\x_2.c.ok)/\(0=0/\True)/\(ownM x_2.os=ownM x.a.ck.os/\True)/\ ∀y_1:Unit,True->True/\((∃y_2:Unit,Fa x.f/\((1:Int)=1/\bY x.f.key/\bY x.f.value/\bY x.f.to/\dL/\(7:Int)=1/\x.f.epoch=x_2.c.now/\bY x.f.pos/\x.f.past=x.f.past/\(0:Int)=0/\x.f.had=x.f.had/\
 bY x.f.old.key/\bM x.f.old.id/\bM x.f.old.ver/\bM x.f.old.line/\bM x.f.old.cls/\bM x.f.line/\bM x.f.cls/\bM x.f.piece/\dL/\(0:Int)=0/\dL/\goodP (1:Int) x.f.key x.f.value=x.f.code/\gX x.f)/\Mc x.a x_1 x_2)\/ ∃y_2:Unit,Fb x.f/\((1:Int)=1/\MB x x_2.c.now)/\L8 x x_1 x_2))/\ ∀y:Unit,Hd (x_1.r.has x_1.k≠(0:Int))->True/\((∃y_1:Unit,Fa x.f/\((1:Int)=1/\bY x.f.key/\bY x.f.value/\bY x.f.to/\dL/\(7:Int)=7/\bM x.f.epoch/\bY x.f.pos/\x.f.past=x.f.past/\(0:Int)=0/\x.f.had=x.f.had/\bY x.f.old.key/\bM x.f.old.id/\bM x.f.old.ver/\bM x.f.old.line/\bM x.f.old.cls/\bM x.f.line/\bM x.f.cls/\bM x.f.piece/\dL/\(0:Int)=0/\dL/\goodP (1:Int) x.f.key x.f.value=7/\gX x.f)/\Md x.a x_1.r)\/ ∃y_1:Unit,Fb x.f/\((1:Int)=1/\LZ x)/\L9 x x_1.r)))
theorem ais(x:ZPs):air x=wpF Tryz.prog aqG tt (noA x) 200 6 34 ((qg 1).args x) (hO 11 (flatP 1 ((qg 1).l x))) (λv h'=>endsPK 1 x v h' (qg 1).outs):=by kernel_rfl
def ait(x:ZPs):Prop:=
 ((0:Int)<=0/\(0:Int)<=6)/\cP (BEq.beq (ByteArray.toList x.f.key) (ByteArray.toList (ByteArray.mk #[]))) (True/\((∃y:Unit,EZ x.f/\((2:Int)=2/\bY x.f.key/\bY x.f.value/\bY x.f.to/\dL/\(7:Int)=7/\bM x.f.epoch/\bY x.f.pos/\x.f.past=x.f.past/\(0:Int)=0/\x.f.had=x.f.had/\bY x.f.old.key/\bM x.f.old.id/\bM x.f.old.ver/\bM x.f.old.line/\bM x.f.old.cls/\bM x.f.line/\bM x.f.cls/\bM x.f.piece/\dL/\(0:Int)=0/\dL/\goodP (2:Int) x.f.key x.f.value=1/\gX x.f)/\zY x.a)\/ ∃y:Unit,E5 x.f/\((2:Int)=2/\LY x)/\zW x)) (cP (decide ((x.f.key.size:Int)>(16:Int))) (WZ x) (cP (decide ((x.f.value.size:Int)>(400:Int))) (WZ x) (∃x_1:ZRdT,sS x_1/\sQ x_1.k x.t/\(ownM x_1.r.os=ownM x.a.r.os/\True)/\(∀y:Unit,Hd (x_1.r.has x_1.k=0)-> ∃x_2:ZCk,Hd (x_2.ph<=4/\x_2.c.ok)/\(0=0/\True)/\(ownM x_2.os=ownM x.a.ck.os/\True)/\ ∀y_1:Unit,True->True/\((∃y_2:Unit,EZ x.f/\((2:Int)=2/\bY x.f.key/\bY x.f.value/\bY x.f.to/\dL/\(7:Int)=1/\x.f.epoch=x_2.c.now/\bY x.f.pos/\x.f.past=x.f.past/\(0:Int)=0/\x.f.had=x.f.had/\bY x.f.old.key/\bM x.f.old.id/\bM x.f.old.ver/\bM x.f.old.line/\bM x.f.old.cls/\bM x.f.line/\bM x.f.cls/\bM x.f.piece/\dL/\(0:Int)=0/\dL/\goodP (2:Int) x.f.key x.f.value=x.f.code/\gX x.f)/\Mc x.a x_1 x_2)\/ ∃y_2:Unit,E5 x.f/\((2:Int)=2/\MB x x_2.c.now)/\L8 x x_1 x_2))/\ ∀y:Unit,Hd (x_1.r.has x_1.k≠(0:Int))->True/\((∃y_1:Unit,EZ x.f/\((2:Int)=2/\bY x.f.key/\
 bY x.f.value/\bY x.f.to/\dL/\(7:Int)=7/\bM x.f.epoch/\bY x.f.pos/\x.f.past=x.f.past/\(0:Int)=0/\x.f.had=x.f.had/\bY x.f.old.key/\bM x.f.old.id/\bM x.f.old.ver/\bM x.f.old.line/\bM x.f.old.cls/\bM x.f.line/\bM x.f.cls/\bM x.f.piece/\dL/\(0:Int)=0/\dL/\goodP (2:Int) x.f.key x.f.value=7/\gX x.f)/\Md x.a x_1.r)\/ ∃y_1:Unit,E5 x.f/\((2:Int)=2/\LZ x)/\L9 x x_1.r))))
theorem aiu(x:ZPs):ait x=wpF Tryz.prog aqG tt (noA x) 200 6 34 ((qg 2).args x) (hO 11 (flatP 1 ((qg 2).l x))) (λv h'=>endsPK 1 x v h' (qg 2).outs):=by kernel_rfl
def aiv(x:ZPs):Prop:=
 ((0:Int)<=3/\(0:Int)<=3)/\I64 ((x.f.key.size:Int)+(x.f.value.size:Int))/\(AV.ptr 0 0=AV.ptr 0 0/\True)/\ ∃x_1:lI,Hd x_1.p.ok/\(0=0/\x_1.c=ned ((x.f.key.size:Int)+(x.f.value.size:Int))/\True)/\(ownM x_1.p.os=ownM x.a.p.os/\True)/\(∀y:Unit,Hd (spn x_1.c=0)->True/\((∃y_1:Unit,MC x/\((2:Int)=2/\bY x.f.key/\bY x.f.value/\bY x.f.to/\dL/\(6:Int)=6/\bM x.f.epoch/\bY x.f.pos/\x.f.past=x.f.past/\(0:Int)=0/\x.f.had=x.f.had/\bY x.f.old.key/\bM x.f.old.id/\bM x.f.old.ver/\bM x.f.old.line/\bM x.f.old.cls/\bM x.f.line/\vK x/\bM x.f.piece/\dL/\(0:Int)=0/\dL/\(4:Int)=1/\gX x.f)/\W9 x.a x_1.p)\/ ∃y_1:Prod Nat Nat,Hd (x.a.p.takes (x.nd (2:Int)) y_1.1 y_1.2)/\((2:Int)=2/\bY x.f.key/\bY x.f.value/\bY x.f.to/\dL/\(4:Int)=6/\bM x.f.epoch/\bY x.f.pos/\x.f.past=x.f.past/\(0:Int)=0/\x.f.had=x.f.had/\bY x.f.old.key/\bM x.f.old.id/\bM x.f.old.ver/\bM x.f.old.line/\bM x.f.old.cls/\2+(y_1.1:Int)*8+(y_1.2:Int)*spn (x.nd (2:Int))=x.f.line/\vK x/\0=x.f.piece/\E8 x.f)/\Xb x y_1 x_1.p))/\(∀y:Unit,aiq x_1->True/\((∃y_1:Unit,MC x/\((2:Int)=2/\bY x.f.key/\bY x.f.value/\bY x.f.to/\dL/\(6:Int)=6/\bM x.f.epoch/\bY x.f.pos/\x.f.past=x.f.past/\(0:Int)=0/\x.f.had=x.f.had/\bY x.f.old.key/\bM x.f.old.id/\bM x.f.old.ver/\bM x.f.old.line/\bM x.f.old.cls/\bM x.f.line/\vK x/\bM x.f.piece/\dL/\(0:Int)=0/\dL/\(4:Int)=4/\gX x.f)/\
 W9 x.a x_1.p)\/ ∃y_1:Prod Nat Nat,Hd (x.a.p.takes (x.nd (2:Int)) y_1.1 y_1.2)/\((2:Int)=2/\bY x.f.key/\bY x.f.value/\bY x.f.to/\dL/\(4:Int)=6/\bM x.f.epoch/\bY x.f.pos/\x.f.past=x.f.past/\(0:Int)=0/\x.f.had=x.f.had/\bY x.f.old.key/\bM x.f.old.id/\bM x.f.old.ver/\bM x.f.old.line/\bM x.f.old.cls/\2+(y_1.1:Int)*8+(y_1.2:Int)*spn (x.nd (2:Int))=x.f.line/\vK x/\0=x.f.piece/\dL/\(0:Int)=0/\dL/\x.f.code=4/\gX x.f)/\Xb x y_1 x_1.p))/\ ∀y:Prod Nat Nat,Hd (spn x_1.c≠(0:Int)/\x_1.p.takes x_1.c y.1 y.2)->True/\((∃y_1:Unit,MC x/\((2:Int)=2/\bY x.f.key/\bY x.f.value/\bY x.f.to/\dL/\(6:Int)=4/\bM x.f.epoch/\bY x.f.pos/\x.f.past=x.f.past/\(0:Int)=0/\x.f.had=x.f.had/\bY x.f.old.key/\bM x.f.old.id/\bM x.f.old.ver/\bM x.f.old.line/\bM x.f.old.cls/\x.f.line=2+(y.1:Int)*8+(y.2:Int)*spn x_1.c/\vK x/\x.f.piece=0/\dL/\(0:Int)=0/\dL/\4=x.f.code/\gX x.f)/\je x.a/\jf/\jg x.a.d/\ownM x.a.p.os=ownM (ZPool.os (x_1.p.take x_1.c y.1 y.2))/\zX x.a)\/ ∃y_1:Prod Nat Nat,Hd (x.a.p.takes (x.nd (2:Int)) y_1.1 y_1.2)/\((2:Int)=2/\bY x.f.key/\bY x.f.value/\bY x.f.to/\dL/\(4:Int)=4/\bM x.f.epoch/\bY x.f.pos/\x.f.past=x.f.past/\(0:Int)=0/\x.f.had=x.f.had/\bY x.f.old.key/\bM x.f.old.id/\bM x.f.old.ver/\bM x.f.old.line/\bM x.f.old.cls/\2+(y_1.1:Int)*8+(y_1.2:Int)*spn (x.nd (2:Int))=2+(y.1:Int)*8+(y.2:Int)*spn x_1.c/\vK x/\(0:Int)=0/\vJ x.f)/\
 je x.a/\jf/\jg x.a.d/\ownM (ZPool.os (x.a.p.take (x.nd (2:Int)) y_1.1 y_1.2))=ownM (ZPool.os (x_1.p.take x_1.c y.1 y.2))/\Xa x y_1)
theorem aiw(x:ZPs):aiv x=wpF Tryz.prog asU tt (noA x) 200 6 34 ((Rf 2).args x) (hO 11 (flatP 1 ((Rf 2).l x))) (λv h'=>endsPK 1 x v h' (Rf 2).outs):=by kernel_rfl
def aix(x:ZPs):Prop:=
 ((0:Int)<=6/\(0:Int)<=0)/\ ∃x_1:ZRdT,sS x_1/\sQ x_1.k x.t/\(ownM x_1.r.os=ownM x.a.r.os/\True)/\ ∀y:Unit,True->True/\ ∃y_1:Unit,True/\((1:Int)=1/\Me x.f)/\L6 x x_1
theorem aiy(x:ZPs):aix x=wpF Tryz.prog apW tt (noA x) 200 6 34 ((qh 1).args x) (hO 11 (flatP 1 ((qh 1).l x))) (λv h'=>endsPK 1 x v h' (qh 1).outs):=by kernel_rfl
def aiz(x:ZPs):Prop:=
 ((0:Int)<=6/\(0:Int)<=0)/\ ∃x_1:ZRdT,sS x_1/\sQ x_1.k x.t/\(ownM x_1.r.os=ownM x.a.r.os/\True)/\ ∀y:Unit,True->True/\ ∃y_1:Unit,True/\((2:Int)=2/\Me x.f)/\L6 x x_1
theorem aiA(x:ZPs):aiz x=wpF Tryz.prog apW tt (noA x) 200 6 34 ((qh 2).args x) (hO 11 (flatP 1 ((qh 2).l x))) (λv h'=>endsPK 1 x v h' (qh 2).outs):=by kernel_rfl
theorem aiB(k:ByteArray):(k.toList==(ByteArray.mk #[]).toList)=decide (k.size=0):=by
 rw[gU,gU];have hs:k.data.toList.length=k.size:=by simp
 cases h:k.data.toList with
 |nil=>rw[h]at hs;rw[decide_eq_true (by rw[<-hs];rfl)];rfl
 |cons a l=>rw[h]at hs;rw[decide_eq_false (by rw[<-hs];simp)];rfl
theorem anX{k:Int}{key v:ByteArray}(h:key.size=0):goodP k key v=1:=if_pos h
theorem aiC{k:Int}{key v:ByteArray}(h0:key.size≠0)(h:16<key.size\/k=2/\400<v.size):goodP k key v=5:=by unfold goodP;rw[if_neg h0,if_pos h]
theorem aiD{k:Int}{key v:ByteArray}(h0:key.size≠0)(h: ¬(16<key.size\/k=2/\400<v.size)):goodP k key v=0:=by unfold goodP;rw[if_neg h0,if_neg h]
theorem yB{k:Int}{key v:ByteArray}(h:goodP k key v=0):key.size≠0/\key.size<=16/\(k=2->v.size<=400):=by
 unfold goodP at h;split at h
 ·cases h
 ·split at h
  ·cases h
  ·rename_i h0 h1
   exact⟨h0,by omega,λhk=>by omega⟩
theorem Xc(x:ZPs)(hx:x.a.r.ok/\x.a.c.ok/\x.a.ph<=4/\x.t<x.a.r.t/\x.a.r.has x.t=0):air x:=by
 obtain⟨h1,h2,h3,h4,h5⟩:=hx;unfold air;simp only[Fa,bY,dL,bM,gX,zY,Fb,LY,zW,LX,sS,sQ,Mc,MB,L8,Md,LZ,L9,je,jf,jg,nI,pF,zV,vJ,E8,zX];simp only[aZ,aV,aU,aA,aI,bT,bF,aO,aK,ay,aX,aW,bU,bG,bH,bI,bV,bD,bJ,bC,eU,aH,aN,ah,ak,aB,aF,aC,aG,aiB];refine⟨by decide,bf (λh=> .inl ?_) λh=>bf (λhs=> .inl ?_) λhs=> ?_⟩
 ·have h:=aS h
  rw[anX h];exact⟨by decide,rfl⟩
 ·have h:=aT h
  have hs:=aS hs;rw[aiC h (.inl (by omega))];exact⟨by decide,rfl⟩
 ·have h:=aT h
  have hs:=aT hs
  skip
  have hg:goodP 1 x.f.key x.f.value=0:=aiD h (by omega);exact⟨⟨x.a.r,x.t⟩,⟨h1,h4⟩,rfl,rfl,λ_=>⟨x.a.ck,⟨by assumption,h2⟩,rfl,.inr ⟨hg,rfl,rfl,rfl⟩⟩,λhne=>absurd h5 hne⟩
theorem Xd(x:ZPs)(hx:x.a.r.ok/\x.a.c.ok/\x.a.ph<=4/\x.t<x.a.r.t/\x.a.r.has x.t=0):ait x:=by
 obtain⟨h1,h2,h3,h4,h5⟩:=hx;unfold ait;simp only[EZ,bY,dL,bM,gX,zY,E5,LY,zW,WZ,sS,sQ,Mc,MB,L8,Md,LZ,L9,je,jf,jg,nI,pF,zV,vJ,LX,E8,zX];simp only[aZ,aV,aU,aA,aI,bT,bF,aO,aK,ay,aX,aW,bU,bG,bH,bI,bV,bD,bJ,bC,eU,aH,aN,ah,ak,aB,aF,aC,aG,aiB];refine⟨by decide,bf (λh=> .inl ?_) λh=>bf (λhs=> .inl ?_) λhs=>bf (λh3=> .inl ?_) λh3=> ?_⟩
 ·have h:=aS h
  rw[anX h];exact⟨by decide,rfl⟩
 ·have h:=aT h
  have hs:=aS hs;rw[aiC h (.inl (by omega))];exact⟨by decide,rfl⟩
 ·have h:=aT h
  have hs:=aT hs;have h3:=aS h3;rw[aiC h (.inr ⟨rfl,by omega⟩)];exact⟨by decide,rfl⟩
 ·have h:=aT h
  have hs:=aT hs;have h3':=aT h3;have hg:goodP 2 x.f.key x.f.value=0:=aiD h (by omega);exact⟨⟨x.a.r,x.t⟩,⟨h1,h4⟩,rfl,rfl,λ_=>⟨x.a.ck,⟨by assumption,h2⟩,rfl,.inr ⟨hg,rfl,rfl,rfl⟩⟩,λhne=>absurd h5 hne⟩
theorem Xe(x:ZPs)(hx:x.a.p.ok/\x.f.key.size<=16/\x.f.value.size<=400):aiv x:=by
 obtain⟨h1,h2,h3⟩:=hx;have hnd:x.nd 2=ned ((x.f.key.size:Int)+x.f.value.size):=by unfold ZPs.nd;rw[if_pos rfl];congr 1
 have hz:spn (x.nd 2)≠0:=by
  rw[hnd];have:(x.f.key.size:Int)+x.f.value.size=((x.f.key.size+x.f.value.size:Nat):Int):=by omega
  rw[this];refine Ql ?_;unfold ned;repeat' split
  all_goals omega
 unfold aiv;simp only[MC,bY,dL,bM,vK,gX,W9,E8,Xb,aiq,je,jf,jg,zX,vJ,Xa,pF];simp only[aZ,aV,aU,aA,aI,bT,bF,aO,aK,ay,aX,aW,bU,bG,bH,bI,bV,bD,bJ,bC,eU,aH,aN,ah,ak,aB,aF,aC,aG];have e0:ned 0=0:=rfl;rw[<-hnd];refine⟨by decide,by unfold I64;omega,⟨x.a.p,x.nd 2⟩,h1,rfl,rfl,λh=>absurd h hz,λh=> .inl ⟨h.2,rfl,rfl⟩,λy hy=> .inr ⟨y,hy.2,⟨rfl,rfl⟩,rfl,rfl⟩⟩
theorem Xf(x:ZPs)(hx:x.a.r.ok/\x.t<x.a.r.t):aix x:=by
 unfold aix;simp only[sS,sQ,Me,L6,je,jf,jg,nI,pF,bM,bY,dL,zV,vJ,gX];simp only[aZ,aV,aU,aA,aI,bT,bF,aO,aK,ay,aX,aW,bU,bG,bH,bI,bV,bD,bJ,bC,eU,aH,aN,ah,ak,aB,aF,aC,aG];exact⟨by decide,⟨x.a.r,x.t⟩,hx,rfl,rfl,rfl,rfl⟩
theorem Xg(x:ZPs)(hx:x.a.r.ok/\x.t<x.a.r.t):aiz x:=by
 unfold aiz;simp only[sS,sQ,Me,L6,je,jf,jg,nI,pF,bM,bY,dL,zV,vJ,gX];simp only[aZ,aV,aU,aA,aI,bT,bF,aO,aK,ay,aX,aW,bU,bG,bH,bI,bV,bD,bJ,bC,eU,aH,aN,ah,ak,aB,aF,aC,aG];exact⟨by decide,⟨x.a.r,x.t⟩,hx,rfl,rfl,rfl,rfl⟩
theorem ZU:dX Tryz.prog aqG:= .append jw (.cons (bP akK) (.cons (bP uD) .nil))
theorem amG:dX Tryz.prog asU:= .append jw (.cons alg (.cons (bP apo) .nil))
theorem acJ:bZ Tryz.prog 34 (qg 1).ctr:=cO dF mixed ZU 11 noA 200 6 (λ_=>⟨rfl,rfl,rfl,rfl⟩) λx hx=>Eq.mp (ais x) (Xc x (aZ.1 hx))
theorem acK:bZ Tryz.prog 34 (qh 1).ctr:=cO dF mixed Zr 11 noA 200 6 (λ_=>⟨rfl,rfl,rfl,rfl⟩) λx hx=>Eq.mp (aiy x) (Xf x (aZ.1 hx))
theorem acL:bZ Tryz.prog 34 (qg 2).ctr:=cO dF mixed ZU 11 noA 200 6 (λ_=>⟨rfl,rfl,rfl,rfl⟩) λx hx=>Eq.mp (aiu x) (Xd x (aZ.1 hx))
theorem acM:bZ Tryz.prog 34 (qh 2).ctr:=cO dF mixed Zr 11 noA 200 6 (λ_=>⟨rfl,rfl,rfl,rfl⟩) λx hx=>Eq.mp (aiA x) (Xg x (aZ.1 hx))
theorem aiE:bZ Tryz.prog 34 (Rf 2).ctr:=cO dF mixed amG 11 noA 200 6 (λ_=>⟨rfl,rfl,rfl,rfl⟩) λx hx=>Eq.mp (aiw x) (Xe x (aZ.1 hx))
theorem Xh{a b:ByteArray}(h:(a.toList==b.toList)=true):a=b:=by
 have h:=beq_iff_eq.1 h;rw[gU,gU]at h;exact ByteArray.ext (Array.toList_inj.1 h)
theorem Xi{a b:ByteArray}(h:(a.toList==b.toList)=false):a≠b:=λe=>by subst e;simp at h
theorem Fe{x:ZPs}(h:nextL x.a.L (bkt x.f.key) x.f.pos x.f.past=none):x.miss:=λy hy=>by
 have hy:nextL x.a.L (bkt x.f.key) x.f.pos x.f.past=some y:=hy;rw[h]at hy;cases hy
theorem Fg{x:ZPs}{l:ZLnk}(h:nextL x.a.L (bkt x.f.key) x.f.pos x.f.past=some l)(h1:kl l.key x.f.key=false)(h2:l.key≠x.f.key):x.miss:=λy hy=>by
 have hy:nextL x.a.L (bkt x.f.key) x.f.pos x.f.past=some y:=hy;rw[h]at hy;cases hy;exact⟨h1,h2⟩
theorem nx_lt{f:ZFp}{k:Int}(hk:k=2\/k=3)(h:f.line<0):nx3 f k true=3:=by
 unfold nx3;rw[if_neg (by omega),if_neg (by simp),if_pos h]
theorem nx_ge{f:ZFp}{k:Int}(hk:k=2\/k=3)(h: ¬f.line<0):nx3 f k true=5:=by
 unfold nx3;rw[if_neg (by omega),if_neg (by simp),if_neg h]
theorem anY{f:ZFp}(h:f.line<0):nx3 f 2 false=3:=by
 unfold nx3;rw[if_neg (by decide),if_neg (by decide),if_pos h]
theorem anZ{f:ZFp}(h: ¬f.line<0):nx3 f 2 false=5:=by
 unfold nx3;rw[if_neg (by decide),if_neg (by decide),if_neg h]
theorem Xj(x:ZPs)(hx:x.f.key.size<1099511627776/\x.f.pos.size<1099511627776/\((1:Int)=3->x.miss->x.f.line<0)):ail x:=by
 unfold ail;simp only[zU,oL,ql,vI,zS,zQ,LW,zT,aik,WW,WX,sO,LV,fA,cZ,eF,WV,LU,LM,sK,sN,EX,EY];simp only[aZ,aV,aU,aA,aI,bT,bF,aO,aK,ay,aX,aW,bU,bG,bH,bI,bV,bD,bJ,bC,eU,aH,aN,ah,ak,aB,aF,aC,aG];refine⟨by decide,x.f.key,hx.1,rfl,⟨x.a.L,x.f.key,x.f.pos,x.f.past⟩,hx.2.1,⟨rfl,rfl,rfl⟩,rfl,λhn=> ?_,λl hl=>bf (λh=> .inl ⟨l,⟨hl,h⟩,rfl,rfl⟩) λh=>bf (λh2=> ?_) λh2=> ?_⟩
 ·exact .inr (.inr ⟨Fe hn,rfl,rfl⟩)
 ·exact .inr (.inl ⟨l,⟨hl,Xh h2⟩,⟨rfl,rfl,rfl,rfl,rfl,rfl,rfl⟩,rfl⟩)
 ·exact .inr (.inr ⟨Fg hl h (Xi h2),rfl,rfl⟩)
theorem Xk(x:ZPs)(hx:x.f.key.size<1099511627776/\x.f.pos.size<1099511627776/\((2:Int)=3->x.miss->x.f.line<0)):aio x:=by
 unfold aio;simp only[zU,oL,ql,vI,zS,zQ,LQ,zT,aii,aij,WY,sO,LV,fA,cZ,eF,LP,LU,LM,WR,WT,WU,sN,sK,EX,WS,EY];simp only[aZ,aV,aU,aA,aI,bT,bF,aO,aK,ay,aX,aW,bU,bG,bH,bI,bV,bD,bJ,bC,eU,aH,aN,ah,ak,aB,aF,aC,aG];refine⟨by decide,x.f.key,hx.1,rfl,⟨x.a.L,x.f.key,x.f.pos,x.f.past⟩,hx.2.1,⟨rfl,rfl,rfl⟩,rfl,λhn=> ?_,λl hl=>bf (λh=> .inl ⟨l,⟨hl,h⟩,rfl,rfl⟩) λh=>bf (λh2=> ?_) λh2=> ?_⟩
 ·exact bf (λg=> .inr (.inr ⟨Fe hn,anY (aS g),rfl⟩)) λg=> .inr (.inr ⟨Fe hn,anZ (aT g),rfl⟩)
 ·exact bf (λg=> .inr (.inl ⟨l,⟨hl,Xh h2⟩,⟨nx_lt (.inl rfl) (aS g),rfl,rfl,rfl,rfl,rfl,rfl⟩,rfl⟩)) λg=> .inr (.inl ⟨l,⟨hl,Xh h2⟩,⟨nx_ge (.inl rfl) (aT g),rfl,rfl,rfl,rfl,rfl,rfl⟩,rfl⟩)
 ·exact bf (λg=> .inr (.inr ⟨Fg hl h (Xi h2),anY (aS g),rfl⟩)) λg=> .inr (.inr ⟨Fg hl h (Xi h2),anZ (aT g),rfl⟩)
theorem ZV:dX Tryz.prog aqH:= .append jw (.cons (bP Qw) (.cons (bP alY) (.cons (bP apq) .nil)))
theorem aiF:bZ Tryz.prog 34 (uM 1):=jr dF mixed ZV noA 200 6 (λ_=>rfl) (λ_=>⟨λ_=>rfl,λ_=>rfl,λ_=>rfl,trivial⟩) λx hx=>Eq.mp (ain x) (Xj x (aZ.1 hx))
theorem acN:bZ Tryz.prog 34 (uM 2):=jr dF mixed ZV noA 200 6 (λ_=>rfl) (λ_=>⟨λ_=>rfl,λ_=>rfl,λ_=>rfl,trivial⟩) λx hx=>Eq.mp (aip x) (Xk x (aZ.1 hx))
theorem wp_d0{x:ZPw}(h:x.p=0)(N:Nat):x.d'=(⟨x.a.d,x.ln,0,⟨x.draft.jM (λ_=>0) (cpc x.c).toNat,0,64,N⟩⟩:lW).d.store x.ln 0 64 (λq=>x.draft.jM (λ_=>0) (cpc x.c).toNat (0+q)):=by
 unfold ZPw.d';rw[if_pos h,Zo]
theorem wp_d1{x:ZPw}(h:x.p≠0)(N:Nat):x.d'=(⟨x.a.d,x.ln+x.p,0,⟨λq=>x.blk.enc (64*x.p+q),0,64,N⟩⟩:lW).d.store (x.ln+x.p) 0 64 (λq=>(λq=>x.blk.enc (64*x.p+q)) (0+q)):=by
 unfold ZPw.d';rw[if_neg h];exact(Zo _ _ _ _ (λq=>x.blk.enc (64*x.p+q))).symm
theorem an0(x:ZPw){D:ByteArray}(hD:x.f.key++x.f.value=D){t q o B:Nat}(hq:q<64)(ho:o=min (28+63*t) D.size)(hB:(D.extract o D.size).size<=63/\B=1+(D.extract o D.size).size\/63<(D.extract o D.size).size/\B=64):[Value.int .u8 (x.blk.enc (64*(t+1)+q))]=bif Nat.ble 1 q&&Nat.blt q B then [Value.int .u8 (dY (D.extract o D.size) (q-1))]else Cs.eff (λ_=>[Value.int .u8 0]) [(0,[Value.int .u8 2])] q:=by
 have hsz:(D.extract o D.size).size=D.size-o:=by rw[ByteArray.size_extract];omega
 rw[hsz]at hB;rw[JE _ _ _ hq];unfold ZBlk.dat
 rw[show x.blk.key++x.blk.value=D from hD];by_cases h0:q=0
 ·subst h0;rfl
 ·rw[if_neg h0]
  by_cases h1:28+63*t+(q-1)<D.size
  ·rw[if_pos h1,show(Nat.ble 1 q&&Nat.blt q B)=true by rw[bQ,Nat.ble_eq_true_of_le (by omega)];simp;omega,aP,agW (by omega),show o=28+63*t by omega]
  ·rw[if_neg h1,show(Nat.ble 1 q&&Nat.blt q B)=false by rw[bQ,Nat.ble_eq_true_of_le (by omega)];simp;omega,aQ]
   show _=bif Nat.beq q 0 then _ else _;rw[dA,decide_eq_false h0];rfl
theorem Xl(x:ZPw)(hx:x.ok/\x.p=0):ah5 x:=by
 obtain⟨⟨o1,o2,o3,o4,o5,o6,o7,o8⟩,hp⟩:=hx;have hs:=dP x.c;have hw:ownM x.d'.os=ownM (DevM.os ((⟨x.a.d,x.ln,0,⟨x.draft.jM (λ_=>0) (cpc x.c).toNat,0,64,64⟩⟩:lW).d.store x.ln 0 64 (λq=>x.draft.jM (λ_=>0) (cpc x.c).toNat (0+q)))):=congrArg (λd=>ownM (DevM.os d)) (wp_d0 hp 64);unfold ah5;simp only[zO,LH,LC,ah4,sD,ET,ah2,ah3,bW,dV,bK,fZ,jE,lu,jd,iT,qj,Io,AU,EW];simp only[aZ,aV,aU,aA,aI,bT,bF,aO,aK,ay,aX,aW,bU,bG,bH,bI,bV,bD,bJ,bC,eU,aH,aN,ah,ak,aB,aF,aC,aG];refine⟨by decide,x.c,⟨o2,o3⟩,rfl,⟨x.a.d,x.ln,0,⟨x.draft.jM (λ_=>0) (cpc x.c).toNat,0,64,64⟩⟩,⟨o1,by show x.ln<x.a.d.n;omega,⟨aY _,show 64<1099511627776 by decide,Zp ⟨o2,o3⟩⟩,aY _⟩,⟨rfl,rfl,rfl,rfl⟩,⟨rfl,rfl,λ_ _=>rfl⟩,by unfold I64;omega,by unfold I64;omega,bf (λh=> .inr ⟨beq_iff_eq.1 h,hw,rfl⟩) λh=> .inl ⟨beq_eq_false_iff_ne.1 h,by omega,hw,rfl⟩⟩
theorem acO(x:ZPw)(hx:x.ok/\x.p≠0):aqJ x:=by
 obtain⟨⟨o1,o2,o3,o4,o5,o6,o7,o8⟩,hp⟩:=hx;have hs:=dP x.c;obtain⟨t,ht⟩: ∃t,x.p=t+1:=⟨x.p-1,by omega⟩;have hn:=o1.1;generalize hD:x.f.key++x.f.value=D;have hDs:D.size=x.f.key.size+x.f.value.size:=by rw[<-hD];exact ByteArray.size_append
 have e1:(CJ (imax (28+((x.p:Int)-1)*63) 0) D.size).toNat=min (28+63*t) D.size:=by unfold CJ imax;omega
 have e0:0<=CJ (imax (28+((x.p:Int)-1)*63) 0) D.size:=by unfold CJ imax;omega
 have hw:ownM x.d'.os=ownM (DevM.os ((⟨x.a.d,x.ln+x.p,0,⟨λq=>x.blk.enc (64*x.p+q),0,64,64⟩⟩:lW).d.store (x.ln+x.p) 0 64 (λq=>(λq=>x.blk.enc (64*x.p+q)) (0+q)))):=congrArg (λd=>ownM (DevM.os d)) (wp_d1 hp 64);unfold aqJ;simp only[zO,LH,LC,WB,ET,sD,Wy,WA,WJ,EW,WC,bW,dV,bK,fZ,jE,lu,jd,sF,iT,qj,Io,AU];simp only[aZ,aV,aU,aA,aI,bT,bF,aO,aK,ay,aX,aW,bU,bG,bH,bI,bV,bD,bJ,bC,eU,aH,aN,ah,ak,aB,aF,aC,aG,hD,e1];refine⟨by decide,bf (λh=>absurd (beq_iff_eq.1 h) (by omega)) λ_=>⟨by decide,by decide,by decide,by omega,by unfold I64;omega,by unfold I64;omega,by unfold I64;omega,by decide,by decide,e0,⟨Nat.min_le_right _ _,aY _⟩,by decide,bf (λh=> ?_) λh=> ?_⟩⟩
 ·refine⟨by unfold I64;omega,⟨x.a.d,x.ln+x.p,0,⟨λq=>x.blk.enc (64*x.p+q),0,64,64⟩⟩,⟨o1,by show x.ln+x.p<x.a.d.n;omega,⟨aY _,show 64<1099511627776 by decide,λk=>agX _ (by omega)⟩,aY _⟩,⟨rfl,rfl,rfl,rfl⟩,⟨rfl,rfl,λq hq=> ?_⟩,by unfold I64;omega,by unfold I64;omega,bf (λh=> .inr ⟨beq_iff_eq.1 h,hw,rfl⟩) λh=> .inl ⟨beq_eq_false_iff_ne.1 h,hw,rfl⟩⟩
  rw[ht];exact an0 x hD hq rfl (.inl ⟨Nat.le_of_ble_eq_true h,rfl⟩)
 ·refine⟨by unfold I64;omega,⟨x.a.d,x.ln+x.p,0,⟨λq=>x.blk.enc (64*x.p+q),0,64,64⟩⟩,⟨o1,by show x.ln+x.p<x.a.d.n;omega,⟨aY _,show 64<1099511627776 by decide,λk=>agX _ (by omega)⟩,aY _⟩,⟨rfl,rfl,rfl,rfl⟩,⟨rfl,rfl,λq hq=> ?_⟩,by unfold I64;omega,by unfold I64;omega,bf (λh=> .inr ⟨beq_iff_eq.1 h,hw,rfl⟩) λh=> .inl ⟨beq_eq_false_iff_ne.1 h,hw,rfl⟩⟩
  rw[ht];exact an0 x hD hq rfl (.inr ⟨Nat.not_le.1 λhh=>(by rw[Nat.ble_eq_true_of_le hh]at h;cases h),rfl⟩)
theorem asV{b:ZBlk}(h:b.may)(hk:b.kind=1):b.key.size<=16/\b.value.size<=400:=by
 rcases h.2 with h|h|h|h<;>first|(exfalso;have:=h.1;omega)|exact⟨h.2.2.1,h.2.2.2.1⟩
noncomputable def ZPr.de(x:ZPr):ZDm:=⟨x.b.cls,x.b.id,x.b.ver,x.b.epoch,x.b.key,x.b.value,x.b.enc⟩
theorem asW{x:ZPr}(hk:x.b.kind=1):x.de.b=x.b:=by
 unfold ZPr.de ZDm.b;rw[<-hk]
theorem Xm(x:ZPr)(hx:x.ok/\x.p=0):ah7 x:=by
 obtain⟨⟨o1,o2,o3,o4,o5,o6⟩,hp⟩:=hx;have hs:=y9 x.b;have h1:=Cb o2;have hde:=asW o3;have hv:=asV o2 o3;have hn:=o1.1;have by_: ∀q,q<64->x.b.enc q=x.a.d.b (x.ln*193+q):=λq hq=>by
  rw[<-o6 q (by omega),show q/64=0 by omega,show q%64=q by omega,aI]
 unfold ah7;simp only[lC,bW,dV,bK,fZ,lu,iT,nH,zL,EU,LJ,Lr,jd,qj,Io,AU];simp only[aZ,aV,aU,aA,aI,bT,bF,aO,aK,ay,aX,aW,bU,bG,bH,bI,bV,bD,bJ,bC,eU,aH,aN,ah,ak,aB,aF,aC,aG];refine⟨by decide,by unfold I64;omega,⟨x.a.d,x.ln⟩,⟨o1,by show x.ln<x.a.d.n;omega⟩,by show(x.ln:Int)=x.ln+0;omega,rfl,by decide,by decide,by unfold I64;omega,bf (λh=> .inl ⟨by simpa using h,by_,rfl⟩) λh=> ?_⟩;have hc:1=spn x.b.cls:=by simpa using h
 have hsn:x.b.dK=1:=by omega
 have he:64*x.de.b.dK=64:=by rw[hde,hsn]
 refine⟨x.de,⟨by rw[hde];exact o2,by show x.b.key.size<_;omega,by show x.b.value.size<_;omega,λk _=>by rw[hde];rfl⟩,he,⟨he,λq hq=>by_ q (by omega)⟩,?_⟩;rw[show(x.de.id==x.b.id)=true from beq_self_eq_true _,show(x.de.ver==x.b.ver)=true from beq_self_eq_true _,show(x.de.key.toList==x.b.key.toList)=true from beq_self_eq_true _,kT,kT,Bool.not_true,iw];exact .inr ⟨hc,rfl,rfl⟩
theorem Xn(x:ZPr)(hx:x.ok/\x.p≠0):ah9 x:=by
 obtain⟨⟨o1,o2,o3,o4,o5,o6⟩,hp⟩:=hx;have hs:=y9 x.b;have h1:=Cb o2;have hde:=asW o3;have hv:=asV o2 o3;have hn:=o1.1;unfold ah9;simp only[lC,ES,bW,dV,bK,fZ,sF,lu,iT,zM,nH,WI,EU,LJ,WE,Lp,jd,zL,qj,Io,AU];simp only[aZ,aV,aU,aA,aI,bT,bF,aO,aK,ay,aX,aW,bU,bG,bH,bI,bV,bD,bJ,bC,eU,aH,aN,ah,ak,aB,aF,aC,aG];have hb:Nat.beq (64*x.p) 0=false:=Bool.eq_false_iff.2 λh=>absurd (au h) (by omega)
 simp only[hb];refine⟨aY _,by omega,by omega,by unfold I64;omega,⟨x.a.d,x.ln+x.p⟩,⟨o1,by show x.ln+x.p<x.a.d.n;omega⟩,rfl,rfl,?_⟩;have row: ∀q,q<64*(x.p+1)->x.b.enc q=bif Nat.blt q (64*x.p)then x.b.enc q else x.a.d.b ((x.ln+x.p)*193+(q-64*x.p)):=λq hq=>by
  by_cases hh:q<64*x.p
  ·rw[bg.2 hh];rfl
  ·rw[show Nat.blt q (64*x.p)=false by rw[bQ];exact decide_eq_false hh,aQ,<-o6 q (by omega),show q/64=x.p by omega,show q%64=q-64*x.p by omega]
 refine⟨by omega,by omega,by unfold I64;omega,bf (λh=> .inl ⟨by simpa using h,by omega,⟨by omega,row⟩,rfl⟩) λh=> ?_⟩;have hc:(x.p:Int)+1=spn x.b.cls:=by simpa using h
 have hsn:x.b.dK=x.p+1:=by omega
 have he:64*x.de.b.dK=64*x.p+64:=by rw[hde,hsn];omega
 refine⟨x.de,⟨by rw[hde];exact o2,by show x.b.key.size<_;omega,by show x.b.value.size<_;omega,λk _=>by rw[hde];rfl⟩,he,⟨he,λq hq=>row q (by omega)⟩,?_⟩;rw[show(x.de.id==x.b.id)=true from beq_self_eq_true _,show(x.de.ver==x.b.ver)=true from beq_self_eq_true _,show(x.de.key.toList==x.b.key.toList)=true from beq_self_eq_true _,kT,kT,Bool.not_true,iw];exact .inr ⟨hc,rfl,rfl⟩
theorem Ri(x:ZPp)(hx:(x.pt 2).ok 2 false):WL x:=by
 unfold WL;simp only[sJ,sG,sH,LK,bW,dV,bK,jd,zN,lC];simp only[aZ,aV,aU,aA,aI,bT,bF,aO,aK,ay,aX,aW,bU,bG,bH,bI,bV,bD,bJ,bC,eU,aH,aN,ah,ak,aB,aF,aC,aG];refine⟨by decide,x.pt 2,hx,⟨rfl,rfl⟩,⟨rfl,rfl,rfl,rfl,rfl,rfl,rfl,rfl,rfl,rfl⟩,?_⟩
 repeat' (first|exact rfl|decide|refine And.intro ?_ ?_)
theorem Rj(x:ZPp)(hx:(x.pt 2).bad false):WM x:=by
 unfold WM;simp only[sJ,sG,sH,LD,LK,Ls,WG,WH,iT,qj,AU,bK,bW,dV,fZ,jE,lu,jd,zN,lC];simp only[aZ,aV,aU,aA,aI,bT,bF,aO,aK,ay,aX,aW,bU,bG,bH,bI,bV,bD,bJ,bC,eU,aH,aN,ah,ak,aB,aF,aC,aG];refine⟨by decide,x.pt 2,hx,⟨rfl,rfl⟩,⟨rfl,rfl,rfl,rfl,rfl,rfl,rfl,rfl,rfl,rfl,rfl⟩,x.a.ck,⟨hx.2.1,hx.1⟩,?_⟩
 repeat' (first|exact rfl|decide|refine And.intro ?_ ?_)
theorem Rk(x:ZPp)(hx:(x.pt 2).ok 2 true):WO x:=by
 unfold WO;simp only[sJ,sG,sH,LG,ah1,bW,dV,bK,jd,zN,lC];simp only[aZ,aV,aU,aA,aI,bT,bF,aO,aK,ay,aX,aW,bU,bG,bH,bI,bV,bD,bJ,bC,eU,aH,aN,ah,ak,aB,aF,aC,aG];refine⟨by decide,x.pt 2,hx,⟨rfl,rfl⟩,⟨rfl,rfl,rfl,rfl,rfl,rfl,rfl,rfl,rfl,rfl⟩,?_⟩
 repeat' (first|exact rfl|decide|refine And.intro ?_ ?_)
theorem Rl(x:ZPp)(hx:(x.pt 2).bad true):WQ x:=by
 unfold WQ;simp only[sJ,sG,sH,LD,LG,Ls,WG,WH,iT,qj,AU,bK,bW,dV,fZ,jE,lu,jd,zN,lC];simp only[aZ,aV,aU,aA,aI,bT,bF,aO,aK,ay,aX,aW,bU,bG,bH,bI,bV,bD,bJ,bC,eU,aH,aN,ah,ak,aB,aF,aC,aG];refine⟨by decide,x.pt 2,hx,⟨rfl,rfl⟩,⟨rfl,rfl,rfl,rfl,rfl,rfl,rfl,rfl,rfl,rfl,rfl⟩,x.a.ck,⟨hx.2.1,hx.1⟩,?_⟩
 repeat' (first|exact rfl|decide|refine And.intro ?_ ?_)
theorem Xo(x:ZPs):aib x:=by
 unfold aib;simp only[Lu,bW,dV,bK,jE,lu,jd]
 first|done|(simp only[aZ,aV,aU,aA,aI,bT,bF,aO,aK,ay,aX,aW,bU,bG,bH,bI,bV,bD,bJ,bC,eU,aH,aN,ah,ak,aB,aF,aC,aG];done)|(simp only[aZ,aV,aU,aA,aI,bT,bF,aO,aK,ay,aX,aW,bU,bG,bH,bI,bV,bD,bJ,bC,eU,aH,aN,ah,ak,aB,aF,aC,aG];decide)
theorem Xp(x:ZPs):aie x:=by
 unfold aie;simp only[Lu,bW,dV,bK,jE,lu,jd]
 first|done|(simp only[aZ,aV,aU,aA,aI,bT,bF,aO,aK,ay,aX,aW,bU,bG,bH,bI,bV,bD,bJ,bC,eU,aH,aN,ah,ak,aB,aF,aC,aG];done)|(simp only[aZ,aV,aU,aA,aI,bT,bF,aO,aK,ay,aX,aW,bU,bG,bH,bI,bV,bD,bJ,bC,eU,aH,aN,ah,ak,aB,aF,aC,aG];decide)
theorem ZW:dX Tryz.prog aqI:= .append jw (.cons JO (.cons (bP aqF) (.cons (bP aps) .nil)))
theorem Xq:bZ Tryz.prog 34 (EP 2).ctr:=cO dF mixed Zq 11 noA 200 6 (λ_=>⟨rfl,rfl,rfl,rfl⟩) λx hx=>Eq.mp (ah6 x) (Xl x (aZ.1 hx))
theorem acP:bZ Tryz.prog 34 ER.ctr:=cO dF mixed Zq 11 noA 200 6 (λ_=>⟨rfl,rfl,rfl,rfl⟩) λx hx=>Eq.mp (amF x) (acO x (aZ.1 hx))
theorem aiG:bZ Tryz.prog 34 Rh.ctr:=cO dF mixed ZW 11 noA 200 6 (λ_=>⟨rfl,rfl,rfl,rfl⟩) λx hx=>Eq.mp (ah8 x) (Xm x (aZ.1 hx))
theorem aiH:bZ Tryz.prog 34 ZT.ctr:=cO dF mixed ZW 12 noA 200 6 (λ_=>⟨rfl,rfl,rfl,rfl⟩) λx hx=>Eq.mp (aia x) (Xn x (aZ.1 hx))
theorem acQ:dX Tryz.prog (amD 2 false):= .append jw (.cons (bP amx) .nil)
theorem acR:dX Tryz.prog (amE 2 false):= .append jw (.cons (bP amA) (.cons (bP uD) .nil))
theorem aiI:bZ Tryz.prog 34 (Ll 2 false):=dQ dF mixed acQ noA 200 6 (λ_=>rfl) (λ_=>rfl) λx hx=>Eq.mp (acF x) (Ri x (aZ.1 hx))
theorem aiJ:bZ Tryz.prog 34 (Lm 2 false).ctr:=cO dF mixed acR 11 noA 200 6 (λ_=>⟨rfl,rfl,rfl,rfl⟩) λx hx=>Eq.mp (acG x) (Rj x (aZ.1 hx))
theorem acS:dX Tryz.prog (amD 2 true):= .append jw (.cons (bP amy) .nil)
theorem acT:dX Tryz.prog (amE 2 true):= .append jw (.cons (bP amB) (.cons (bP uD) .nil))
theorem aiK:bZ Tryz.prog 34 (Ll 2 true):=dQ dF mixed acS noA 200 6 (λ_=>rfl) (λ_=>rfl) λx hx=>Eq.mp (acH x) (Rk x (aZ.1 hx))
theorem aiL:bZ Tryz.prog 34 (Lm 2 true).ctr:=cO dF mixed acT 11 noA 200 6 (λ_=>⟨rfl,rfl,rfl,rfl⟩) λx hx=>Eq.mp (acI x) (Rl x (aZ.1 hx))
theorem aiM:bZ Tryz.prog 34 (yA 1):=dQ dF mixed jw noA 200 6 (λ_=>rfl) (λ_=>rfl) λx _=>Eq.mp (aic x) (Xo x)
theorem aiN:bZ Tryz.prog 34 (yA 2):=dQ dF mixed jw noA 200 6 (λ_=>rfl) (λ_=>rfl) λx _=>Eq.mp (aif x) (Xp x)
def Xr(a:ZSto):Prop:=0=0/\0=0/\0=0/\0=0/\0=0/\0=0/\0=0/\0=0/\a.id=a.id/\a.ver=a.ver/\(Nat.beq a.n 0=Nat.beq a.n 0/\a.n=a.n)/\True
def aiO(a:ZSto)(b:Lks):Prop:=ownM a.b.os=ownM a.b.os/\tabA a.L=tabA b/\ordA a.L=ordA a.L/\ownM a.l.os=ownM a.l.os/\(Nat.beq a.n 0=Nat.beq a.n 0/\a.n=a.n/\ ∀q:Nat,q<a.n->[Value.int .i64 (ZEff.kind (a.e q)),Value.string (ZEff.key (a.e q)),Value.string (ZEff.value (a.e q)),Value.int .u64 (ZEff.id (a.e q)),Value.int .u64 (ZEff.ver (a.e q)),Value.int .u64 (ZEff.epoch (a.e q)),Value.int .i64 (ZEff.group (a.e q))]=[Value.int .i64 (ZEff.kind (a.e q)),Value.string (ZEff.key (a.e q)),Value.string (ZEff.value (a.e q)),Value.int .u64 (ZEff.id (a.e q)),Value.int .u64 (ZEff.ver (a.e q)),Value.int .u64 (ZEff.epoch (a.e q)),Value.int .i64 (ZEff.group (a.e q))])/\True
def jK(a:ZSto)(b:Lks):Prop:=Xr a/\(0=0/\(1:Int)=1/\(0:Int)=0/\(0:Int)=0/\True)/\ownM a.d.os=ownM a.d.os/\ownM a.p.os=ownM a.p.os/\ownM a.r.os=ownM a.r.os/\ownM a.ck.os=ownM a.ck.os/\aiO a b
def fH:Prop:=Value.slice none 0 0=Value.slice none 0 0
def yC(a:ZFp)(b:ZFp):Prop:=fH/\(0:Int)=0/\fH/\a.code=b.code/\a.found=b.found/\a.ans=b.ans/\fH/\fH/\a.aep=b.aep/\True
def Xt(a:ZFp)(b:ZFp):Prop:=a.cls=b.cls/\a.piece=b.piece/\yC a b
def zZ(a:ZFp)(b:ZFp):Prop:=a.line=b.line/\Xt a b
def MF(a:ZFp)(b:ZFp):Prop:=(0:Int)=0/\a.had=b.had/\a.old.key=b.old.key/\a.old.id=b.old.id/\a.old.ver=b.old.ver/\a.old.line=b.old.line/\a.old.cls=b.old.cls/\zZ a b
def MG(a:ZFp)(b:ZFp):Prop:=a.key=b.key/\a.value=b.value/\a.to=b.to/\fH/\(1:Int)=1/\a.epoch=b.epoch/\a.pos=b.pos/\a.past=b.past/\MF a b
def MH(a:ZFp)(b:ZFp)(c:ByteArray)(d:ByteArray):Prop:=a.key=b.key/\a.value=b.value/\a.to=b.to/\fH/\(1:Int)=1/\a.epoch=b.epoch/\c=d/\true=true/\MF a b
def MI(a:ZFp)(b:ZFp):Prop:=a.epoch=b.epoch/\a.pos=b.pos/\a.past=b.past/\(0:Int)=0/\false=false/\ByteArray.mk #[]=ByteArray.mk #[]/\(0:Int)=0/\(0:Int)=0/\(0:Int)=0/\(0:Int)=0/\zZ a b
def MJ(a:ZFp)(b:ZFp)(c:ByteArray):Prop:=a.epoch=b.epoch/\a.pos=c/\a.past=true/\(0:Int)=0/\false=b.had/\ByteArray.mk #[]=b.old.key/\0=b.old.id/\0=b.old.ver/\0=b.old.line/\0=b.old.cls/\zZ a b
def MK(a:ZFp)(b:ZFp)(c:ByteArray):Prop:=a.epoch=b.epoch/\c=b.pos/\true=b.past/\(0:Int)=0/\a.had=false/\a.old.key=ByteArray.mk #[]/\a.old.id=0/\a.old.ver=0/\a.old.line=0/\a.old.cls=0/\zZ a b
def Xu:Prop:=True/\True/\True/\0=0/\True/\True/\True/\True/\True/\True
def ML(a:Lks)(b:Lks):Prop:=(True/\True/\Xu)/\tabA a=tabA b/\True
def Xv(a:ZFp)(b:ZFp):Prop:=a.line=b.line/\a.cls=b.cls/\ite ((1:Int)=1) (0:Int) a.piece=b.piece/\yC a b
def Xw(a:ZFp)(b:ZFp):Prop:=a.line=b.line/\a.cls=b.cls/\a.piece=ite ((1:Int)=1) (0:Int) b.piece/\yC a b
def Xx(a:ZFp)(b:ZFp):Prop:=a.line=b.line/\a.cls=b.cls/\ite ((2:Int)=1) (0:Int) a.piece=b.piece/\yC a b
def Xy(a:ZFp)(b:ZFp):Prop:=a.line=b.line/\a.cls=b.cls/\a.piece=ite ((2:Int)=1) (0:Int) b.piece/\yC a b
def aiP(x:ZPs):Prop:=
 ∃x_1:ZPs,Hd (x_1.f.key.size<1099511627776/\x_1.f.pos.size<1099511627776/\((1:Int)=3->x_1.miss->x_1.f.line<0))/\(0=0/\(x_1.t:Int)=(x.t:Int)/\((1:Int)=1/\MG x_1.f x.f)/\True)/\ML x_1.a.L x.a.L/\(∀y:ZLnk,Hd (x_1.goes y)->(∃y_1:ZLnk,Hd (x.goes y_1)/\((1:Int)=1/\MH x.f x_1.f y_1.key y.key)/\jK x.a x_1.a.L)\/(∃y_1:ZLnk,Hd (x.hit y_1)/\((1:Int)=1/\x.f.key=x_1.f.key/\x.f.value=x_1.f.value/\x.f.to=x_1.f.to/\fH/\nx3 x.f (1:Int) true=1/\x.f.epoch=x_1.f.epoch/\x.f.pos=y.key/\x.f.past=true/\(0:Int)=0/\true=x_1.f.had/\y_1.key=x_1.f.old.key/\y_1.id=x_1.f.old.id/\y_1.ver=x_1.f.old.ver/\y_1.line=x_1.f.old.line/\y_1.cls=x_1.f.old.cls/\Xv x.f x_1.f)/\jK x.a x_1.a.L)\/ ∃y_1:Unit,Hd x.miss/\((1:Int)=1/\x.f.key=x_1.f.key/\x.f.value=x_1.f.value/\x.f.to=x_1.f.to/\fH/\nx3 x.f (1:Int) false=1/\MJ x.f x_1.f y.key)/\jK x.a x_1.a.L)/\(∀y:ZLnk,Hd (x_1.hit y)->(∃y_1:ZLnk,Hd (x.goes y_1)/\((1:Int)=1/\x.f.key=x_1.f.key/\x.f.value=x_1.f.value/\x.f.to=x_1.f.to/\fH/\1=nx3 x_1.f (1:Int) true/\x.f.epoch=x_1.f.epoch/\y_1.key=x_1.f.pos/\true=x_1.f.past/\(0:Int)=0/\x.f.had=true/\x.f.old.key=y.key/\x.f.old.id=y.id/\x.f.old.ver=y.ver/\x.f.old.line=y.line/\x.f.old.cls=y.cls/\Xw x.f x_1.f)/\jK x.a x_1.a.L)\/(∃y_1:ZLnk,Hd (x.hit y_1)/\((1:Int)=1/\x.f.key=x_1.f.key/\x.f.value=x_1.f.value/\x.f.to=x_1.f.to/\fH/\nx3 x.f (1:Int) true=nx3 x_1.f (1:Int) true/\x.f.epoch=x_1.f.epoch/\x.f.pos=x_1.f.pos/\x.f.past=x_1.f.past/\(0:Int)=0/\true=true/\y_1.key=y.key/\y_1.id=y.id/\y_1.ver=y.ver/\y_1.line=y.line/\
 y_1.cls=y.cls/\x.f.line=x_1.f.line/\x.f.cls=x_1.f.cls/\ite ((1:Int)=1) (0:Int) x.f.piece=ite ((1:Int)=1) (0:Int) x_1.f.piece/\yC x.f x_1.f)/\jK x.a x_1.a.L)\/ ∃y_1:Unit,Hd x.miss/\((1:Int)=1/\x.f.key=x_1.f.key/\x.f.value=x_1.f.value/\x.f.to=x_1.f.to/\fH/\nx3 x.f (1:Int) false=nx3 x_1.f (1:Int) true/\x.f.epoch=x_1.f.epoch/\x.f.pos=x_1.f.pos/\x.f.past=x_1.f.past/\(0:Int)=0/\false=true/\ByteArray.mk #[]=y.key/\0=y.id/\0=y.ver/\0=y.line/\0=y.cls/\Xw x.f x_1.f)/\jK x.a x_1.a.L)/\ ∀y:Unit,Hd x_1.miss->(∃y_1:ZLnk,Hd (x.goes y_1)/\((1:Int)=1/\x.f.key=x_1.f.key/\x.f.value=x_1.f.value/\x.f.to=x_1.f.to/\fH/\1=nx3 x_1.f (1:Int) false/\MK x.f x_1.f y_1.key)/\jK x.a x_1.a.L)\/(∃y_1:ZLnk,Hd (x.hit y_1)/\((1:Int)=1/\x.f.key=x_1.f.key/\x.f.value=x_1.f.value/\x.f.to=x_1.f.to/\fH/\nx3 x.f (1:Int) true=nx3 x_1.f (1:Int) false/\x.f.epoch=x_1.f.epoch/\x.f.pos=x_1.f.pos/\x.f.past=x_1.f.past/\(0:Int)=0/\true=false/\y_1.key=ByteArray.mk #[]/\y_1.id=0/\y_1.ver=0/\y_1.line=0/\y_1.cls=0/\Xv x.f x_1.f)/\jK x.a x_1.a.L)\/ ∃y_1:Unit,Hd x.miss/\((1:Int)=1/\x.f.key=x_1.f.key/\x.f.value=x_1.f.value/\x.f.to=x_1.f.to/\fH/\nx3 x.f (1:Int) false=nx3 x_1.f (1:Int) false/\MI x.f x_1.f)/\jK x.a x_1.a.L
theorem aiQ(x:ZPs):aiP x=ctrT (uM 1) ((su 1).args x) (hO 11 (flatP 1 ((su 1).l x))) (λv h'=>endsPK 1 x v h' (su 1).outs):=by kernel_rfl
def aiR(x:ZPs):Prop:=
 ∃x_1:ZPs,Hd (x_1.f.key.size<1099511627776/\x_1.f.pos.size<1099511627776/\((2:Int)=3->x_1.miss->x_1.f.line<0))/\(0=0/\(x_1.t:Int)=(x.t:Int)/\((2:Int)=2/\MG x_1.f x.f)/\True)/\ML x_1.a.L x.a.L/\(∀y:ZLnk,Hd (x_1.goes y)->(∃y_1:ZLnk,Hd (x.goes y_1)/\((2:Int)=2/\MH x.f x_1.f y_1.key y.key)/\jK x.a x_1.a.L)\/(∃y_1:ZLnk,Hd (x.hit y_1)/\((2:Int)=2/\x.f.key=x_1.f.key/\x.f.value=x_1.f.value/\x.f.to=x_1.f.to/\fH/\nx3 x.f (2:Int) true=1/\x.f.epoch=x_1.f.epoch/\x.f.pos=y.key/\x.f.past=true/\(0:Int)=0/\true=x_1.f.had/\y_1.key=x_1.f.old.key/\y_1.id=x_1.f.old.id/\y_1.ver=x_1.f.old.ver/\y_1.line=x_1.f.old.line/\y_1.cls=x_1.f.old.cls/\Xx x.f x_1.f)/\jK x.a x_1.a.L)\/ ∃y_1:Unit,Hd x.miss/\((2:Int)=2/\x.f.key=x_1.f.key/\x.f.value=x_1.f.value/\x.f.to=x_1.f.to/\fH/\nx3 x.f (2:Int) false=1/\MJ x.f x_1.f y.key)/\jK x.a x_1.a.L)/\(∀y:ZLnk,Hd (x_1.hit y)->(∃y_1:ZLnk,Hd (x.goes y_1)/\((2:Int)=2/\x.f.key=x_1.f.key/\x.f.value=x_1.f.value/\x.f.to=x_1.f.to/\fH/\1=nx3 x_1.f (2:Int) true/\x.f.epoch=x_1.f.epoch/\y_1.key=x_1.f.pos/\true=x_1.f.past/\(0:Int)=0/\x.f.had=true/\x.f.old.key=y.key/\x.f.old.id=y.id/\x.f.old.ver=y.ver/\x.f.old.line=y.line/\x.f.old.cls=y.cls/\Xy x.f x_1.f)/\jK x.a x_1.a.L)\/(∃y_1:ZLnk,Hd (x.hit y_1)/\((2:Int)=2/\x.f.key=x_1.f.key/\x.f.value=x_1.f.value/\x.f.to=x_1.f.to/\fH/\nx3 x.f (2:Int) true=nx3 x_1.f (2:Int) true/\x.f.epoch=x_1.f.epoch/\x.f.pos=x_1.f.pos/\x.f.past=x_1.f.past/\(0:Int)=0/\true=true/\y_1.key=y.key/\y_1.id=y.id/\y_1.ver=y.ver/\y_1.line=y.line/\
 y_1.cls=y.cls/\x.f.line=x_1.f.line/\x.f.cls=x_1.f.cls/\ite ((2:Int)=1) (0:Int) x.f.piece=ite ((2:Int)=1) (0:Int) x_1.f.piece/\yC x.f x_1.f)/\jK x.a x_1.a.L)\/ ∃y_1:Unit,Hd x.miss/\((2:Int)=2/\x.f.key=x_1.f.key/\x.f.value=x_1.f.value/\x.f.to=x_1.f.to/\fH/\nx3 x.f (2:Int) false=nx3 x_1.f (2:Int) true/\x.f.epoch=x_1.f.epoch/\x.f.pos=x_1.f.pos/\x.f.past=x_1.f.past/\(0:Int)=0/\false=true/\ByteArray.mk #[]=y.key/\0=y.id/\0=y.ver/\0=y.line/\0=y.cls/\Xy x.f x_1.f)/\jK x.a x_1.a.L)/\ ∀y:Unit,Hd x_1.miss->(∃y_1:ZLnk,Hd (x.goes y_1)/\((2:Int)=2/\x.f.key=x_1.f.key/\x.f.value=x_1.f.value/\x.f.to=x_1.f.to/\fH/\1=nx3 x_1.f (2:Int) false/\MK x.f x_1.f y_1.key)/\jK x.a x_1.a.L)\/(∃y_1:ZLnk,Hd (x.hit y_1)/\((2:Int)=2/\x.f.key=x_1.f.key/\x.f.value=x_1.f.value/\x.f.to=x_1.f.to/\fH/\nx3 x.f (2:Int) true=nx3 x_1.f (2:Int) false/\x.f.epoch=x_1.f.epoch/\x.f.pos=x_1.f.pos/\x.f.past=x_1.f.past/\(0:Int)=0/\true=false/\y_1.key=ByteArray.mk #[]/\y_1.id=0/\y_1.ver=0/\y_1.line=0/\y_1.cls=0/\Xx x.f x_1.f)/\jK x.a x_1.a.L)\/ ∃y_1:Unit,Hd x.miss/\((2:Int)=2/\x.f.key=x_1.f.key/\x.f.value=x_1.f.value/\x.f.to=x_1.f.to/\fH/\nx3 x.f (2:Int) false=nx3 x_1.f (2:Int) false/\MI x.f x_1.f)/\jK x.a x_1.a.L
theorem aiS(x:ZPs):aiR x=ctrT (uM 2) ((su 2).args x) (hO 11 (flatP 1 ((su 2).l x))) (λv h'=>endsPK 1 x v h' (su 2).outs):=by kernel_rfl
theorem Xz(x:ZPs)(hx:(su 1).pre x):aiP x:=by
 unfold aiP;simp only[MG,ML,MH,jK,fH,Xv,MJ,Xw,yC,MK,MI,zZ,Xt,Xr,aiO,MF,Xu];simp only[aZ,aV,aU,aA,aI,bT,bF,aO,aK,ay,aX,aW,bU,bG,bH,bI,bV,bD,bJ,bC,eU,aH,aN,ah,ak,aB,aF,aC,aG];refine⟨x,aZ.1 hx,?_,?_,?_,?_,?_⟩
 ·simp
 ·rfl
 ·exactλy h=> .inl ⟨y,h,by simp,by simp⟩
 ·exactλy h=> .inr (.inl ⟨y,h,by simp,by simp⟩)
 ·exactλh=> .inr (.inr ⟨h,by simp,by simp⟩)
theorem XA(x:ZPs)(hx:(su 2).pre x):aiR x:=by
 unfold aiR;simp only[MG,ML,MH,jK,fH,Xx,MJ,Xy,yC,MK,MI,zZ,Xt,Xr,aiO,MF,Xu];simp only[aZ,aV,aU,aA,aI,bT,bF,aO,aK,ay,aX,aW,bU,bG,bH,bI,bV,bD,bJ,bC,eU,aH,aN,ah,ak,aB,aF,aC,aG];refine⟨x,aZ.1 hx,?_,?_,?_,?_,?_⟩
 ·simp
 ·rfl
 ·exactλy h=> .inl ⟨y,h,by simp,by simp⟩
 ·exactλy h=> .inr (.inl ⟨y,h,by simp,by simp⟩)
 ·exactλh=> .inr (.inr ⟨h,by simp,by simp⟩)
theorem aiT:bZ Tryz.prog 34 (su 1).ctr:=qV (bP aiF) 11 (λ_=>⟨rfl,rfl,rfl,rfl⟩) λx hx=>Eq.mp (aiQ x) (Xz x hx)
theorem aiU:bZ Tryz.prog 34 (su 2).ctr:=qV (bP acN) 11 (λ_=>⟨rfl,rfl,rfl,rfl⟩) λx hx=>Eq.mp (aiS x) (XA x hx)
structure ZKs where
 a:ZSto
 f:ZFp
 ph:Int
namespace ZKs
def ps(s:ZKs)(t:Nat):ZPs:=⟨s.a,s.f,t⟩
def pp(s:ZKs)(t ln:Nat):ZPp:=⟨s.a,s.f,t,ln⟩
end ZKs
def wP(k:Int)(t:Nat)(b:ZBlk)(n:Nat)(s:ZKs)(Q:Nat->ZKs->Prop):Prop:=
 (s.ph=0/\n=0/\(s.a.r.ok/\s.a.c.ok/\s.a.ph<=4/\t<s.a.r.t/\s.a.r.has t=0)/\(goodP k s.f.key s.f.value≠0->Q 0 ⟨s.a,{s.f with code:=goodP k s.f.key s.f.value},7⟩)/\(goodP k s.f.key s.f.value=0->Q 0 ⟨s.a.Ce t s.a.r.now,{s.f with epoch:=s.a.c.now},1⟩))\/
 (s.ph=1/\n=0/\(s.f.key.size<1099511627776/\s.f.pos.size<1099511627776/\(k=3->(s.ps t).miss->s.f.line<0))/\(∀y,(s.ps t).goes y->Q 0 ⟨s.a,{s.f with pos:=y.key,past:=true},1⟩)/\(∀y,(s.ps t).hit y->Q 0 ⟨s.a,{s.f with had:=true,old:=y,piece:=if k=1 then 0 else s.f.piece},nx3 s.f k true⟩)/\((s.ps t).miss->Q 0 ⟨s.a,{s.f with had:=false,old:=iO},nx3 s.f k false⟩))\/
 (s.ph=1/\n=0/\k=3/\ ∃i j,(s.f.key.size<1099511627776/\s.f.pos.size<1099511627776/\fJ.ok ⟨s.a.p,i,j⟩/\(s.ps t).miss)/\s.f.line=fJ.line ⟨s.a.p,i,j⟩/\Q 0 ⟨s.a.Wx (s.a.p.give i j),{s.f with had:=false,old:=iO,line:= -1},6⟩)\/
 (s.ph=2/\k=1/\ ∃ln:Nat,s.f=(ZPr.mk s.a s.f t b ln n).fr n/\(ZPr.mk s.a s.f t b ln n).ok/\(n+1≠spn b.cls->Q (n+1) ⟨s.a,{s.f with piece:=(n+1:Nat)},2⟩)/\(n+1=spn b.cls->Q 0 ⟨s.a,{s.f with piece:=(n+1:Nat),found:=true,ans:=b.value},6⟩))\/
 (s.ph=3/\n=0/\(k=2\/k=3)/\(s.a.p.ok/\s.f.key.size<=16/\s.f.value.size<=400)/\((∀i,i<s.a.p.n->s.a.p.cls i≠ -1/\s.a.p.full ((s.ps t).nd k) i)->Q 0 ⟨s.a,{s.f with cls:=(s.ps t).nd k,code:=4},6⟩)/\
  ∀i j:Nat,s.a.p.takes ((s.ps t).nd k) i j->Q 0 ⟨s.a.Wx (s.a.p.take ((s.ps t).nd k) i j),{s.f with cls:=(s.ps t).nd k,line:=2+i*8+j*spn ((s.ps t).nd k),piece:=0},4⟩)\/
 (s.ph=4/\n=0/\ ∃ln p:Nat,(k=2\/k=3/\p=0)/\s.f=(ZPw.mk s.a s.f t ln s.f.cls p).fr p/\(ZPw.mk s.a s.f t ln s.f.cls p).ok/\(p+1≠spn s.f.cls->Q 0 ⟨s.a.Gm (ZPw.mk s.a s.f t ln s.f.cls p).d',{s.f with piece:=(p+1:Nat)},4⟩)/\(p+1=spn s.f.cls->Q 0 ⟨s.a.Gm (ZPw.mk s.a s.f t ln s.f.cls p).d',{s.f with piece:=0},5⟩))\/
 (s.ph=5/\n=0/\(k=2\/k=3/\s.f.had=true)/\ ∃ln:Nat,s.f.line=ln/\((s.pp t ln).pt k).ok k s.f.had/\Q 0 ⟨((s.pp t ln).pt k).cg.res k s.f.had,{s.f with found:=s.f.had,aep:=s.f.epoch,line:= -1},6⟩)\/
 (s.ph=5/\n=0/\(k=2\/k=3/\s.f.had=true)/\ ∃ln:Nat,s.f.line=ln/\((s.pp t ln).pt k).bad s.f.had/\Q 0 ⟨s.a,{s.f with epoch:=s.a.c.now,pos:=emp,past:=false,had:=false,old:=iO},1⟩)\/
 (s.ph=6/\n=0/\(s.a.r.ok/\t<s.a.r.t)/\Q 0 ⟨s.a.Ce t 0,s.f,7⟩)\/
 (s.ph=7/\n=0/\Q 0 s)
structure ZWk where
 s:ZKs
 t:Nat
 b:ZBlk
 n:Nat
 q:Nat->ZKs->Prop
noncomputable def Rn(k:Int):Ctr:={X:=ZWk,args:=λx=>[.ptr 0 0,i64 x.t,x.s.f.av k x.s.ph gZ],k:=1,os:=λx=>[.abs (ownM x.s.a.os)],pre:=λx=>Hd (x.n=0/\wP k x.t x.b 0 x.s x.q),outs:=[
 {Y:=ZKs,post:=λx y=>Hd (x.q 0 y),ret:=λ_ y=>y.f.av k y.ph gZ,m:=1,os:=λ_ y=>[.abs (ownM y.a.os)]},
 {Y:=ZKs,post:=λx y=>Hd (x.q 1 y/\y.ph=2/\k=1),ret:=λ_ y=>y.f.av k 2 (.slW 1 0 1 64),m:=2,os:=λx y=>[.abs (ownM y.a.os),abI x.b.enc 64]}]}
noncomputable def ZX(k:Int):Ctr:={X:=ZWk,args:=λx=>[.ptr 0 0,i64 x.t,x.s.f.av k x.s.ph gZ],k:=1,os:=λx=>[.abs (ownM x.s.a.os)],pre:=λx=>Hd (x.n=0/\wP k x.t x.b 0 x.s x.q),outs:=[
 {Y:=ZKs,post:=λx y=>Hd (x.q 0 y),ret:=λ_ y=>y.f.av k y.ph gZ,m:=1,os:=λ_ y=>[.abs (ownM y.a.os)]}]}
noncomputable def an1:Ctr:={X:=ZWk,args:=λx=>[.ptr 0 0,i64 x.t,x.s.f.av 1 2 (.slW 1 0 1 (64*x.n))],k:=2,os:=λx=>[.abs (ownM x.s.a.os),abI x.b.enc (64*x.n)],pre:=λx=>Hd (x.n≠0/\x.s.ph=2/\wP 1 x.t x.b x.n x.s x.q),outs:=[
 {Y:=ZKs,post:=λx y=>Hd (x.q 0 y),ret:=λ_ y=>y.f.av 1 y.ph gZ,m:=2,os:=λx y=>[.abs (ownM y.a.os),abI x.b.enc (64*x.n)]},
 {Y:=ZKs,post:=λx y=>Hd (x.q (x.n+1) y/\y.ph=2),ret:=λx y=>y.f.av 1 2 (.slW 2 0 1 (64*(x.n+1))),m:=3,os:=λx y=>[.abs (ownM y.a.os),abI x.b.enc (64*x.n),abI x.b.enc (64*(x.n+1))]}]}
theorem asX{X:Type}{x:X}{v:AV}{h':Heap}{o p q:Out X}(h:kQ x v h' [o,p,q]):(∃y,o.post x y/\v=o.ret x y/\h'=hO o.m (o.os x y))\/(∃y,p.post x y/\v=p.ret x y/\h'=hO p.m (p.os x y))\/ ∃y,q.post x y/\v=q.ret x y/\h'=hO q.m (q.os x y):=by
 rw[dU]at h;rcases h with h|h
 ·exact .inl h
 ·exact .inr (qx h)
theorem ZY{k:Int}(hen:bZ Tryz.prog 34 (qg k).ctr)(hfi:bZ Tryz.prog 34 (su k).ctr)(hgi:k=3->bZ Tryz.prog 34 asR.ctr)(hre:k=1->bZ Tryz.prog 34 Rh.ctr)(hta:k=2\/k=3->bZ Tryz.prog 34 (Rf k).ctr)(hwr:k=2\/k=3->bZ Tryz.prog 34 (EP k).ctr)(hw1:k=2->bZ Tryz.prog 34 ER.ctr)(hpu: ∀had,k=2\/k=3/\had=true->bZ Tryz.prog 34 (Ll k had))(hrt: ∀had,k=2\/k=3/\had=true->bZ Tryz.prog 34 (Lm k had).ctr)(hle:bZ Tryz.prog 34 (qh k).ctr)(hdo:bZ Tryz.prog 34 (yA k)):bZ Tryz.prog 34 (Rn k):=jI λx hx=>by
 obtain⟨⟨a,f,ph⟩,t,b,n,q⟩:=x;obtain⟨hn,hx⟩:=aZ.1 hx;have hn:n=0:=hn;subst hn;rcases hx with ⟨hp,_,h,q1,q2⟩|⟨hp,_,h,q1,q2,q3⟩|⟨hp,_,h3,i,j,h,hl,q1⟩|⟨hp,h1,ln,hf,h,q1,q2⟩|⟨hp,_,h3,h,q1,q2⟩|⟨hp,_,ln,p,h3,hf,h,q1,q2⟩|⟨hp,_,h3,ln,hl,h,q1⟩|⟨hp,_,h3,ln,hl,h,q1⟩|⟨hp,_,h,q1⟩|⟨hp,_,q1⟩
 all_goals (have hp:ph=_:=hp;subst hp)
 ·refine⟨_,hen,rfl,⟨a,f,t⟩,aZ.2 h,rfl,rfl,λv h' hh=> ?_⟩
  rcases qx hh with ⟨y,h0,e1,e2⟩|⟨y,h0,e1,e2⟩
  ·exact eX ⟨⟨a,_,7⟩,aZ.2 (q1 (aZ.1 h0)),e1,e2⟩
  ·exact eX ⟨⟨a.Ce t a.r.now,{f with epoch:=a.c.now},1⟩,aZ.2 (q2 (aZ.1 h0)),e1,e2⟩
 ·refine⟨_,hfi,rfl,⟨a,f,t⟩,aZ.2 h,rfl,rfl,λv h' hh=> ?_⟩
  rcases asX hh with ⟨y,h0,e1,e2⟩|⟨y,h0,e1,e2⟩|⟨y,h0,e1,e2⟩
  ·exact eX ⟨⟨a,{f with pos:=y.key,past:=true},1⟩,aZ.2 (q1 y (aZ.1 h0)),e1,e2⟩
  ·exact eX ⟨⟨a,_,_⟩,aZ.2 (q2 y (aZ.1 h0)),e1,e2⟩
  ·exact eX ⟨⟨a,_,_⟩,aZ.2 (q3 (aZ.1 h0)),e1,e2⟩
 ·subst h3
  have hl:f.line=fJ.line ⟨a.p,i,j⟩:=hl;have hf:f={f with line:=fJ.line ⟨a.p,i,j⟩}:=by rw[<-hl]
  refine⟨_,hgi rfl,rfl,⟨a,f,t,i,j⟩,aZ.2 h,by show [_,_,_]=[_,_,_];rw[hf];first|done|rfl,rfl,λv h' hh=> ?_⟩;obtain⟨y,h0,e1,e2⟩:=jJ hh;exact eX ⟨⟨a.Wx (a.p.give i j),{f with had:=false,old:=iO,line:= -1},6⟩,aZ.2 q1,e1,e2⟩
 ·subst h1
  have hf:f=(ZPr.mk a f t b ln 0).fr 0:=hf;refine⟨_,hre rfl,rfl,⟨a,f,t,b,ln,0⟩,aZ.2 ⟨h,rfl⟩,by show [_,_,_]=[_,_,_];rw[hf];first|done|rfl,rfl,λv h' hh=> ?_⟩;rcases qx hh with ⟨y,h0,e1,e2⟩|⟨y,h0,e1,e2⟩
  ·exact Au ⟨⟨a,{f with piece:=(1:Nat)},2⟩,aZ.2 ⟨q1 (aZ.1 h0),rfl,rfl⟩,e1.trans (by rw[hf];first|done|rfl),e2⟩
  ·exact eX ⟨⟨a,{f with piece:=(1:Nat),found:=true,ans:=b.value},6⟩,aZ.2 (q2 (aZ.1 h0)),e1.trans (by rw[hf];first|done|rfl),e2⟩
 ·refine⟨_,hta h3,rfl,⟨a,f,t⟩,aZ.2 h,rfl,rfl,λv h' hh=> ?_⟩
  rcases qx hh with ⟨y,h0,e1,e2⟩|⟨y,h0,e1,e2⟩
  ·exact eX ⟨⟨a,_,6⟩,aZ.2 (q1 (aZ.1 h0)),e1,e2⟩
  ·exact eX ⟨⟨_,_,4⟩,aZ.2 (q2 _ _ (aZ.1 h0)),e1,e2⟩
 ·have hf:f={f with line:=(ln:Int),cls:=f.cls,piece:=(p:Int)}:=hf
  by_cases h0:p=0
  ·subst h0
   refine⟨_,hwr (h3.imp id And.left),rfl,⟨a,f,t,ln,f.cls,0⟩,aZ.2 ⟨h,rfl⟩,by show [_,_,_]=[_,_,_];rw[hf];first|done|rfl,rfl,λv h' hh=> ?_⟩;rcases qx hh with ⟨y,h0,e1,e2⟩|⟨y,h0,e1,e2⟩
   ·exact eX ⟨⟨a.Gm (ZPw.mk a f t ln f.cls 0).d',{f with piece:=(1:Nat)},4⟩,aZ.2 (q1 (aZ.1 h0)),e1.trans (by rw[hf];first|done|rfl),e2⟩
   ·exact eX ⟨⟨a.Gm (ZPw.mk a f t ln f.cls 0).d',{f with piece:=0},5⟩,aZ.2 (q2 (aZ.1 h0)),e1.trans (by rw[hf];first|done|rfl),e2⟩
  ·have h2:k=2:=h3.resolve_right λh=>h0 h.2
   subst h2;refine⟨_,hw1 rfl,rfl,⟨a,f,t,ln,f.cls,p⟩,aZ.2 ⟨h,h0⟩,by show [_,_,_]=[_,_,_];rw[hf];first|done|rfl,rfl,λv h' hh=> ?_⟩;rcases qx hh with ⟨y,h0,e1,e2⟩|⟨y,h0,e1,e2⟩
   ·exact eX ⟨⟨a.Gm (ZPw.mk a f t ln f.cls p).d',{f with piece:=(p+1:Nat)},4⟩,aZ.2 (q1 (aZ.1 h0)),e1.trans (by rw[hf];first|done|rfl),e2⟩
   ·exact eX ⟨⟨a.Gm (ZPw.mk a f t ln f.cls p).d',{f with piece:=0},5⟩,aZ.2 (q2 (aZ.1 h0)),e1.trans (by rw[hf];first|done|rfl),e2⟩
 ·have hf:f={f with had:=f.had,line:=(ln:Int)}:=by
   have hl:f.line=ln:=hl;rw[<-hl]
  refine⟨_,hpu f.had h3,rfl,⟨a,f,t,ln⟩,aZ.2 h,by show [_,_,_]=[_,_,_];rw[hf];first|done|rfl,rfl,λv h' hh=> ?_⟩;obtain⟨y,h0,e1,e2⟩:=jJ hh;exact eX ⟨⟨_,{f with found:=f.had,aep:=f.epoch,line:= -1},6⟩,aZ.2 q1,e1,e2⟩
 ·have hf:f={f with had:=f.had,line:=(ln:Int)}:=by
   have hl:f.line=ln:=hl;rw[<-hl]
  refine⟨_,hrt f.had h3,rfl,⟨a,f,t,ln⟩,aZ.2 h,by show [_,_,_]=[_,_,_];rw[hf];first|done|rfl,rfl,λv h' hh=> ?_⟩;obtain⟨y,h0,e1,e2⟩:=jJ hh;exact eX ⟨⟨a,{f with epoch:=a.c.now,pos:=emp,past:=false,had:=false,old:=iO},1⟩,aZ.2 q1,e1.trans (by rw[hf];first|done|rfl),e2⟩
 ·refine⟨_,hle,rfl,⟨a,f,t⟩,aZ.2 h,rfl,rfl,λv h' hh=> ?_⟩
  obtain⟨y,h0,e1,e2⟩:=jJ hh;exact eX ⟨⟨a.Ce t 0,f,7⟩,aZ.2 q1,e1,e2⟩
 ·refine⟨_,hdo,rfl,⟨a,f,t⟩,aZ.2 trivial,rfl,rfl,λv h' hh=> ?_⟩
  obtain⟨y,h0,e1,e2⟩:=jJ hh;exact eX ⟨⟨a,f,7⟩,aZ.2 q1,e1,e2⟩
theorem acU:bZ Tryz.prog 34 (Rn 1):=ZY acJ aiT (λh=>by omega) (λ_=>aiG) (λh=>by omega) (λh=>by omega) (λh=>by omega) (λ_ h=>by omega) (λ_ h=>by omega) acK aiM
theorem acV:bZ Tryz.prog 34 (Rn 2):=ZY acL aiU (λh=>by omega) (λh=>by omega) (λ_=>aiE) (λ_=>Xq) (λ_=>acP) (λhad _=>match had with
 |false=>aiI
 |true=>aiK) (λhad _=>match had with
 |false=>aiJ
 |true=>aiL) acM aiN
theorem aiV{k:Int}(hk:k=2\/k=3)(h0:bZ Tryz.prog 34 (Rn k)):bZ Tryz.prog 34 (ZX k):=jI λx hx=>by
 refine⟨_,h0,rfl,x,hx,rfl,rfl,λv h' hh=> ?_⟩;rcases qx hh with ⟨y,h0,e1,e2⟩|⟨y,h0,e1,e2⟩
 ·exact eX ⟨y,h0,e1,e2⟩
 ·have:=(aZ.1 h0).2.2
  omega
theorem acW:bZ Tryz.prog 34 (ZX 2):=aiV (.inl rfl) acV
theorem aiW:bZ Tryz.prog 34 an1:=jI λx hx=>by
 obtain⟨⟨a,f,ph⟩,t,b,n,q⟩:=x;obtain⟨hn,hp,hx⟩:=aZ.1 hx;have hn:n≠0:=hn;have hp:ph=2:=hp;subst hp;rcases hx with ⟨hp,_⟩|⟨hp,_⟩|⟨hp,_⟩|⟨hp,_,ln,hf,h,q1,q2⟩|⟨hp,_⟩|⟨hp,_⟩|⟨hp,_⟩|⟨hp,_⟩|⟨hp,_⟩|⟨hp,_⟩
 all_goals try exact absurd hp (by show¬(2:Int)=_;decide)
 have hf:f=(ZPr.mk a f t b ln n).fr n:=hf;refine⟨_,aiH,rfl,⟨a,f,t,b,ln,n⟩,aZ.2 ⟨h,hn⟩,by show [_,_,_]=[_,_,_];rw[hf];first|done|rfl,rfl,λv h' hh=> ?_⟩;rcases qx hh with ⟨y,h0,e1,e2⟩|⟨y,h0,e1,e2⟩
 ·exact Au ⟨⟨a,{f with piece:=(n+1:Nat)},2⟩,aZ.2 ⟨q1 (aZ.1 h0),rfl⟩,e1.trans (by rw[hf];first|done|rfl),e2⟩
 ·exact eX ⟨⟨a,{f with piece:=(n+1:Nat),found:=true,ans:=b.value},6⟩,aZ.2 (q2 (aZ.1 h0)),e1.trans (by rw[hf];first|done|rfl),e2⟩


theorem XB{p:ZPool}(hp:p.good){L:Int}{i j:Nat}(h:p.at_ L i j):2<=L/\L+spn (p.cls i)<=2+p.n*8/\0<=p.cls i/\p.cls i<=3:=by
 obtain⟨h1,h2,h3,h4,h5⟩:=h;have h6:=(hp.1.2.2 i h1).2.1;refine⟨?_,?_,h2,h6⟩
 all_goals (rcases gG (p.cls i)with m|m|m|m|m<;>obtain⟨m1,m2,m3⟩:=m<;>rw[m2]at h5<;>(try rw[m2])<;>omega)
theorem aiX{p:ZPool}(hp:p.good){L L':Int}{i j i' j':Nat}(h:p.at_ L i j)(h':p.at_ L' i' j')(hne:L≠L'):L+spn (p.cls i)<=L'\/L'+spn (p.cls i')<=L:=by
 obtain⟨a1,a2,a3,a4,a5⟩:=h;obtain⟨b1,b2,b3,b4,b5⟩:=h';have a6:=(hp.1.2.2 i a1).2.1;have b6:=(hp.1.2.2 i' b1).2.1;by_cases e:i=i'
 ·subst e
  have hj:j≠j':=λe=>by subst e;exact hne (a5.trans b5.symm)
  rcases gG (p.cls i)with m|m|m|m|m<;>obtain⟨m1,m2,m3⟩:=m<;>rw[m2]at a5 b5 ⊢<;>omega
 ·rcases gG (p.cls i)with m|m|m|m|m<;>rcases gG (p.cls i')with m'|m'|m'|m'|m'<;>obtain⟨m1,m2,m3⟩:=m<;>obtain⟨m1',m2',m3'⟩:=m'<;>rw[m2]at a5<;>rw[m2']at b5<;>rw[m2,m2']<;>omega
def dat(d:DevM)(ln:Nat)(v:ByteArray)(n:Nat):Prop:= ∀m r:Nat,1<=m->m<n->r<64->d.b ((ln+m)*193+r)=(ZBlk.mk 0 2 0 0 0 ⟨#[]⟩ v).enc (64*m+r)
section
variable{a:ale}{T M:Nat}{b:Nat->ZBlk}
end
theorem aiY{n:Nat}(h:n<=416):0<=ned n/\ned n<=3:=by
 unfold ned
 repeat' split
 all_goals omega
theorem amH{L:Lks}{i:Nat}(h:i<L.length):nthL L i∈L:=by
 unfold nthL;rw[List.getD_eq_getElem?_getD,List.getElem?_eq_getElem h];exact List.getElem_mem h
def PBy(d:DevM)(b:ZBlk)(ln:Nat):Prop:=b.may/\b.kind=1/\ln+spn b.cls<=d.n/\ ∀q,q<64*b.dK->d.b ((ln+q/64)*193+q%64)=b.enc q
structure eY (a:ZSto) (T M N:Nat) (B:ByteArray->ZBlk):Prop where
 dok:a.d.ok
 dst:a.d.st<=M
 dfl:a.d.fl<=M
 dfe:a.d.fe<=M
 rok:a.r.ok
 rt:a.r.t=T
 cok:a.c.ok
 ct:a.c.t=T
 ph:a.ph=0
 OU:a.c.OU=0
 pg:a.p.good
 fit:2+a.p.n*8<=a.d.n
 bok:a.b.ok
 lok:a.l.ok
 ln:a.l.n=0
 srt:srt a.L
 len:a.L.length<=N
 id0:0<=a.id
 id1:a.id<=M
 v0:0<=a.ver
 v1:a.ver<=M
 nn:a.n<=M
 now0:1<=a.c.now
 asY:a.c.now<=M
 owed: ∀k,a.c.o k<=M
 used: ∀K:Int,2<=K->((∃y∈a.L,y.line=K)\/apQ.inB ⟨a.b,a.l,K⟩)->a.p.has K
 q: ∀y∈a.L,∃ln:Nat,y.line=ln/\(B y.key).key=y.key/\(B y.key).id=y.id/\(B y.key).ver=y.ver/\(B y.key).cls=y.cls/\PBy a.d (B y.key) ln/\ ∃i j,a.p.at_ ln i j/\a.p.cls i=y.cls
def oM(a:ZSto)(K:Nat)(c:Int):Prop:=(∃i j,a.p.at_ K i j/\a.p.cls i=c)/\(∀y∈a.L,y.line≠K)/\ ¬apQ.inB ⟨a.b,a.l,K⟩
def ade(d:DevM)(ln:Nat)(key v:ByteArray)(n:Nat):Prop:= ∀m r:Nat,1<=m->m<n->r<64->d.b ((ln+m)*193+r)=(ZBlk.mk 0 1 0 0 0 key v).enc (64*m+r)
def updB(B:ByteArray->ZBlk)(s:ByteArray)(b:ZBlk):ByteArray->ZBlk:=λk=>if k=s then b else B k
section
variable{a:ZSto}{T M N:Nat}{B:ByteArray->ZBlk}
theorem eY.up(g:eY a T M N B){M' N':Nat}(h:M<=M')(hN:N<=N'):eY a T M' N' B:=
 {g with dst:=by have:=g.dst;omega,dfl:=by have:=g.dfl;omega,dfe:=by have:=g.dfe;omega,len:=Nat.le_trans g.len hN,id1:=by have:=g.id1;omega,v1:=by have:=g.v1;omega,nn:=by have:=g.nn;omega,asY:=by have:=g.asY;omega,owed:=λk=>by have:=g.owed k;omega}
theorem oM.fits{K:Nat}{c:Int}(h:oM a K c)(g:eY a T M N B):2<=K/\(K:Int)+spn c<=a.d.n/\0<=c/\c<=3/\K<258/\a.d.n<=258:=by
 obtain⟨⟨i,j,h1,rfl⟩,_⟩:=h;obtain⟨f1,f2,f3,f4⟩:=XB g.pg h1;have:=g.fit;have:=g.dok.1;have s:=dP (a.p.cls i);refine⟨by omega,by omega,f3,f4,by omega,this⟩
theorem oM.apart{K:Nat}{c:Int}(h:oM a K c)(g:eY a T M N B){y:ZLnk}(hy:y∈a.L){ln:Nat}(hl:y.line=ln):ln+(B y.key).dK<=K\/K+(spn c).toNat<=ln:=by
 obtain⟨⟨i,j,h1,rfl⟩,h2,_⟩:=h;obtain⟨ln',q1,_,_,_,q5,_,i',j',q2,q3⟩:=g.q y hy;have e:(ln':Int)=ln:=by rw[<-hl,q1]
 have e:ln'=ln:=by omega
 subst e;have hne:(ln':Int)≠K:=λe=>h2 y hy (by rw[hl,e])
 have:=aiX g.pg q2 h1 hne;rw[q3,<-q5]at this;have s:=y9 (B y.key);have s2:=dP (a.p.cls i);omega
theorem PBy.keep{d d':DevM}{b:ZBlk}{ln:Nat}(h:PBy d b ln)(h2:d'.n=d.n){L n:Nat}(h0:2<=ln)(hb: ∀m r:Nat,2<=m->r<64-> ¬(L<=m/\m<L+n)->d'.b (m*193+r)=d.b (m*193+r))(hs:ln+b.dK<=L\/L+n<=ln):PBy d' b ln:=by
 obtain⟨q3,q4,q5,q6⟩:=h;refine⟨q3,q4,by rw[h2];exact q5,λq hq=> ?_⟩;rw[hb _ _ (by omega) (by omega) (by omega)];exact q6 q hq
theorem eY.dev(g:eY a T M N B){d':DevM}{M':Nat}(hM:M<=M')(h1:d'.ok)(h2:d'.n=a.d.n)(h3:d'.st<=M')(h4:d'.fl<=M')(h5:d'.fe<=M'){L n:Nat}(hb: ∀m r:Nat,2<=m->r<64-> ¬(L<=m/\m<L+n)->d'.b (m*193+r)=a.d.b (m*193+r))
  (hs: ∀y∈a.L,∀ln:Nat,y.line=ln->ln+(B y.key).dK<=L\/L+n<=ln):eY (a.Gm d') T M' N B:=by
 have g':=g.up hM (aY N);refine{g' with dok:=h1,dst:=h3,dfl:=h4,dfe:=h5,fit:=by show 2+a.p.n*8<=d'.n;rw[h2];exact g.fit,q:=λy hy=> ?_};obtain⟨ln,q1,k1,k2,k3,k4,q2,i',j',q7,q8⟩:=g.q y hy;have hf:=XB g.pg q7;exact⟨ln,q1,k1,k2,k3,k4,q2.keep h2 (by omega) hb (hs y hy ln q1),i',j',q7,q8⟩
theorem eY.write(g:eY a T M N B)(hM:M<=1000000){K:Nat}{c:Int}(h:oM a K c){t:Nat}{f:ZFp}(hk:f.key.size<=16)(hv:f.value.size<=400){p:Nat}(hp:(p:Int)<spn c):
  (ZPw.mk a f t K c p).ok/\eY (a.Gm (ZPw.mk a f t K c p).d') T (M+20) N B/\(ade a.d K f.key f.value p->ade (ZPw.mk a f t K c p).d' K f.key f.value (p+1))/\ ∀m r:Nat,r<64-> ¬(K<=m/\m<K+(spn c).toNat)->(ZPw.mk a f t K c p).d'.b (m*193+r)=a.d.b (m*193+r):=by
 obtain⟨f1,f2,f3,f4,f5,f6⟩:=h.fits g;have hs:=dP c;have d1:=g.dst;have d2:=g.dfl;have d3:=g.dfe;have hd:=g.dok;have w:(ZPw.mk a f t K c p).ok:=⟨hd,f3,f4,f2,hp,hk,hv,by show a.d.st+10<_;omega⟩;have key: ∃g0:Nat->Int,(∀q,0<=g0 q/\g0 q<256)/\(ZPw.mk a f t K c p).d'=a.d.store (K+p) 0 64 g0/\(1<=p-> ∀r,g0 r=(ZBlk.mk c 1 0 0 0 f.key f.value).enc (64*p+r)):=by
  unfold ZPw.d';by_cases e:p=0
  ·subst e
   rw[if_pos rfl];exact⟨_,Zp ⟨f3,f4⟩,rfl,λh=>absurd h (by decide)⟩
  ·rw[if_neg e]
   exact⟨_,λq=>agX _ (by show 64<=64*p+q;omega),rfl,λ_ r=>rfl⟩
 obtain⟨g0,k1,k2,k3⟩:=key;have hb: ∀m r:Nat,r<64-> ¬(K<=m/\m<K+(spn c).toNat)->(a.d.store (K+p) 0 64 g0).b (m*193+r)=a.d.b (m*193+r):=λm r hr hm=>by
  rw[JV _ _ _ _ _ hr,if_neg (by omega)]
 rw[k2];refine⟨w,g.dev (by omega) (DevM.ug hd _ _ _ k1 (by omega)) rfl (by show a.d.st+1<=_;omega) (by show a.d.fl<=_;omega) (by show a.d.fe<=_;omega) (L:=K) (n:=(spn c).toNat) (λm r _ hr hm=>hb m r hr hm) (λy hy ln hl=>h.apart g hy hl),λhdat m r h1 h2 h3=> ?_,hb⟩;rw[JV _ _ _ _ _ h3];by_cases e:m=p
 ·subst e
  rw[if_pos rfl,k3 h1];exact ag3 (x:=ZBlk.mk c 1 0 0 0 f.key f.value) (y:=ZBlk.mk 0 1 0 0 0 f.key f.value) rfl rfl (by omega)
 ·rw[if_neg (by omega)]
  exact hdat m r h1 (by omega) h3
theorem eY.take(g:eY a T M N B){c:Int}(hc:0<=c/\c<=3){i j:Nat}(h:a.p.takes c i j): ∃K:Nat,(K:Int)=2+i*8+j*spn c/\eY (a.Wx (a.p.take c i j)) T M N B/\oM (a.Wx (a.p.take c i j)) K c/\ ¬a.p.has K:=by
 obtain⟨l1,l2⟩:=abM g.pg hc h;obtain⟨n1,n2⟩:=at_new g.pg hc.1 h;have no:=alj g.pg hc h;refine⟨2+i*8+j*(spn c).toNat,l1,?_,⟨⟨i,j,by rw[l1];exact n1,n2⟩,λy hy e=> ?_,λhu=> ?_⟩,by rw[l1];exact no⟩
 ·refine{g with pg:=ag1 g.pg hc h,used:=λL hL hu=>alk (take_at g.pg h) (g.used L hL hu),q:=λy hy=> ?_}
  obtain⟨ln,q1,k1,k2,k3,k4,q2,i',j',q7,q8⟩:=g.q y hy;obtain⟨q9,q10⟩:=take_at g.pg h _ _ _ q7;exact⟨ln,q1,k1,k2,k3,k4,q2,i',j',q9,q10.trans q8⟩
 ·exact no (l1▸g.used _ (by omega) (.inl ⟨y,hy,e⟩))
 ·exact no (l1▸g.used _ (by omega) (.inr hu))
theorem eY.Ce(g:eY a T M N B){t:Nat}{v:Int}:eY (a.Ce t v) T M N B:={g with rok:=g.rok,rt:=g.rt}
end
section
variable{a:ZSto}{T M N:Nat}{B:ByteArray->ZBlk}
theorem aqK{b:ZBlk}(h:b.may)(hk:b.kind=1):1<=b.id/\b.id<=2305843009213693952:=by
 rcases h.2 with h|h|h|h
 ·exfalso;have:=h.1;omega
 ·exact h.2.2.2.2.2.1
 ·exfalso;have:=h.1;omega
 ·exfalso;have:=h.1;omega
theorem eY.old(g:eY a T M N B){y:ZLnk}(hy:y∈a.L):(1<=y.id/\y.id<=2305843009213693952)/\2<=y.line/\y.line<258/\0<=y.cls/\y.cls<=3/\ ∃i j,a.p.at_ y.line i j:=by
 obtain⟨ln,q1,k1,k2,k3,k4,q2,i,j,q7,q8⟩:=g.q y hy;obtain⟨g1,g2,g3,g4⟩:=XB g.pg q7;have hfit:=g.fit;have:=g.dok.1;have hs:=dP (a.p.cls i);have hn:=aqK q2.1 q2.2.1;refine⟨by rw[<-k2];exact hn,by omega,by omega,by omega,by omega,i,j,by rw[q1];exact q7⟩
theorem amI{x:ZPt}{K:Nat}(h:oM x.a K x.x.cls)(hk:x.ln=K): ∃i j,x.inP i j/\x.a.p.cls i=x.x.cls:=by
 obtain⟨⟨i,j,⟨a1,a2,a3,a4,a5⟩,h2⟩,_⟩:=h;exact⟨i,j,⟨a1,a2,a3,a4,by rw[hk];exact a5⟩,h2⟩
theorem aqL{x:ZPt}{K:Nat}(hk:x.ln=K)(hl:x.a.l.n=0)(h:oM x.a K x.x.cls): ¬x.us.used:=by
 subst hk
 rintro (⟨i,hi,h1⟩|⟨i,hi,_⟩|h1)
 ·exact h.2.1 _ (amH hi) h1
 ·have hi:i<x.a.l.n:=hi
  omega
 ·exact h.2.2 h1
theorem Ip(c:iP)(t:Nat)(L:Int): ∀n,(c.notes t L n).OU=c.OU
 |0=>rfl
 |n+1=>Ip c t L n
theorem eY.put(g:eY a T M N B)(hM:M<=1000000)(hN:N<=200){t K:Nat}(ht:t<T){f:ZFp}{had:Bool}(h:oM a K f.cls)(hk0:f.key.size≠0)(hk:f.key.size<=16)(hv:f.value.size<=400)(hc:f.cls=ned ((f.key.size+f.value.size:Nat):Int))(he:f.epoch=a.c.now)
  (hw:gu a.L f.key=if had=true then some f.old else none) (hd:ade a.d K f.key f.value (spn f.cls).toNat):
  ((ZPp.mk a f t K).pt 2).ok 2 had/\eY (((ZPp.mk a f t K).pt 2).cg.res 2 had) T (M+20) (N+1) (updB B f.key (((ZPp.mk a f t K).pt 2).cg.blk 2 had)):=by
 obtain⟨f1,f2,f3,f4,f5,f6⟩:=h.fits g;have hs:=dP f.cls;have e1:=g.id0;have e2:=g.id1;have e3:=g.v0;have e4:=g.v1;have e5:=g.nn;have e6:=g.now0;have e7:=g.asY;have e8:=g.dst;have e9:=g.dfl;have e10:=g.dfe;have e11:=g.len;have ho:=g.owed;generalize hP:(ZPp.mk a f t K).pt 2=P;subst hP;let C:ZCg:=((ZPp.mk a f t K).pt 2).cg
 let b:ZBlk:=C.blk 2 had
 have hb:b=⟨f.cls,1,C.idP had,a.ver+1,f.epoch,f.key,f.value⟩:=if_pos rfl;let l:ZLnk:=C.lnk 2 had
 have hl:l=⟨f.key,C.idP had,a.ver+1,K,f.cls⟩:=by show ZLnk.mk b.key b.id (a.ver+1) K b.cls=_;rw[hb]
 have hold:had=true->f.old∈a.L/\f.old.key=f.key:=λe=>by
  rw[if_pos e]at hw;exact nZ hw
 have hid:1<=C.idP had/\C.idP had<=2305843009213693952:=by
  show 1<=(bif had then f.old.id else a.id+1)/\_;cases had
  ·show 1<=a.id+1/\a.id+1<=_;omega
  ·exact(g.old (hold rfl).1).1
 have hbm:b.may:=by
  rw[hb];refine⟨Ql ⟨f3,f4⟩,.inr (.inl ⟨rfl,by show 1<=f.key.size;omega,hk,hv,hc.symm,hid,?_,?_⟩)⟩
  ·show 1<=a.ver+1/\a.ver+1<=2305843009213693952;omega
  ·show 1<=f.epoch/\f.epoch<=2305843009213693952;omega
 have hsl:(jl a.L l).length<=a.L.length+1:=Zy;have hbs:b.dK=(spn f.cls).toNat:=by rw[hb];rfl
 have hent:had=true->(C.ent 2).may:=λe=>by
  obtain⟨_,o1,o2,o3,o4,_⟩:=g.old (hold e).1;exact⟨o1,o2,o3,o4,by show(-1:Int)<= -1;decide,by show(-1:Int)<258;decide⟩
 refine⟨⟨⟨g.dok,g.cok,by show a.ph<=4;rw[g.ph];decide,by show t<a.c.t;rw[g.ct];exact ht,by show K<a.d.n;omega,f6,hbm,by show f.key.size<_;omega,by show f.value.size<_;omega,e3,by show a.ver<_;omega,e1,by show a.id<_;omega,Int.le_refl 0,show(0:Int)<1152921504606846977 by decide,by show a.n<_;omega,λk=>by have:=ho k;show a.c.o k+8<_;omega,λe=>⟨g.bok,g.rok,hent e⟩,λ_=>by show(jl a.L l).length<=258;omega,λe=>absurd e (by decide)⟩,
  hw,he.symm,g.pg.1,g.bok,g.lok,by show a.l.n<_;rw[g.ln];decide,by show a.L.length<=300;omega,amI (x:=(ZPp.mk a f t K).pt 2) h rfl,aqL (x:=(ZPp.mk a f t K).pt 2) rfl g.ln h,λe=>absurd rfl e⟩,?_⟩
 let D:DevM:=a.d.store K 0 64 b.enc
 have hDb: ∀m r:Nat,r<64-> ¬(K<=m/\m<K+(spn f.cls).toNat)->D.b (m*193+r)=a.d.b (m*193+r):=λm r hr hm=>by
  show(a.d.store K 0 64 b.enc).b (m*193+r)=_;rw[JV _ _ _ _ _ hr,if_neg (by omega)]
 have hDok:D.ok:=DevM.ug g.dok _ _ _ (yc hbm) (by omega);have gD:eY (a.Gm D) T (M+20) N B:=g.dev (by omega) hDok rfl (by show a.d.st+1<=_;omega) (by show a.d.fl<=_;omega) (by show a.d.fe<=_;omega) (L:=K) (n:=(spn f.cls).toNat) (λm r _ hr hm=>hDb m r hr hm) (λy hy ln hl=>h.apart g hy hl);have hnew:PBy D b K:=by
  refine⟨hbm,by rw[hb],by rw[hb];exact f2,λq hq=> ?_⟩;show(a.d.store K 0 64 b.enc).b ((K+q/64)*193+q%64)=b.enc q;rw[JV _ _ _ _ _ (by omega)];by_cases e:q/64=0
  ·rw[if_pos (by omega),show q%64=q by omega]
  ·rw[if_neg (by omega),hd (q/64) (q%64) (by omega) (by rw[hbs]at hq;omega) (by omega),show 64*(q/64)+q%64=q by omega]
   exact ag3 (by rw[hb]) (by rw[hb]) (by omega)
 have hno:=U6 a.c t (K:Int) (λk=>(g.cok.2.2.2.2.2 k).1);have hs8:=(y9 b).1;have hR:C.res 2 had={a with d:=D,c:=a.c.notes t (K:Int) b.dK,b:=if had=true then a.b.put (C.ent 2)else a.b,L:=jl a.L l,id:=if had=false then a.id+1 else a.id,ver:=a.ver+1,n:=a.n+1,e:=λi=>if i=a.n then C.eff 2 had else a.e i}:=by
  cases had<;>rfl
 show eY (C.res 2 had) T (M+20) (N+1) (updB B f.key b);rw[hR];obtain⟨⟨i0,j0,hi0,hc0⟩,_⟩:=h;have hup:=gD.up (aY _) (Nat.le_succ N)
 exact{hup with
  cok:=yg g.cok (λk=>by have:=ho k;omega) _ _ hs8
  ct:=(qR _ _ _ _).trans g.ct
  OU:=(Ip _ _ _ _).trans g.OU
  bok:=by
   show fV.ok (if had=true then a.b.put (C.ent 2)else a.b);split
   ·exact asf g.bok _
   ·exact g.bok
  srt:=uo g.srt
  len:=by show(jl a.L l).length<=N+1;omega
  id0:=by show 0<=(if had=false then a.id+1 else a.id);split<;>omega
  id1:=by show(if had=false then a.id+1 else a.id)<=((M+20:Nat):Int);split<;>omega
  v0:=by show 0<=a.ver+1;omega
  v1:=by show a.ver+1<=((M+20:Nat):Int);omega
  nn:=by show a.n+1<=M+20;omega
  now0:=by show 1<=(a.c.notes t (K:Int) b.dK).now;rw[qU];exact g.now0
  asY:=by show(a.c.notes t (K:Int) b.dK).now<=_;rw[qU];omega
  owed:=λk=>by show(a.c.notes t (K:Int) b.dK).o k<=_;have:=(hno b.dK k).2;have:=ho k;omega
  used:=λX hX hu=>by
   rcases hu with ⟨y,hy,hh⟩|hu
   ·rcases (gV g.srt).1 hy with rfl|⟨hy,_⟩
    ·rw[hl]at hh
     have hh:(K:Int)=X:=hh;exact⟨i0,j0,by rw[<-hh];exact hi0⟩
    ·exact g.used X hX (.inl ⟨y,hy,hh⟩)
   ·have hu:apQ.inB ⟨if had=true then a.b.put (C.ent 2)else a.b,a.l,X⟩:=hu
    by_cases e:had=true
    ·rw[if_pos e]at hu
     rcases ap0 hu with hu|hu|hu
     ·exact g.used X hX (.inr hu)
     ·have hu:f.old.line=X:=hu
      obtain⟨_,_,_,_,_,i,j,hat⟩:=g.old (hold e).1;exact⟨i,j,by rw[<-hu];exact hat⟩
     ·have hu:(-1:Int)=X:=hu
      omega
    ·rw[if_neg e]at hu
     exact g.used X hX (.inr hu)
  q:=λy hy=>by
   rcases (gV g.srt).1 hy with rfl|⟨hy,hne⟩
   ·have e0:updB B f.key b l.key=b:=if_pos (by rw[hl])
    rw[e0];refine⟨K,by rw[hl],by rw[hl,hb],by rw[hl,hb],by rw[hl,hb],by rw[hl,hb],hnew,i0,j0,hi0,by rw[hl];exact hc0⟩
   ·have e0:updB B f.key b y.key=B y.key:=if_neg λe=>hne (by rw[hl];exact e)
    rw[e0]
    exact gD.q y hy}
end
noncomputable def fl(L:Lks)(b:Nat)(pos:ByteArray)(past:Bool)(s:ByteArray):Lks:=L.filter λl=>(decide (bkt l.key=b)&&(!past||kl pos l.key))&&kl l.key s
theorem vM{L:Lks}{b:Nat}{pos:ByteArray}{past:Bool}{y:ZLnk}(h:nextL L b pos past=some y):(bkt y.key=b/\(past=true->kl pos y.key=true))/\ ∃ms bs,L=ms++y::bs/\ ∀x∈ms,(decide (bkt x.key=b)&&(!past||kl pos x.key))=false:=by
 unfold nextL at h;obtain⟨h1,ms,bs,h2,h3⟩:=List.find?_eq_some_iff_append.1 h;rw[aJ,decide_eq_true_eq,Bool.or_eq_true]at h1;refine⟨⟨h1.1,λe=> ?_⟩,ms,bs,h2,λx hx=> ?_⟩
 ·rcases h1.2 with h|h
  ·rw[e]at h;cases h
  ·exact h
 ·have:=h3 x hx
  rwa [Bool.not_eq_true']at this
theorem amJ{a b:ByteArray}(h:kl a b=true):kl b a=false:=by
 cases h':kl b a
 ·rfl
 ·exact absurd (jy h h') (by rw[nY];decide)
theorem aqM{L:Lks}(hs:srt L){b:Nat}{pos s:ByteArray}{past:Bool}{y:ZLnk}(h:nextL L b pos past=some y)(hy:kl y.key s=true):(fl L b pos past s).length=(fl L b y.key true s).length+1:=by
 obtain⟨⟨h1,h2⟩,ms,bs,rfl,h3⟩:=vM h;have hp:=List.pairwise_append.1 hs;obtain⟨p1,p2,p3⟩:=hp;have q1:=(List.pairwise_cons.1 p2).1;unfold fl;rw[List.filter_append,List.filter_append,List.filter_cons,List.filter_cons];have e1:ms.filter (λl=>(decide (bkt l.key=b)&&(!past||kl pos l.key))&&kl l.key s)=[]:=List.filter_eq_nil_iff.2 λx hx=>by rw[h3 x hx];simp
 have e2:ms.filter (λl=>(decide (bkt l.key=b)&&(!true||kl y.key l.key))&&kl l.key s)=[]:=List.filter_eq_nil_iff.2 λx hx=>by
  rw[amJ (p3 x hx y (List.mem_cons_self ..))]
  first|done|simp
 have e3:((decide (bkt y.key=b)&&(!past||kl pos y.key))&&kl y.key s)=true:=by
  rw[hy,decide_eq_true h1];cases past
  ·rfl
  ·rw[h2 rfl];rfl
 have e4:((decide (bkt y.key=b)&&(!true||kl y.key y.key))&&kl y.key s)=false:=by rw[nY];simp
 rw[e1,e2,if_pos e3,if_neg (by rw[e4];decide)];have e5:bs.filter (λl=>(decide (bkt l.key=b)&&(!past||kl pos l.key))&&kl l.key s)=bs.filter (λl=>(decide (bkt l.key=b)&&(!true||kl y.key l.key))&&kl l.key s):=List.filter_congr λx hx=>by
  rw[q1 x hx];cases past
  ·rfl
  ·rw[jy (h2 rfl) (q1 x hx)]
 rw[e5];rfl
theorem an2{L:Lks}(hs:srt L){b:Nat}{pos s:ByteArray}{past:Bool}(h: ∀y,nextL L b pos past=some y->kl y.key s=false):(fl L b pos past s).length=0:=by
 rw[List.length_eq_zero_iff];refine List.filter_eq_nil_iff.2 λx hx hh=> ?_
 rw[aJ]at hh;cases e:nextL L b pos past with
 |none=>exact absurd hh.1 (List.find?_eq_none.1 e x hx)
 |some y=>
  obtain⟨_,ms,bs,rfl,h3⟩:=vM e;have hy:=h y e;obtain⟨_,p2,_⟩:=List.pairwise_append.1 hs;have q1:=(List.pairwise_cons.1 p2).1;rcases List.mem_append.1 hx with hx|hx
  ·rw[h3 x hx]at hh;cases hh.1
  ·rcases List.mem_cons.1 hx with rfl|hx
   ·rw[hy]at hh;cases hh.2
   ·rw[jy (q1 x hx) hh.2]at hy;cases hy
theorem acX{L:Lks}(hs:srt L){s pos:ByteArray}{past:Bool}(hp:past=true->kl pos s=true)(h: ∀y,nextL L (bkt s) pos past=some y->kl y.key s=false/\y.key≠s):gu L s=none:=yj λz hz e=>by
 have hz':(decide (bkt z.key=bkt s)&&(!past||kl pos z.key))=true:=by
  rw[e,decide_eq_true rfl];cases past
  ·rfl
  ·rw[hp rfl];rfl
 cases e':nextL L (bkt s) pos past with
 |none=>exact absurd hz' (List.find?_eq_none.1 e' z hz)
 |some y=>
  obtain⟨_,ms,bs,rfl,h3⟩:=vM e';obtain⟨k1,k2⟩:=h y e';obtain⟨_,p2,_⟩:=List.pairwise_append.1 hs;have q1:=(List.pairwise_cons.1 p2).1;rcases List.mem_append.1 hz with hz|hz
  ·rw[h3 z hz]at hz';cases hz'
  ·rcases List.mem_cons.1 hz with rfl|hz
   ·exact k2 e
   ·have:=q1 z hz
    rw[e,k1]at this;cases this
theorem Ro{L:Lks}{b:Nat}{pos:ByteArray}{past:Bool}{y:ZLnk}(h:nextL L b pos past=some y):y∈L:=List.mem_of_find?_eq_some h
section
variable{a:ZSto}{T M N:Nat}{B:ByteArray->ZBlk}
theorem eY.key16(g:eY a T M N B){y:ZLnk}(hy:y∈a.L):1<=y.key.size/\y.key.size<=16:=by
 obtain⟨ln,q1,k1,k2,k3,k4,⟨q2,q3,_⟩,_⟩:=g.q y hy;rw[<-k1];rcases q2.2 with h|h|h|h
 ·exfalso;have:=h.1;omega
 ·exact⟨h.2.1,h.2.2.1⟩
 ·exfalso;have:=h.1;omega
 ·exfalso;have:=h.1;omega
noncomputable def ZKs.adf(s:ZKs):Nat:=(fl s.a.L (bkt s.f.key) s.f.pos s.f.past s.f.key).length
def amK(f:ZFp):Prop:=f.key.size<=16/\f.pos.size<=16/\(f.past=true->kl f.pos f.key=true)
theorem Rq{s:ZKs}(g:eY s.a T M N B){k:Int}{t:Nat}{b:ZBlk}(hp:s.ph=1)(hf:amK s.f)(hl:k=3->s.f.line<0){Q:Nat->ZKs->Prop}
  (h1: ∀y∈s.a.L,amK {s.f with pos:=y.key,past:=true}->s.adf=(ZKs.mk s.a {s.f with pos:=y.key,past:=true} 1).adf+1->Q 0 ⟨s.a,{s.f with pos:=y.key,past:=true},1⟩)
  (h2: ∀y,gu s.a.L s.f.key=some y->s.adf=0->Q 0 ⟨s.a,{s.f with had:=true,old:=y,piece:=if k=1 then 0 else s.f.piece},nx3 s.f k true⟩)
  (h3:gu s.a.L s.f.key=none->s.adf=0->Q 0 ⟨s.a,{s.f with had:=false,old:=iO},nx3 s.f k false⟩):wP k t b 0 s Q:=by
 obtain⟨f1,f2,f3⟩:=hf;refine .inr (.inl ⟨hp,rfl,⟨by omega,by omega,λe _=>hl e⟩,λy hy=> ?_,λy hy=> ?_,λhm=> ?_⟩)
 ·have hy1:nextL s.a.L (bkt s.f.key) s.f.pos s.f.past=some y:=hy.1
  have hy2:kl y.key s.f.key=true:=hy.2;have hm:=Ro hy1;exact h1 y hm ⟨f1,(g.key16 hm).2,λ_=>hy2⟩ (aqM g.srt hy1 hy2)
 ·have hy1:nextL s.a.L (bkt s.f.key) s.f.pos s.f.past=some y:=hy.1
  have hy2:y.key=s.f.key:=hy.2;refine h2 y (yh g.srt (Ro hy1) hy2) (an2 g.srt λy' hy'=> ?_);rw[hy1]at hy';cases hy';rw[hy2,nY]
 ·have hm: ∀y,nextL s.a.L (bkt s.f.key) s.f.pos s.f.past=some y->kl y.key s.f.key=false/\y.key≠s.f.key:=hm
  exact h3 (acX g.srt f3 hm) (an2 g.srt λy hy=>(hm y hy).1)
end
section
variable{T M N:Nat}{B:ByteArray->ZBlk}{s:ZKs}{k:Int}{t:Nat}{b:ZBlk}{Q:Nat->ZKs->Prop}
theorem wp0(g:eY s.a T M N B)(ht:t<T)(hr:s.a.r.has t=0)(hp:s.ph=0)
  (h1:goodP k s.f.key s.f.value≠0->Q 0 ⟨s.a,{s.f with code:=goodP k s.f.key s.f.value},7⟩)
  (h2:goodP k s.f.key s.f.value=0->eY (s.a.Ce t s.a.r.now) T M N B->Q 0 ⟨s.a.Ce t s.a.r.now,{s.f with epoch:=s.a.c.now},1⟩):wP k t b 0 s Q:=
 .inl ⟨hp,rfl,⟨g.rok,g.cok,by rw[g.ph];decide,by rw[g.rt];exact ht,hr⟩,h1,λh=>h2 h g.Ce⟩
theorem wp2{n ln:Nat}(hk:k=1)(hp:s.ph=2)(hd:s.a.d.ok)(hb:PBy s.a.d b ln)(hh:s.f.had=true)(ho:s.f.old=⟨b.key,b.id,b.ver,ln,b.cls⟩)(hn:s.f.piece=n)(hl:(n:Int)<spn b.cls)
  (h1:n+1≠spn b.cls->Q (n+1) ⟨s.a,{s.f with piece:=(n+1:Nat)},2⟩) (h2:n+1=spn b.cls->Q 0 ⟨s.a,{s.f with piece:=(n+1:Nat),found:=true,ans:=b.value},6⟩):wP k t b n s Q:=by
 refine .inr (.inr (.inr (.inl ⟨hp,hk,ln,?_,⟨hd,hb.1,hb.2.1,hb.2.2.1,hl,hb.2.2.2⟩,h1,h2⟩)));show s.f={s.f with had:=true,old:=⟨b.key,b.id,b.ver,ln,b.cls⟩,piece:=(n:Int)};rw[<-hh,<-ho,<-hn]
def ndK(k:Int)(f:ZFp):Int:=if k=2 then ned ((f.key.size+f.value.size:Nat):Int)else 0
theorem an3{f:ZFp}(hk:f.key.size<=16)(hv:f.value.size<=400):0<=ndK k f/\ndK k f<=3:=by
 unfold ndK;split
 ·exact aiY (by omega)
 ·omega
theorem wp3(g:eY s.a T M N B)(hk:k=2\/k=3)(hp:s.ph=3)(hks:s.f.key.size<=16)(hv:s.f.value.size<=400)
  (h1:(∀i,i<s.a.p.n->s.a.p.cls i≠ -1/\s.a.p.full (ndK k s.f) i)->Q 0 ⟨s.a,{s.f with cls:=ndK k s.f,code:=4},6⟩)
  (h2: ∀i j K:Nat,s.a.p.takes (ndK k s.f) i j->(K:Int)=2+i*8+j*spn (ndK k s.f)->eY (s.a.Wx (s.a.p.take (ndK k s.f) i j)) T M N B->oM (s.a.Wx (s.a.p.take (ndK k s.f) i j)) K (ndK k s.f)-> ¬s.a.p.has K->
   Q 0 ⟨s.a.Wx (s.a.p.take (ndK k s.f) i j),{s.f with cls:=ndK k s.f,line:=K,piece:=0},4⟩):wP k t b 0 s Q:=by
 refine .inr (.inr (.inr (.inr (.inl ⟨hp,rfl,hk,⟨g.pg.1,hks,hv⟩,h1,λi j h=> ?_⟩))));have h:s.a.p.takes (ndK k s.f) i j:=h;obtain⟨K,l1,l2,l3,l4⟩:=g.take (an3 hks hv) h;have:=h2 i j K h l1 l2 l3 l4;rw[l1]at this;exact this
theorem wp4(g:eY s.a T M N B)(hM:M<=1000000)(hp:s.ph=4)(hks:s.f.key.size<=16)(hv:s.f.value.size<=400){K p:Nat}(h3:k=2\/k=3/\p=0)(hl:s.f.line=K)(hpi:s.f.piece=p)(hlt:(p:Int)<spn s.f.cls)(h:oM s.a K s.f.cls)(hd:ade s.a.d K s.f.key s.f.value p)
  (h1: ∀d',p+1≠spn s.f.cls->eY (s.a.Gm d') T (M+20) N B->oM (s.a.Gm d') K s.f.cls->ade d' K s.f.key s.f.value (p+1)->(∀m r:Nat,r<64-> ¬(K<=m/\m<K+(spn s.f.cls).toNat)->d'.b (m*193+r)=s.a.d.b (m*193+r))->Q 0 ⟨s.a.Gm d',{s.f with piece:=(p+1:Nat)},4⟩)
  (h2: ∀d',p+1=spn s.f.cls->eY (s.a.Gm d') T (M+20) N B->oM (s.a.Gm d') K s.f.cls->ade d' K s.f.key s.f.value (spn s.f.cls).toNat->(∀m r:Nat,r<64-> ¬(K<=m/\m<K+(spn s.f.cls).toNat)->d'.b (m*193+r)=s.a.d.b (m*193+r))->Q 0 ⟨s.a.Gm d',{s.f with piece:=0},5⟩):wP k t b 0 s Q:=by
 obtain⟨w1,w2,w3,w4⟩:=g.write hM h (t:=t) (f:=s.f) hks hv hlt;refine .inr (.inr (.inr (.inr (.inr (.inl ⟨hp,rfl,K,p,h3,?_,w1,λhne=>h1 _ hne w2 h (w3 hd) w4,λhe=>h2 _ he w2 h ?_ w4⟩)))))
 ·show s.f={s.f with line:=(K:Int),cls:=s.f.cls,piece:=(p:Int)}
  rw[<-hl,<-hpi]
 ·have e:(spn s.f.cls).toNat=p+1:=by omega
  rw[e];exact w3 hd
noncomputable def resK(k:Int)(s:ZKs)(t K:Nat):ZSto:=((ZPp.mk s.a s.f t K).pt k).cg.res k s.f.had
noncomputable def aq3(s:ZKs)(t K:Nat):ZBlk:=((ZPp.mk s.a s.f t K).pt 2).cg.blk 2 s.f.had
theorem wp5p(g:eY s.a T M N B)(hM:M<=1000000)(hN:N<=200)(hk:k=2)(hp:s.ph=5){K:Nat}(ht:t<T)(hl:s.f.line=K)(h:oM s.a K s.f.cls)(hk0:s.f.key.size≠0)(hks:s.f.key.size<=16)(hv:s.f.value.size<=400)(hc:s.f.cls=ned ((s.f.key.size+s.f.value.size:Nat):Int))(he:s.f.epoch=s.a.c.now)
  (hw:gu s.a.L s.f.key=if s.f.had=true then some s.f.old else none) (hd:ade s.a.d K s.f.key s.f.value (spn s.f.cls).toNat)
  (h1:eY (resK 2 s t K) T (M+20) (N+1) (updB B s.f.key (aq3 s t K))->Q 0 ⟨resK 2 s t K,{s.f with found:=s.f.had,aep:=s.f.epoch,line:= -1},6⟩):wP k t b 0 s Q:=by
 subst hk;obtain⟨e1,e2⟩:=g.put hM hN ht (f:=s.f) (had:=s.f.had) h hk0 hks hv hc he hw hd;exact .inr (.inr (.inr (.inr (.inr (.inr (.inl ⟨hp,rfl,.inl rfl,K,hl,e1,h1 e2⟩))))))
theorem wp6(g:eY s.a T M N B)(hp:s.ph=6)(ht:t<T)(h1:eY (s.a.Ce t 0) T M N B->Q 0 ⟨s.a.Ce t 0,s.f,7⟩):wP k t b 0 s Q:=
 .inr (.inr (.inr (.inr (.inr (.inr (.inr (.inr (.inl ⟨hp,rfl,⟨g.rok,by rw[g.rt];exact ht⟩,h1 g.Ce⟩))))))))
end
def fK(key v:ByteArray):ZFp:=⟨key,v,⟨#[]⟩,0,⟨#[]⟩,false,false,iO,-1,0,0,0,false,⟨#[]⟩,0⟩
def ZFp.st(f:ZFp)(k ph:Int)(b:AV):dB:= .cells 45 (.av (f.l k ph b))
def ZFp.ansV(f:ZFp):AV:=agY f.code f.found f.ans f.aep
structure ZRp where
 a:ZSto
 t:Nat
 key:ByteArray
 v:ByteArray
 b:ZBlk
 I:Nat->Nat->ZKs->Prop
 q:Nat->ZKs->Prop
structure ZRn where
 s:ZKs
 k:Nat
 m:Nat
def ZRp.okI(x:ZRp)(k:Int):Prop:=x.I 1 0 ⟨x.a,fK x.key x.v,0⟩/\ ∀j m s,x.I j m s->j<=400/\s.ph≠7/\wP k x.t x.b m s (λm' y=>(y.ph=7/\m'=0/\x.q j y)\/x.I (j+1) m' y)
noncomputable def runK(k:Int):Ctr:={X:=ZRp,args:=λx=>[.ptr 0 0,i64 x.t,apX k x.key x.v],k:=1,os:=λx=>[.abs (ownM x.a.os)],pre:=λx=>Hd (x.okI k),outs:=[
 {Y:=ZRn,post:=λx y=>Hd (x.q y.k y.s),ret:=λ_ y=> .tup [y.s.f.ansV,i64 y.k,boo true],m:=1,os:=λ_ y=>[.abs (ownM y.s.a.os)]}]}
noncomputable def annK(k:Int)(x:ZRp):FuncId->qL:=λf=>bif Nat.beq f 35 then(λb _ h=>bif Nat.beq b 0 then [
 {σ:=ZRn,fr:=λs=>[(10,i64 s.k)],ob:=λs=>[(0,some (.abs (ownM s.s.a.os))),(3,some (s.s.f.st k s.s.ph gZ))],inv:=λs=>Hd (1<=s.k/\x.I s.k 0 s.s),meas:=λs=>501-s.k,test:=λ_ h=> !byAt h}]else [])elseλ_ _ _=>[]
noncomputable def asZ(x:ZRp):FuncId->qL:=λf=>bif Nat.beq f 35 then(λb _ h=>bif Nat.beq b 0 then [
 {σ:=ZRn,fr:=λs=>[(10,i64 s.k)],ob:=λs=>[(0,some (.abs (ownM s.s.a.os))),(3,some (s.s.f.st 1 s.s.ph gZ))],inv:=λs=>Hd (1<=s.k/\x.I s.k 0 s.s),meas:=λs=>501-s.k,test:=λ_ h=> !byAt h},
 {σ:=ZRn,fr:=λs=>[(10,i64 s.k)],ob:=λs=>[(0,some (.abs (ownM s.s.a.os))),(3,some (s.s.f.st 1 2 (.slW h.next 0 1 (64*s.m)))),(h.next,some (abI x.b.enc (64*s.m)))],nx:=1,inv:=λs=>Hd (1<=s.k/\s.m≠0/\s.s.ph=2/\x.I s.k s.m s.s),meas:=λs=>501-s.k,test:=λ_ h=>byAt h}]else [])elseλ_ _ _=>[]
noncomputable def aiZ:WTr:=λargs h K=>match args with
 |[a,t,.agg l]=>(bif hasB l then ctrT an1 else ctrT (Rn 1)) [a,t,.agg l] h K
 |_=>False
theorem ai0(args:List AV)(h:Heap)(K:AV->Heap->Prop)(hq:aiZ args h K):Sp Tryz.prog 34 args h K:=by
 unfold aiZ at hq;split at hq
 ·exact anG (P:=Tryz.prog) (f:=34) _ (bP aiW) (bP acU) _ _ _ hq
 ·exact hq.elim
noncomputable def as1(k:Int):jk:=[(17,Zt),(34,ctrT (ZX k))]
noncomputable def as2:jk:=[(17,Zt),(34,aiZ)]
theorem amL{k:Int}(h:bZ Tryz.prog 34 (ZX k)):dX Tryz.prog (as1 k):= .cons Qn (.cons (bP h) .nil)
theorem amM:dX Tryz.prog as2:= .cons Qn (.cons ai0 .nil)
def jm:Prop:=Value.slice none 0 0=Value.slice none 0 0
def vO(a:ZFp)(b:ZFp):Prop:=a.code=b.code/\a.found=b.found/\a.ans=b.ans/\jm/\jm/\a.aep=b.aep/\True
def Iq(a:ZKs)(b:ZKs):Prop:=a.f.key=b.f.key/\a.f.value=b.f.value/\a.f.to=b.f.to/\jm/\a.ph=b.ph/\a.f.epoch=b.f.epoch/\a.f.pos=b.f.pos/\a.f.past=b.f.past/\(0:Int)=0/\a.f.had=b.f.had/\a.f.old.key=b.f.old.key/\a.f.old.id=b.f.old.id/\a.f.old.ver=b.f.old.ver/\a.f.old.line=b.f.old.line/\a.f.old.cls=b.f.old.cls/\a.f.line=b.f.line/\a.f.cls=b.f.cls/\a.f.piece=b.f.piece/\jm/\(0:Int)=0/\jm/\vO a.f b.f
def sU:Prop:=(0:Int)=0/\false=false/\ByteArray.mk #[]=ByteArray.mk #[]/\jm/\jm/\(0:Int)=0/\True
def MN(a:ZFp):Prop:=a.code=0/\a.found=false/\a.ans=ByteArray.mk #[]/\jm/\jm/\a.aep=0/\True
def MO(a:ZKs)(b:ZRp):Prop:=a.f.key=b.key/\a.f.value=b.v/\a.f.to=ByteArray.mk #[]/\jm/\a.ph=0/\a.f.epoch=0/\a.f.pos=ByteArray.mk #[]/\a.f.past=false/\(0:Int)=0/\a.f.had=false/\a.f.old.key=ByteArray.mk #[]/\a.f.old.id=0/\a.f.old.ver=0/\a.f.old.line=0/\a.f.old.cls=0/\a.f.line=(-(1:Int))/\a.f.cls=0/\a.f.piece=0/\jm/\(0:Int)=0/\jm/\MN a.f
def MP(a:ZSto)(b:ZSto):Prop:=ownM a.os=ownM b.os
def lD(a:ZSto)(b:ZSto):Prop:=MP a b/\True
def Fh(a:ZRp)(b:ZSto):Prop:= ∃y:ZRn,Hd (a.q y.k y.s)/\(MN y.s.f/\(y.k:Int)=0/\true=false/\True)/\lD y.s.a b
def sV(a:ZRp):Prop:=a.key=a.key/\a.v=a.v/\ByteArray.mk #[]=ByteArray.mk #[]/\jm/\True
def sW(a:ZRn)(b:ZRp):Prop:=Hd (1<=a.k/\b.I a.k 0 a.s)
def MQ(a:ZRp)(b:ZKs)(c:Nat):Prop:= ∃y_1:ZRn,Hd (a.q y_1.k y_1.s)/\(vO y_1.s.f b.f/\(y_1.k:Int)=(c:Int)/\true=true/\True)/\lD y_1.s.a b.a
def XC(a:ZWk)(b:ZRp)(c:Nat):Prop:= ∀y:ZKs,Hd (a.q 0 y)->cP (BEq.beq y.ph (7:Int)) (MQ b y c) (I64 ((c:Int)+1)/\ ∃s_1:ZRn,sW s_1 b/\501-s_1.k<501-c/\((s_1.k:Int)=(c:Int)+1/\True)/\((1:Int)=1/\Iq s_1.s y)/\sU/\((1:Int)=1/\sV b)/\lD s_1.s.a y.a)
def MR(a:ZRn)(b:ZRp):Prop:=Hd (1<=a.k/\a.m≠0/\a.s.ph=2/\b.I a.k a.m a.s)
def XD(x:ZRp):Prop:=
 (∃s:ZRn,sW s x/\True/\((s.k:Int)=1/\True)/\((1:Int)=1/\MO s.s x)/\sU/\((1:Int)=1/\sV x)/\lD s.s.a x.a)/\(∀s:ZRn,sW s x->cP (decide ((s.k:Int)<=400)) (∃x_1:ZWk,Hd (x_1.n=0/\wP (1:Int) x_1.t x_1.b 0 x_1.s x_1.q)/\(0=0/\(x_1.t:Int)=(x.t:Int)/\((1:Int)=1/\Iq x_1.s s.s)/\True)/\lD x_1.s.a s.s.a/\XC x_1 x s.k/\ ∀y:ZKs,Hd (x_1.q 1 y/\y.ph=2/\(1:Int)=1)->I64 ((s.k:Int)+1)/\ ∃s_1:ZRn,MR s_1 x/\501-s_1.k<501-s.k/\((s_1.k:Int)=(s.k:Int)+1/\True)/\(64*s_1.m=64/\ ∀q:Nat,q<64*s_1.m->[Value.int .u8 (x.b.enc q)]=[Value.int .u8 (x_1.b.enc q)])/\((1:Int)=1/\s_1.s.f.key=y.f.key/\s_1.s.f.value=y.f.value/\s_1.s.f.to=y.f.to/\jm/\(2:Int)=2/\s_1.s.f.epoch=y.f.epoch/\s_1.s.f.pos=y.f.pos/\s_1.s.f.past=y.f.past/\(0:Int)=0/\s_1.s.f.had=y.f.had/\s_1.s.f.old.key=y.f.old.key/\s_1.s.f.old.id=y.f.old.id/\s_1.s.f.old.ver=y.f.old.ver/\s_1.s.f.old.line=y.f.old.line/\s_1.s.f.old.cls=y.f.old.cls/\s_1.s.f.line=y.f.line/\s_1.s.f.cls=y.f.cls/\s_1.s.f.piece=y.f.piece/\(0=0/\64*s_1.m=64)/\(0:Int)=0/\jm/\vO s_1.s.f y.f)/\sU/\((1:Int)=1/\sV x)/\lD s_1.s.a y.a) (Fh x s.s.a))/\(∀s:ZRn,MR s x->cP (decide ((s.k:Int)<=400)) (∃x_1:ZWk,Hd (x_1.n≠0/\x_1.s.ph=2/\wP (1:Int) x_1.t x_1.b x_1.n x_1.s x_1.q)/\(0=0/\(x_1.t:Int)=(x.t:Int)/\((1:Int)=1/\x_1.s.f.key=s.s.f.key/\x_1.s.f.value=s.s.f.value/\x_1.s.f.to=s.s.f.to/\jm/\(2:Int)=2/\x_1.s.f.epoch=s.s.f.epoch/\x_1.s.f.pos=s.s.f.pos/\x_1.s.f.past=s.s.f.past/\(0:Int)=0/\x_1.s.f.had=s.s.f.had/\x_1.s.f.old.key=s.s.f.old.key/\
 x_1.s.f.old.id=s.s.f.old.id/\x_1.s.f.old.ver=s.s.f.old.ver/\x_1.s.f.old.line=s.s.f.old.line/\x_1.s.f.old.cls=s.s.f.old.cls/\x_1.s.f.line=s.s.f.line/\x_1.s.f.cls=s.s.f.cls/\x_1.s.f.piece=s.s.f.piece/\(0=0/\64*x_1.n=64*s.m)/\(0:Int)=0/\jm/\vO x_1.s.f s.s.f)/\True)/\(MP x_1.s.a s.s.a/\(64*x_1.n=64*s.m/\ ∀q:Nat,q<64*x_1.n->[Value.int .u8 (x_1.b.enc q)]=[Value.int .u8 (x.b.enc q)])/\True)/\XC x_1 x s.k/\ ∀y:ZKs,Hd (x_1.q (x_1.n+1) y/\y.ph=2)->I64 ((s.k:Int)+1)/\ ∃s_1:ZRn,MR s_1 x/\501-s_1.k<501-s.k/\((s_1.k:Int)=(s.k:Int)+1/\True)/\(64*s_1.m=64*(x_1.n+1)/\ ∀q:Nat,q<64*s_1.m->[Value.int .u8 (x.b.enc q)]=[Value.int .u8 (x_1.b.enc q)])/\((1:Int)=1/\s_1.s.f.key=y.f.key/\s_1.s.f.value=y.f.value/\s_1.s.f.to=y.f.to/\jm/\(2:Int)=2/\s_1.s.f.epoch=y.f.epoch/\s_1.s.f.pos=y.f.pos/\s_1.s.f.past=y.f.past/\(0:Int)=0/\s_1.s.f.had=y.f.had/\s_1.s.f.old.key=y.f.old.key/\s_1.s.f.old.id=y.f.old.id/\s_1.s.f.old.ver=y.f.old.ver/\s_1.s.f.old.line=y.f.old.line/\s_1.s.f.old.cls=y.f.old.cls/\s_1.s.f.line=y.f.line/\s_1.s.f.cls=y.f.cls/\s_1.s.f.piece=y.f.piece/\(0=0/\64*s_1.m=64*(x_1.n+1))/\(0:Int)=0/\jm/\vO s_1.s.f y.f)/\sU/\((1:Int)=1/\sV x)/\lD s_1.s.a y.a) (Fh x s.s.a))/\True
theorem acY(x:ZRp):XD x=wpF Tryz.prog as2 tt (asZ x) 200 6 35 ((runK 1).args x) (hO 1 ((runK 1).os x)) (λv h'=>eP 1 x v h' (runK 1).outs):=by kernel_rfl
def XE(x:ZRp):Prop:=
 (∃s:ZRn,sW s x/\True/\((s.k:Int)=1/\True)/\((2:Int)=2/\MO s.s x)/\sU/\((2:Int)=2/\sV x)/\lD s.s.a x.a)/\(∀s:ZRn,sW s x->cP (decide ((s.k:Int)<=400)) (∃x_1:ZWk,Hd (x_1.n=0/\wP (2:Int) x_1.t x_1.b 0 x_1.s x_1.q)/\(0=0/\(x_1.t:Int)=(x.t:Int)/\((2:Int)=2/\Iq x_1.s s.s)/\True)/\lD x_1.s.a s.s.a/\ ∀y:ZKs,Hd (x_1.q 0 y)->cP (BEq.beq y.ph (7:Int)) (MQ x y s.k) (I64 ((s.k:Int)+1)/\ ∃s_1:ZRn,sW s_1 x/\501-s_1.k<501-s.k/\((s_1.k:Int)=(s.k:Int)+1/\True)/\((2:Int)=2/\Iq s_1.s y)/\sU/\((2:Int)=2/\sV x)/\lD s_1.s.a y.a)) (Fh x s.s.a))/\True
theorem acZ(x:ZRp):XE x=wpF Tryz.prog (as1 2) tt (annK 2 x) 200 6 35 ((runK 2).args x) (hO 1 ((runK 2).os x)) (λv h'=>eP 1 x v h' (runK 2).outs):=by kernel_rfl
set_option maxHeartbeats 1000000 in
theorem Rt(x:ZRp)(hx:x.okI 1):XD x:=by
 obtain⟨h0,hI⟩:=hx;have end0: ∀(k:Nat) (y:ZKs),1<=k->k<=400->((y.ph=7/\(0:Nat)=0/\x.q k y)\/x.I (k+1) 0 y)->(y.ph=7->x.q k y)/\(y.ph≠7->x.I (k+1) 0 y):=λk y _ _ h=>by
  rcases h with ⟨h1,_,h2⟩|h
  ·exact⟨λ_=>h2,λh3=>absurd h1 h3⟩
  ·exact⟨λh3=>absurd h3 (hI _ _ _ h).2.1,λ_=>h⟩
 have aq4: ∀k:Nat,k<=400->I64 ((k:Int)+1):=λk hk=>by unfold I64;omega
 unfold XD;simp only[sW,MO,sU,sV,lD,Iq,XC,MR,jm,vO,Fh,MP,MN,MQ];simp only[aZ,aV,aU,aA,aI,bT,bF,aO,aK,ay,aX,aW,bU,bG,bH,bI,bV,bD,bJ,bC,eU,aH,aN,ah,ak,aB,aF,aC,aG];refine⟨⟨⟨⟨x.a,fK x.key x.v,0⟩,1,0⟩,⟨aY _,h0⟩,rfl,by repeat' (first|exact rfl|refine And.intro ?_ ?_),rfl⟩,λs hs=> ?_,λs hs=> ?_⟩
 ·obtain⟨h1,h2⟩:=hs
  obtain⟨k50,h7,hw⟩:=hI _ _ _ h2;refine bf (λ_=>⟨⟨s.s,x.t,x.b,0,_⟩,⟨rfl,hw⟩,by repeat' (first|exact rfl|refine And.intro ?_ ?_),rfl,λy hy=> ?_,λy hy=> ?_⟩) λh=>absurd (aT h) (by omega)
  ·obtain⟨e1,e2⟩:=end0 s.k y h1 k50 hy
   refine bf (λh=>⟨⟨y,s.k,0⟩,e1 (beq_iff_eq.1 h),by repeat' (first|exact rfl|refine And.intro ?_ ?_),rfl⟩) λh=>⟨aq4 _ k50,⟨y,s.k+1,0⟩,⟨by show 1<=s.k+1;omega,e2 (by simpa using h)⟩,by show 501-(s.k+1)<_;omega,by show((s.k+1:Nat):Int)=_;omega,by repeat' (first|exact rfl|refine And.intro ?_ ?_),rfl⟩
  ·obtain⟨hy,hp⟩:=hy
   rcases hy with ⟨h3,_⟩|hy
   ·exact absurd (hp.symm.trans h3) (by decide)
   ·exact⟨aq4 _ k50,⟨y,s.k+1,1⟩,⟨by show 1<=s.k+1;omega,by show¬(1:Nat)=0;decide,hp,hy⟩,by show 501-(s.k+1)<_;omega,by show((s.k+1:Nat):Int)=_;omega,⟨rfl,λ_ _=>rfl⟩,by repeat' (first|exact rfl|refine And.intro ?_ ?_),rfl⟩
 ·obtain⟨h1,hm,hph,h2⟩:=hs
  obtain⟨k50,h7,hw⟩:=hI _ _ _ h2;refine bf (λ_=>⟨⟨s.s,x.t,x.b,s.m,_⟩,⟨hm,hph,hw⟩,by repeat' (first|exact rfl|refine And.intro ?_ ?_),⟨rfl,rfl,λ_ _=>rfl⟩,λy hy=> ?_,λy hy=> ?_⟩) λh=>absurd (aT h) (by omega)
  ·obtain⟨e1,e2⟩:=end0 s.k y h1 k50 hy
   refine bf (λh=>⟨⟨y,s.k,0⟩,e1 (beq_iff_eq.1 h),by repeat' (first|exact rfl|refine And.intro ?_ ?_),rfl⟩) λh=>⟨aq4 _ k50,⟨y,s.k+1,0⟩,⟨by show 1<=s.k+1;omega,e2 (by simpa using h)⟩,by show 501-(s.k+1)<_;omega,by show((s.k+1:Nat):Int)=_;omega,by repeat' (first|exact rfl|refine And.intro ?_ ?_),rfl⟩
  ·obtain⟨hy,hp⟩:=hy
   rcases hy with ⟨h3,_⟩|hy
   ·exact absurd (hp.symm.trans h3) (by decide)
   ·exact⟨aq4 _ k50,⟨y,s.k+1,s.m+1⟩,⟨by show 1<=s.k+1;omega,by show s.m+1≠0;omega,hp,hy⟩,by show 501-(s.k+1)<_;omega,by show((s.k+1:Nat):Int)=_;omega,⟨rfl,λ_ _=>rfl⟩,by repeat' (first|exact rfl|refine And.intro ?_ ?_),rfl⟩
theorem Ru(x:ZRp)(hx:x.okI 2):XE x:=by
 obtain⟨h0,hI⟩:=hx;have aq4: ∀k:Nat,k<=400->I64 ((k:Int)+1):=λk hk=>by unfold I64;omega
 unfold XE;simp only[sW,MO,sU,sV,lD,Iq,MQ,Fh,MN,jm,vO,MP];simp only[aZ,aV,aU,aA,aI,bT,bF,aO,aK,ay,aX,aW,bU,bG,bH,bI,bV,bD,bJ,bC,eU,aH,aN,ah,ak,aB,aF,aC,aG];refine⟨⟨⟨⟨x.a,fK x.key x.v,0⟩,1,0⟩,⟨aY _,h0⟩,rfl,by repeat' (first|exact rfl|refine And.intro ?_ ?_),rfl⟩,λs hs=> ?_⟩;obtain⟨h1,h2⟩:=hs;obtain⟨k50,h7,hw⟩:=hI _ _ _ h2;refine bf (λ_=>⟨⟨s.s,x.t,x.b,0,_⟩,⟨rfl,hw⟩,by repeat' (first|exact rfl|refine And.intro ?_ ?_),rfl,λy hy=> ?_⟩) λh=>absurd (aT h) (by omega)
 have e:(y.ph=7->x.q s.k y)/\(y.ph≠7->x.I (s.k+1) 0 y):=by
  rcases hy with ⟨h1,_,h2⟩|h
  ·exact⟨λ_=>h2,λh3=>absurd h1 h3⟩
  ·exact⟨λh3=>absurd h3 (hI _ _ _ h).2.1,λ_=>h⟩
 obtain⟨e1,e2⟩:=e;refine bf (λh=>⟨⟨y,s.k,0⟩,e1 (beq_iff_eq.1 h),by repeat' (first|exact rfl|refine And.intro ?_ ?_),rfl⟩) λh=>⟨aq4 _ k50,⟨y,s.k+1,0⟩,⟨by show 1<=s.k+1;omega,e2 (by simpa using h)⟩,by show 501-(s.k+1)<_;omega,by show((s.k+1:Nat):Int)=_;omega,by repeat' (first|exact rfl|refine And.intro ?_ ?_),rfl⟩
theorem amN:bZ Tryz.prog 35 (runK 1):=jr dF mixed amM asZ 200 6 (λ_=>rfl) (λ_=>⟨λ_=>rfl,trivial⟩) λx hx=>Eq.mp (acY x) (Rt x (aZ.1 hx))
theorem amO:bZ Tryz.prog 35 (runK 2):=jr dF mixed (amL acW) (annK 2) 200 6 (λ_=>rfl) (λ_=>⟨λ_=>rfl,trivial⟩) λx hx=>Eq.mp (acZ x) (Ru x (aZ.1 hx))
def zBk:ZBlk:=⟨0,0,0,0,0,⟨#[]⟩,⟨#[]⟩⟩
structure ZWp where
 a:ZSto
 T:Nat
 M:Nat
 N:Nat
 B:ByteArray->ZBlk
 t:Nat
 key:ByteArray
 v:ByteArray
namespace ZWp
def ok(x:ZWp):Prop:=eY x.a x.T x.M x.N x.B/\x.t<x.T/\x.a.r.has x.t=0/\x.M<=900000/\x.N<=100
def a1(x:ZWp):ZSto:=x.a.Ce x.t x.a.r.now
def a2(x:ZWp):ZSto:=x.a1.Ce x.t 0
def c(x:ZWp):Int:=ned ((x.key.size+x.v.size:Nat):Int)
def sp(x:ZWp):Nat:=(spn x.c).toNat
def had(x:ZWp):Bool:=(gu x.a.L x.key).isSome
noncomputable def far(x:ZWp):Nat:=(fl x.a.L (bkt x.key) ⟨#[]⟩ false x.key).length
end ZWp
structure PPut (x:ZWp) (R:ZRd) (a':ZSto) (B':ByteArray->ZBlk):Prop where
 base:eY a' x.T (x.M+400) (x.N+1) B'
 bk: ∃b,B'=updB x.B x.key b/\b.value=x.v/\b.key=x.key/\b.may
 L: ∃l,a'.L=jl x.a.L l/\l.key=x.key
 r:a'.r=R
 n:a'.n=x.a.n+1
 e: ∃E:ZEff,E.epoch=x.a.c.now/\ ∀i,a'.e i=if i=x.a.n then E else x.a.e i
 now:a'.c.now=x.a.c.now
 pool: ∃i j,x.a.p.takes x.c i j/\a'.p=x.a.p.take x.c i j
 bag: ∃e,a'.b=if x.had=true then x.a.b.put e else x.a.b
 note: ∃K:Nat,a'.c=x.a.c.notes x.t K x.sp
structure FP (x:ZWp) (f:ZFp):Prop where
 key:f.key=x.key
 value:f.value=x.v
 code:f.code=0
 found:f.found=false
 ans:f.ans=⟨#[]⟩
 ep:f.epoch=x.a.c.now
 aep:f.aep=0
def was(x:ZWp)(f:ZFp):Prop:=gu x.a.L x.key=if f.had=true then some f.old else none
def ZWp.ap(x:ZWp)(i j:Nat)(d:DevM):ZSto:=(x.a1.Wx (x.a.p.take x.c i j)).Gm d
inductive Rw (x:ZWp):Nat->Nat->ZKs->Prop
 |enter:Rw x 1 0 ⟨x.a,fK x.key x.v,0⟩
 |aqN {j f} (h:FP x f) (hs:amK f) (hl:f.line= -1) (hj:j+(ZKs.mk x.a1 f 1).adf=2+x.far):Rw x j 0 ⟨x.a1,f,1⟩
 |take {f} (h:FP x f) (hl:f.line= -1) (hw:was x f):Rw x (3+x.far) 0 ⟨x.a1,f,3⟩
 |write {f i j K p d} (h:FP x f) (hw:was x f) (ht:x.a.p.takes x.c i j) (g:eY (x.ap i j d) x.T (x.M+20*p) x.N x.B) (hh:oM (x.ap i j d) K x.c) (hd:ade d K x.key x.v p) (hl:f.line=(K:Nat)) (hp:f.piece=(p:Nat)) (hc:f.cls=x.c) (hlt:p<x.sp):Rw x (4+x.far+p) 0 ⟨x.ap i j d,f,4⟩
 |pub {f i j K d} (h:FP x f) (hw:was x f) (ht:x.a.p.takes x.c i j) (g:eY (x.ap i j d) x.T (x.M+160) x.N x.B) (hh:oM (x.ap i j d) K x.c) (hd:ade d K x.key x.v x.sp) (hl:f.line=(K:Nat)) (hc:f.cls=x.c):Rw x (4+x.far+x.sp) 0 ⟨x.ap i j d,f,5⟩
 |leave {f a' B'} (hc:f.code=0) (hf:f.found=x.had) (ha:f.ans=⟨#[]⟩) (he:f.aep=x.a.c.now) (g:PPut x (x.a.r.put x.t x.a.r.now) a' B'):Rw x (5+x.far+x.sp) 0 ⟨a',f,6⟩
 |full {f} (hc:f.code=4) (hf:f.found=false) (ha:f.ans=⟨#[]⟩) (he:f.aep=0) (hfu: ∀i,i<x.a.p.n->x.a.p.cls i≠ -1/\x.a.p.full x.c i):Rw x (4+x.far) 0 ⟨x.a1,f,6⟩
inductive aq5 (x:ZWp):Nat->ZKs->Prop
 |bad {s} (h:goodP 2 x.key x.v≠0) (hs:s=⟨x.a,{fK x.key x.v with code:=goodP 2 x.key x.v},7⟩):aq5 x 1 s
 |full {f} (h:goodP 2 x.key x.v=0) (hc:f.code=4) (hf:f.found=false) (ha:f.ans=⟨#[]⟩) (he:f.aep=0) (hfu: ∀i,i<x.a.p.n->x.a.p.cls i≠ -1/\x.a.p.full x.c i):aq5 x (4+x.far) ⟨x.a2,f,7⟩
 |done {f a' B'} (h:goodP 2 x.key x.v=0) (hc:f.code=0) (hf:f.found=x.had) (ha:f.ans=⟨#[]⟩) (he:f.aep=x.a.c.now) (g:PPut x ((x.a.r.put x.t x.a.r.now).put x.t 0) a' B'):aq5 x (5+x.far+x.sp) ⟨a',f,7⟩
theorem an4{L:Lks}{b:Nat}{pos s:ByteArray}{past:Bool}:(fl L b pos past s).length<=L.length:=List.length_filter_le _ _
theorem aqO{x:ZWp}{f:ZFp}(h:was x f):f.had=x.had:=by
 unfold was at h;unfold ZWp.had;rw[h];cases f.had<;>rfl
theorem amP{x:ZWp}(hx:x.ok){j m:Nat}{s:ZKs}(h:Rw x j m s)(hg:s.ph≠0->goodP 2 x.key x.v=0):j<=400/\s.ph≠7/\wP 2 x.t zBk m s (λm' y=>(y.ph=7/\m'=0/\aq5 x j y)\/(Rw x (j+1) m' y/\(y.ph≠0->goodP 2 x.key x.v=0))):=by
 obtain⟨g,ht,hr,hM,hN⟩:=hx;have hfar:x.far<=100:=Nat.le_trans an4 (Nat.le_trans g.len hN);have hsp:x.sp<=8:=by have:=dP x.c;unfold ZWp.sp;omega
 have g1:eY x.a1 x.T x.M x.N x.B:=g.Ce;cases h with
 |enter=>
  refine⟨by decide,by show¬(0:Int)=7;decide,wp0 g ht hr rfl (λe=> .inl ⟨rfl,rfl,.bad e rfl⟩) λe _=> .inr ⟨.aqN ⟨rfl,rfl,rfl,rfl,rfl,rfl,rfl⟩ ⟨(yB e).2.1,by show(0:Nat)<=16;decide,λh=>by cases h⟩ rfl ?_,λ_=>e⟩⟩;show 1+1+(fl x.a.L (bkt x.key) ⟨#[]⟩ false x.key).length=2+x.far;unfold ZWp.far;omega
 | @aqN j f hF hs hl hj=>
  have e:=hg (by show¬(1:Int)=0;decide);refine⟨by omega,by show¬(1:Int)=7;decide,Rq (k:=2) (t:=x.t) (b:=zBk) g1 rfl hs (λh=>by cases h) (λy hy hs' hgo=> .inr ⟨.aqN ⟨hF.key,hF.value,hF.code,hF.found,hF.ans,hF.ep,hF.aep⟩ hs' hl (by have hgo:(ZKs.mk x.a1 f 1).adf=(ZKs.mk x.a1 {f with pos:=y.key,past:=true} 1).adf+1:=hgo;show j+1+(ZKs.mk x.a1 {f with pos:=y.key,past:=true} 1).adf=2+x.far;omega),λ_=>e⟩) (λy hy h0=> ?_) λhy h0=> ?_⟩
  ·have e1:nx3 f 2 true=3:=by unfold nx3;rw[if_neg (by decide),if_neg (by decide),if_pos (by omega)]
   have ej:j+1=3+x.far:=by omega
   show(nx3 f 2 true=7/\_)\/(Rw x (j+1) 0 ⟨x.a1,_,nx3 f 2 true⟩/\_);rw[e1,ej];exact .inr ⟨.take ⟨hF.key,hF.value,hF.code,hF.found,hF.ans,hF.ep,hF.aep⟩ hl (by have hy:gu x.a.L f.key=some y:=hy;rw[hF.key]at hy;exact hy),λ_=>e⟩
  ·have e1:nx3 f 2 false=3:=by unfold nx3;rw[if_neg (by decide),if_neg (by decide),if_pos (by omega)]
   have ej:j+1=3+x.far:=by omega
   show(nx3 f 2 false=7/\_)\/(Rw x (j+1) 0 ⟨x.a1,_,nx3 f 2 false⟩/\_);rw[e1,ej];exact .inr ⟨.take ⟨hF.key,hF.value,hF.code,hF.found,hF.ans,hF.ep,hF.aep⟩ hl (by have hy:gu x.a.L f.key=none:=hy;rw[hF.key]at hy;exact hy),λ_=>e⟩
 | @take f hF hl hw=>
  have e:=hg (by show¬(3:Int)=0;decide);obtain⟨k0,k1,k2⟩:=yB e;have ec:ndK 2 f=x.c:=by unfold ndK ZWp.c;rw[if_pos rfl,hF.key,hF.value]
  refine⟨by omega,by show¬(3:Int)=7;decide,wp3 (k:=2) g1 (.inl rfl) rfl (by rw[hF.key];exact k1) (by rw[hF.value];exact k2 rfl) (λhfu=> ?_) λi j K h1 h2 h3 h4 _=> ?_⟩
  ·have hfu: ∀i,i<x.a.p.n->x.a.p.cls i≠ -1/\x.a.p.full (ndK 2 f) i:=hfu
   rw[ec]at hfu;have:=Rw.full (x:=x) (f:={f with cls:=ndK 2 f,code:=4}) rfl hF.found hF.ans hF.aep hfu;rw[show 3+x.far+1=4+x.far by omega];exact .inr ⟨this,λ_=>e⟩
  ·have h1:x.a.p.takes (ndK 2 f) i j:=h1
   have h3:eY (x.a1.Wx (x.a.p.take (ndK 2 f) i j)) x.T x.M x.N x.B:=h3;have h4:oM (x.a1.Wx (x.a.p.take (ndK 2 f) i j)) K (ndK 2 f):=h4;show(_/\_)\/(Rw x _ 0 ⟨x.a1.Wx (x.a.p.take (ndK 2 f) i j),{f with cls:=ndK 2 f,line:=K,piece:=0},4⟩/\_);rw[ec]at h1 h3 h4 ⊢;have s1:=dP x.c;have s2:=an3 (k:=2) (f:=f) (by rw[hF.key];exact k1) (by rw[hF.value];exact k2 rfl);rw[ec]at s2;have hz:0<x.sp:=by unfold ZWp.sp;omega
   have:=Rw.write (x:=x) (f:={f with cls:=x.c,line:=K,piece:=0}) (i:=i) (j:=j) (K:=K) (p:=0) (d:=x.a.d) ⟨hF.key,hF.value,hF.code,hF.found,hF.ans,hF.ep,hF.aep⟩ hw h1 h3 h4 (λm r h1 h2 _=>absurd h2 (by omega)) rfl rfl rfl hz;rw[show 3+x.far+1=4+x.far+0 by omega];exact .inr ⟨this,λ_=>e⟩
 | @write f i j K p d hF hw htk g' hh hd hl hp hc hlt=>
  have e:=hg (by show¬(4:Int)=0;decide);obtain⟨k0,k1,k2⟩:=yB e;have s1:=dP x.c;have hsp2:(x.sp:Int)=spn x.c:=by unfold ZWp.sp;omega
  refine⟨by omega,by show¬(4:Int)=7;decide,wp4 (k:=2) g' (by omega) rfl (by rw[hF.key];exact k1) (by rw[hF.value];exact k2 rfl) (K:=K) (p:=p) (.inl rfl) hl hp (by show(p:Int)<spn f.cls;rw[hc];omega) (by show oM _ K f.cls;rw[hc];exact hh) (by rw[hF.key,hF.value];exact hd) (λd' hne gd hh' hd' _=> ?_) λd' heq gd hh' hd' _=> ?_⟩
  ·have hne:(p:Int)+1≠spn f.cls:=hne
   have hh':oM (x.ap i j d') K f.cls:=hh';have hd':ade d' K f.key f.value (p+1):=hd';rw[hc]at hne hh';rw[hF.key,hF.value]at hd';have:=Rw.write (x:=x) (f:={f with piece:=(p+1:Nat)}) (i:=i) (j:=j) (K:=K) (p:=p+1) (d:=d') ⟨hF.key,hF.value,hF.code,hF.found,hF.ans,hF.ep,hF.aep⟩ hw htk (by rw[show x.M+20*(p+1)=x.M+20*p+20 by omega];exact gd) hh' hd' hl rfl hc (by omega);rw[show 4+x.far+p+1=4+x.far+(p+1) by omega];exact .inr ⟨this,λ_=>e⟩
  ·have heq:(p:Int)+1=spn f.cls:=heq
   have hh':oM (x.ap i j d') K f.cls:=hh';have hd':ade d' K f.key f.value (spn f.cls).toNat:=hd';rw[hc]at heq hh' hd';rw[hF.key,hF.value]at hd';have:=Rw.pub (x:=x) (f:={f with piece:=0}) (i:=i) (j:=j) (K:=K) (d:=d') ⟨hF.key,hF.value,hF.code,hF.found,hF.ans,hF.ep,hF.aep⟩ hw htk (eY.up gd (by omega) (aY _)) hh' hd' hl hc;rw[show 4+x.far+p+1=4+x.far+x.sp by omega];exact .inr ⟨this,λ_=>e⟩
 | @pub f i j K d hF hw htk g' hh hd hl hc=>
  have e:=hg (by show¬(5:Int)=0;decide);obtain⟨k0,k1,k2⟩:=yB e;refine⟨by omega,by show¬(5:Int)=7;decide,wp5p (k:=2) g' (by omega) (by omega) rfl rfl (K:=K) ht hl (by show oM _ K f.cls;rw[hc];exact hh) (by rw[hF.key];exact k0) (by rw[hF.key];exact k1) (by rw[hF.value];exact k2 rfl) (by show f.cls=_;rw[hc,hF.key,hF.value];rfl) hF.ep (by show gu x.a.L f.key=_;rw[hF.key];exact hw) (by show ade d K f.key f.value (spn f.cls).toNat;rw[hF.key,hF.value,hc];exact hd) λgr=> ?_⟩;have wh:=aqO hw;rw[show 4+x.far+x.sp+1=5+x.far+x.sp by omega];refine .inr ⟨.leave (B':=updB x.B f.key (aq3 ⟨x.ap i j d,f,5⟩ x.t K)) hF.code (by show f.had=_;exact wh) hF.ans (by show f.epoch=_;exact hF.ep) ?_,λ_=>e⟩
  exact{base:=eY.up gr (by omega) (aY _)
        bk:=⟨_,by rw[hF.key],hF.value,hF.key,by
         obtain⟨ln,_,q2,_,_,_,q6,_⟩:=gr.q ((((ZPp.mk (x.ap i j d) f x.t K).pt 2).cg).lnk 2 f.had) ((gV g'.srt).2 (.inl rfl));have e0:updB x.B f.key (aq3 ⟨x.ap i j d,f,5⟩ x.t K) ((((ZPp.mk (x.ap i j d) f x.t K).pt 2).cg).lnk 2 f.had).key=aq3 ⟨x.ap i j d,f,5⟩ x.t K:=if_pos rfl;rw[e0]at q6
         exact q6.1⟩
        L:=⟨(((ZPp.mk (x.ap i j d) f x.t K).pt 2).cg).lnk 2 f.had,rfl,hF.key⟩
        r:=rfl
        n:=rfl
        e:=⟨(((ZPp.mk (x.ap i j d) f x.t K).pt 2).cg).eff 2 f.had,hF.ep,λi=>rfl⟩
        now:=qU _ _ _ _
        pool:=⟨i,j,htk,rfl⟩
        bag:=⟨(((ZPp.mk (x.ap i j d) f x.t K).pt 2).cg).ent 2,by
         rw[<-wh];show(if f.had=true/\(2:Int)≠4 then x.a.b.put _ else x.a.b)=_
         cases f.had<;>rfl⟩
        note:=⟨K,by
         show x.a.c.notes x.t (K:Int) (aq3 ⟨x.ap i j d,f,5⟩ x.t K).dK=_;have:(aq3 ⟨x.ap i j d,f,5⟩ x.t K).dK=x.sp:=by show(spn f.cls).toNat=_;rw[hc];rfl
         rw[this]⟩}
 | @leave f a' B' hc hf ha he gp=>
  have e:=hg (by show¬(6:Int)=0;decide);refine⟨by omega,by show¬(6:Int)=7;decide,wp6 gp.base rfl ht λgr=> .inl ⟨rfl,rfl,.done (B':=B') e hc hf ha he ?_⟩⟩;exact{base:=gr,bk:=gp.bk,L:=gp.L,r:=by show a'.r.put x.t 0=_;rw[gp.r],n:=gp.n,e:=gp.e,now:=gp.now,pool:=gp.pool,bag:=gp.bag,note:=gp.note}
 | @full f hc hf ha he hfu=>
  have e:=hg (by show¬(6:Int)=0;decide);exact⟨by omega,by show¬(6:Int)=7;decide,wp6 g1 rfl ht λ_=> .inl ⟨rfl,rfl,.full e hc hf ha he hfu⟩⟩
inductive amQ (x:ZWp):Nat->Nat->ZKs->Prop
 |enter:amQ x 1 0 ⟨x.a,fK x.key x.v,0⟩
 |aqN {j f} (h:FP x f) (hs:amK f) (hj:j+(ZKs.mk x.a1 f 1).adf=2+x.far):amQ x j 0 ⟨x.a1,f,1⟩
 |read {f m y ln} (h:FP x f) (hh:f.had=true) (hw:gu x.a.L x.key=some y) (hl:y.line=(ln:Nat)) (ho:f.old=y) (hp:f.piece=(m:Nat)) (hlt:(m:Int)<spn (x.B x.key).cls):amQ x (3+x.far+m) m ⟨x.a1,f,2⟩
 |leave {j f} (hj:j<=200) (hc:f.code=0) (he:f.aep=0) (h:f.found=false/\f.ans=⟨#[]⟩/\gu x.a.L x.key=none\/f.found=true/\f.ans=(x.B x.key).value/\ ∃y,gu x.a.L x.key=some y):amQ x j 0 ⟨x.a1,f,6⟩
inductive aq6 (x:ZWp):ZKs->Prop
 |bad {s} (h:goodP 1 x.key x.v≠0) (hs:s=⟨x.a,{fK x.key x.v with code:=goodP 1 x.key x.v},7⟩):aq6 x s
 |miss {f} (h:goodP 1 x.key x.v=0) (hc:f.code=0) (he:f.aep=0) (hf:f.found=false) (ha:f.ans=⟨#[]⟩) (hw:gu x.a.L x.key=none):aq6 x ⟨x.a2,f,7⟩
 |hit {f y} (h:goodP 1 x.key x.v=0) (hc:f.code=0) (he:f.aep=0) (hf:f.found=true) (ha:f.ans=(x.B x.key).value) (hw:gu x.a.L x.key=some y):aq6 x ⟨x.a2,f,7⟩
theorem amR{x:ZWp}(hx:x.ok){j m:Nat}{s:ZKs}(h:amQ x j m s)(hg:s.ph≠0->goodP 1 x.key x.v=0):j<=400/\s.ph≠7/\wP 1 x.t (x.B x.key) m s (λm' y=>(y.ph=7/\m'=0/\aq6 x y)\/(amQ x (j+1) m' y/\(y.ph≠0->goodP 1 x.key x.v=0))):=by
 obtain⟨g,ht,hr,hM,hN⟩:=hx;have hfar:x.far<=100:=Nat.le_trans an4 (Nat.le_trans g.len hN);have g1:eY x.a1 x.T x.M x.N x.B:=g.Ce;cases h with
 |enter=>
  refine⟨by decide,by show¬(0:Int)=7;decide,wp0 g ht hr rfl (λe=> .inl ⟨rfl,rfl,.bad e rfl⟩) λe _=> .inr ⟨.aqN ⟨rfl,rfl,rfl,rfl,rfl,rfl,rfl⟩ ⟨(yB e).2.1,by show(0:Nat)<=16;decide,λh=>by cases h⟩ ?_,λ_=>e⟩⟩;show 1+1+(fl x.a.L (bkt x.key) ⟨#[]⟩ false x.key).length=2+x.far;unfold ZWp.far;omega
 | @aqN j f hF hs hj=>
  have e:=hg (by show¬(1:Int)=0;decide);refine⟨by omega,by show¬(1:Int)=7;decide,Rq (k:=1) (t:=x.t) (b:=x.B x.key) g1 rfl hs (λh=>by cases h) (λy hy hs' hgo=> .inr ⟨.aqN ⟨hF.key,hF.value,hF.code,hF.found,hF.ans,hF.ep,hF.aep⟩ hs' (by have hgo:(ZKs.mk x.a1 f 1).adf=(ZKs.mk x.a1 {f with pos:=y.key,past:=true} 1).adf+1:=hgo;show j+1+(ZKs.mk x.a1 {f with pos:=y.key,past:=true} 1).adf=2+x.far;omega),λ_=>e⟩) (λy hy h0=> ?_) λhy h0=> ?_⟩
  ·have hy:gu x.a.L f.key=some y:=hy
   rw[hF.key]at hy;have hm:=nZ hy;obtain⟨ln,q1,k1,k2,k3,k4,q2,_⟩:=g.q y hm.1;have hsp:(0:Int)<spn (x.B x.key).cls:=by
    have h1:=q2.1.1;rw[hm.2]at h1;have:=dP (x.B x.key).cls;omega
   have:=amQ.read (x:=x) (f:={f with had:=true,old:=y,piece:=0}) (m:=0) (y:=y) (ln:=ln) ⟨hF.key,hF.value,hF.code,hF.found,hF.ans,hF.ep,hF.aep⟩ rfl hy q1 rfl rfl hsp;rw[show j+1=3+x.far+0 by omega];exact .inr ⟨this,λ_=>e⟩
  ·have hy:gu x.a.L f.key=none:=hy
   rw[hF.key]at hy;exact .inr ⟨.leave (by omega) hF.code hF.aep (.inl ⟨hF.found,hF.ans,hy⟩),λ_=>e⟩
 | @read f m y ln hF hh hw hl ho hp hlt=>
  have e:=hg (by show¬(2:Int)=0;decide);have hm:=nZ hw;obtain⟨ln',q1,k1,k2,k3,k4,q2,_⟩:=g.q y hm.1;have el:ln'=ln:=by have:=q1.symm.trans hl;omega
  subst el;have hsp:=dP (x.B x.key).cls;rw[hm.2]at k1 k2 k3 k4 q2;refine⟨by omega,by show¬(2:Int)=7;decide,wp2 (k:=1) rfl rfl g1.dok (ln:=ln') q2 hh ?_ hp hlt (λhne=> ?_) λheq=> ?_⟩
  ·show f.old=_
   rw[ho,k1,k2,k3,k4,<-q1,<-hm.2]
  ·have:=amQ.read (x:=x) (f:={f with piece:=(m+1:Nat)}) (m:=m+1) (y:=y) (ln:=ln') ⟨hF.key,hF.value,hF.code,hF.found,hF.ans,hF.ep,hF.aep⟩ hh hw hl ho rfl (by omega)
   rw[show 3+x.far+m+1=3+x.far+(m+1) by omega];exact .inr ⟨this,λ_=>e⟩
  ·exact .inr ⟨.leave (by omega) hF.code hF.aep (.inr ⟨rfl,rfl,y,hw⟩),λ_=>e⟩
 | @leave j f hj hc he h=>
  have e:=hg (by show¬(6:Int)=0;decide);refine⟨by omega,by show¬(6:Int)=7;decide,wp6 g1 rfl ht λ_=> .inl ⟨rfl,rfl,?_⟩⟩;rcases h with ⟨h1,h2,h3⟩|⟨h1,h2,y,h3⟩
  ·exact .miss e hc he h1 h2 h3
  ·exact .hit e hc he h1 h2 h3
noncomputable def ai1:Ctr:={X:=ZWp,args:=λx=>[.ptr 0 0,i64 x.t,apX 2 x.key x.v],k:=1,os:=λx=>[.abs (ownM x.a.os)],pre:=λx=>Hd x.ok,outs:=[
 {Y:=Unit,post:=λx _=>Hd (goodP 2 x.key x.v≠0),ret:=λx _=> .tup [agY (goodP 2 x.key x.v) false ⟨#[]⟩ 0,i64 1,boo true],m:=1,os:=λx _=>[.abs (ownM x.a.os)]},
 {Y:=Unit,post:=λx _=>Hd (goodP 2 x.key x.v=0/\ ∀i,i<x.a.p.n->x.a.p.cls i≠ -1/\x.a.p.full x.c i),ret:=λx _=> .tup [agY 4 false ⟨#[]⟩ 0,i64 (4+x.far:Nat),boo true],m:=1,os:=λx _=>[.abs (ownM x.a2.os)]},
 {Y:=ZSto,post:=λx y=>Hd (goodP 2 x.key x.v=0/\ ∃B',PPut x ((x.a.r.put x.t x.a.r.now).put x.t 0) y B'),ret:=λx _=> .tup [agY 0 x.had ⟨#[]⟩ x.a.c.now,i64 (5+x.far+x.sp:Nat),boo true],m:=1,os:=λ_ y=>[.abs (ownM y.os)]}]}
noncomputable def ai2:Ctr:={X:=ZWp,args:=λx=>[.ptr 0 0,i64 x.t,apX 1 x.key x.v],k:=1,os:=λx=>[.abs (ownM x.a.os)],pre:=λx=>Hd x.ok,outs:=[
 {Y:=Nat,post:=λx _=>Hd (goodP 1 x.key x.v≠0),ret:=λx n=> .tup [agY (goodP 1 x.key x.v) false ⟨#[]⟩ 0,i64 n,boo true],m:=1,os:=λx _=>[.abs (ownM x.a.os)]},
 {Y:=Nat,post:=λx _=>Hd (goodP 1 x.key x.v=0/\gu x.a.L x.key=none),ret:=λx n=> .tup [agY 0 false ⟨#[]⟩ 0,i64 n,boo true],m:=1,os:=λx _=>[.abs (ownM x.a2.os)]},
 {Y:=Nat,post:=λx _=>Hd (goodP 1 x.key x.v=0/\ ∃y,gu x.a.L x.key=some y),ret:=λx n=> .tup [agY 0 true (x.B x.key).value 0,i64 n,boo true],m:=1,os:=λx _=>[.abs (ownM x.a2.os)]}]}
theorem Rx{X:Type}{x:X}{v:AV}{h':Heap}{o p q:Out X}{r:List (Out X)}(h: ∃y,q.post x y/\v=q.ret x y/\h'=hO q.m (q.os x y)):kQ x v h' (o::p::q::r):=by
 rw[dU,dU,dU];exact .inr (.inr (.inl h))
theorem ac0:bZ Tryz.prog 35 ai1:=jI λx hx=>by
 have hx:=aZ.1 hx;refine⟨_,amO,rfl,⟨x.a,x.t,x.key,x.v,zBk,λj m s=>Rw x j m s/\(s.ph≠0->goodP 2 x.key x.v=0),aq5 x⟩,aZ.2 ⟨⟨.enter,λh=>absurd rfl h⟩,λj m s h=>amP hx h.1 h.2⟩,rfl,rfl,λv h' hh=> ?_⟩;obtain⟨⟨s,n,m⟩,h0,e1,e2⟩:=jJ hh;have h0:aq5 x n s:=aZ.1 h0;cases h0 with
 |bad h hs=>
  subst hs;exact eX ⟨(),aZ.2 h,e1,e2⟩
 | @full f h hc hf ha he hfu=>
  refine Au ⟨(),aZ.2 ⟨h,hfu⟩,e1.trans ?_,e2⟩;show AV.tup [agY f.code f.found f.ans f.aep,_,_]=_;rw[hc,hf,ha,he]
  first|done|rfl
 | @done f a' B' h hc hf ha he g=>
  refine Rx ⟨a',aZ.2 ⟨h,B',g⟩,e1.trans ?_,e2⟩;show AV.tup [agY f.code f.found f.ans f.aep,_,_]=_;rw[hc,hf,ha,he]
  first|done|rfl
theorem ac1:bZ Tryz.prog 35 ai2:=jI λx hx=>by
 have hx:=aZ.1 hx;refine⟨_,amN,rfl,⟨x.a,x.t,x.key,x.v,x.B x.key,λj m s=>amQ x j m s/\(s.ph≠0->goodP 1 x.key x.v=0),λ_=>aq6 x⟩,aZ.2 ⟨⟨.enter,λh=>absurd rfl h⟩,λj m s h=>amR hx h.1 h.2⟩,rfl,rfl,λv h' hh=> ?_⟩;obtain⟨⟨s,n,m⟩,h0,e1,e2⟩:=jJ hh;have h0:aq6 x s:=aZ.1 h0;cases h0 with
 |bad h hs=>
  subst hs;exact eX ⟨n,aZ.2 h,e1,e2⟩
 | @miss f h hc he hf ha hw=>
  refine Au ⟨n,aZ.2 ⟨h,hw⟩,e1.trans ?_,e2⟩;show AV.tup [agY f.code f.found f.ans f.aep,_,_]=_;rw[hc,hf,ha,he]
  first|done|rfl
 | @hit f y h hc he hf ha hw=>
  refine Rx ⟨n,aZ.2 ⟨h,y,hw⟩,e1.trans ?_,e2⟩;show AV.tup [agY f.code f.found f.ans f.aep,_,_]=_;rw[hc,hf,ha,he]
  first|done|rfl
noncomputable def aqP:WTr:=λargs h K=>match args with
 |[a,t,.agg l]=>(bif decide (intL l 0=2)then ctrT ai1 else ctrT ai2) [a,t,.agg l] h K
 |_=>False
theorem amS(args:List AV)(h:Heap)(K:AV->Heap->Prop)(hq:aqP args h K):Sp Tryz.prog 35 args h K:=by
 unfold aqP at hq;split at hq
 ·exact anG (P:=Tryz.prog) (f:=35) _ (bP ac0) (bP ac1) _ _ _ hq
 ·exact hq.elim
noncomputable def Ci:Ctr:=det Unit (λ_=>[]) 0 (λ_=>[]) (λ_=>True) (λ_=>boo true) 0 (λ_=>[])
noncomputable def ai3:jk:=[(13,ctrT ahM.ctr),(35,aqP)]
theorem Ry:dX Tryz.prog ai3:= .cons (bP aqA) (.cons amS .nil)
def sZ:Prop:= ∃y_3:Unit,True/\true=false/\True
def ai4:Prop:=ByteArray.mk #[]=ByteArray.mk #[]/\Value.slice none 0 0=Value.slice none 0 0/\True
def Z4(a:ZWp):Prop:=0=0/\(a.t:Int)=0/\((1:Int)=1/\a.key= @ByteArray.mk (@List.toArray UInt8 [(97:UInt8)])/\a.v=ByteArray.mk #[]/\ai4)/\True
def Z5(a:ZWp):Prop:=Hd (goodP (1:Int) a.key a.v=0/\ ∃y_3:ZLnk,gu a.a.L a.key=some y_3)
def MV(a:ZWp):Prop:=Hd (goodP (1:Int) a.key a.v=0/\gu a.a.L a.key= @Option.none ZLnk)
def MW(a:ZWp):Prop:=cP (BEq.beq ((4+a.far:Nat):Int) (6:Int)) sZ sZ
def XF(a:ZWp):Prop:=cP (BEq.beq ((5+a.far+a.sp:Nat):Int) (6:Int)) (cP (BEq.beq a.a.c.now (1:Int)) sZ sZ) sZ
def Fj(x:Unit):Prop:=
 ∃x_1:ZNew,Hd (10<=x_1.n/\x_1.n<=258/\1<=x_1.t/\x_1.t<=4)/\((x_1.n:Int)=10/\(x_1.t:Int)=1/\True)/\True/\ ∀y:DevM,Hd (y.ok/\y.n=x_1.n/\y.st=2/\y.fl=2/\y.fe=1)-> ∃x_2:ZWp,Hd x_2.ok/\(0=0/\(x_2.t:Int)=0/\((2:Int)=2/\x_2.key= @ByteArray.mk (@List.toArray UInt8 [(97:UInt8)])/\x_2.v= @ByteArray.mk (@List.toArray UInt8 [(49:UInt8)])/\ai4)/\True)/\(ownM x_2.a.os=ownM (ZSto.os (newSto x_1.n x_1.t y))/\True)/\(∀y_1:Unit,Hd (goodP (2:Int) x_2.key x_2.v≠(0:Int))-> ∃x_3:ZWp,Hd x_3.ok/\Z4 x_3/\(ownM x_3.a.os=ownM x_2.a.os/\True)/\(∀y_2:Nat,Hd (goodP (1:Int) x_3.key x_3.v≠(0:Int))->sZ)/\(∀y_2:Nat,MV x_3->sZ)/\ ∀y_2:Nat,Z5 x_3->sZ)/\(∀y_1:Unit,Hd (goodP (2:Int) x_2.key x_2.v=0/\ ∀i:Nat,i<x_2.a.p.n->x_2.a.p.cls i≠(-(1:Int))/\x_2.a.p.full x_2.c i)-> ∃x_3:ZWp,Hd x_3.ok/\Z4 x_3/\(ownM x_3.a.os=ownM x_2.a2.os/\True)/\(∀y_2:Nat,Hd (goodP (1:Int) x_3.key x_3.v≠(0:Int))->MW x_2)/\(∀y_2:Nat,MV x_3->MW x_2)/\ ∀y_2:Nat,Z5 x_3->MW x_2)/\ ∀y_1:ZSto,Hd (goodP (2:Int) x_2.key x_2.v=0/\ ∃B': ∀a:ByteArray,ZBlk,PPut x_2 (ZRd.put (x_2.a.r.put x_2.t x_2.a.r.now) x_2.t (0:Int)) y_1 B')-> ∃x_3:ZWp,Hd x_3.ok/\Z4 x_3/\(ownM x_3.a.os=ownM y_1.os/\True)/\(∀y_2:Nat,Hd (goodP (1:Int) x_3.key x_3.v≠(0:Int))->XF x_2)/\(∀y_2:Nat,MV x_3->XF x_2)/\ ∀y_2:Nat,Z5 x_3->cP (BEq.beq ((5+x_2.far+x_2.sp:Nat):Int) (6:Int)) (cP (BEq.beq x_2.a.c.now (1:Int)) (∃y_3:Unit,True/\true=BEq.beq (ByteArray.toList (ZBlk.value (x_3.B x_3.key))) (ByteArray.toList (@ByteArray.mk (@List.toArray UInt8 [(49:UInt8)])))/\
 True) sZ) sZ
theorem Rz(x:Unit):Fj x=wpF Tryz.prog ai3 tt (noA x) 200 6 32 (Ci.args x) (hO 0 []) (λv h'=>eP 0 x v h' Ci.outs):=by kernel_rfl
theorem RD{n:Nat}{c:Int}(hc:0<=c){i k:Nat}(h:(fG n n).takes c i k):i=0/\k=0:=by
 obtain⟨h1,h2,h3,h4⟩:=h;have h1:i<n:=h1;have cl: ∀j,j<n->(fG n n).cls j= -1:=λj hj=>if_pos hj
 rcases h4 with ⟨h4,_⟩|⟨h4,h5,_,h6⟩
 ·rw[cl i h1]at h4;omega
 ·refine⟨?_,h5⟩
  rcases Nat.eq_zero_or_pos i with h|h
  ·exact h
  ·exact absurd (cl 0 (by omega)) (h6 0 h)
theorem Fp{n:Nat}(hn:0<n){c:Int}: ¬ ∀i,i<(fG n n).n->(fG n n).cls i≠ -1/\(fG n n).full c i:=λh=>(h 0 hn).1 (if_pos hn)
theorem eY.new{n T:Nat}{d:DevM}(h:d.ok/\d.n=n/\d.st=2/\d.fl=2/\d.fe=1)(hn:10<=n/\n<=258)(hT:1<=T/\T<=4)(B:ByteArray->ZBlk):eY (newSto n T d) T 10 0 B:={
 dok:=h.1
 dst:=by show d.st<=_;omega
 dfl:=by show d.fl<=_;omega
 dfe:=by show d.fe<=_;omega
 rok:=⟨hT.1,hT.2,show(1:Int)<=1 by decide,show(1:Int)<4611686018427387904 by decide⟩
 rt:=rfl
 cok:=⟨hT.1,hT.2,⟨show(0:Int)<=0+1 by decide,show(0:Int)+1<4611686018427387904 by decide⟩,⟨Int.le_refl 0,show(0:Int)<4611686018427387904 by decide⟩,⟨Int.le_refl 0,show(0:Int)<4611686018427387904 by decide⟩,λ_=>⟨Int.le_refl 0,show(0:Int)<1099511627776 by decide⟩⟩
 ct:=rfl
 ph:=rfl
 OU:=rfl
 pg:=by
  refine⟨⟨by show 1<=(n-2)/8;omega,by show(n-2)/8<=32;omega,λi hi=> ?_⟩,λi hi=> ?_⟩
  ·have hi:i<(n-2)/8:=hi
   show-1<=(if i<(n-2)/8 then(-1:Int)else 0)/\(if i<(n-2)/8 then(-1:Int)else 0)<=3/\(0:Int)<=0/\(0:Int)<=8;rw[if_pos hi];decide
  ·exact⟨λ_ _=>rfl,λk hk=>(nomatch hk),(congrArg Int.ofNat (Qm (λ_=>rfl) 8)).symm⟩
 fit:=by show 2+(n-2)/8*8<=d.n;omega
 bok:=⟨Nat.zero_le _,λ_=>rfl⟩
 lok:=⟨show 0<1099511627776 by decide,aY 0,aY 0,λ_=>rfl,λh=>absurd rfl h⟩
 ln:=rfl
 srt:=List.Pairwise.nil
 len:=aY 0
 id0:=Int.le_refl 0
 id1:=show(0:Int)<=10 by decide
 v0:=Int.le_refl 0
 v1:=show(0:Int)<=10 by decide
 nn:=show 0<=10 by decide
 now0:=show(1:Int)<=0+1 by decide
 asY:=show(0:Int)+1<=10 by decide
 owed:=λ_=>show(0:Int)<=10 by decide
 used:=λK _ hu=>by
  rcases hu with ⟨y,hy,_⟩|⟨i,hi,_⟩
  ·cases hy
  ·exact absurd hi (Nat.not_lt_zero i)
 q:=λy hy=>by cases hy}
theorem Gn(u:Unit):Fj u:=by
 unfold Fj;simp only[ai4,Z4,sZ,MV,Z5,MW,XF];simp only[aZ,aV,aU,aA,aI,bT,bF,aO,aK,ay,aX,aW,bU,bG,bH,bI,bV,bD,bJ,bC,eU,aH,aN,ah,ak,aB,aF,aC,aG];refine⟨⟨10,1⟩,by decide,⟨rfl,rfl⟩,λd hd=> ?_⟩;have g0:=eY.new (n:=10) (T:=1) hd (by decide) (by decide) (λ_=>zBk);refine⟨⟨newSto 10 1 d,1,10,0,λ_=>zBk,0,⟨#[97]⟩,⟨#[49]⟩⟩,⟨g0,by show 0<1;decide,rfl,by show 10<=900000;decide,by show 0<=100;decide⟩,⟨rfl,rfl,rfl⟩,rfl,λh=>absurd (show goodP 2 ⟨#[97]⟩ ⟨#[49]⟩=0 by decide) h,λh=>absurd h.2 (Fp (n:=1) (by decide)),λa' h=> ?_⟩;obtain⟨_,B',g⟩:=h;obtain⟨l,hl,hk⟩:=g.L;obtain⟨b,hb,hv,_⟩:=g.bk;refine⟨⟨a',1,410,1,B',0,⟨#[97]⟩,⟨#[]⟩⟩,⟨g.base,by show 0<1;decide,by show a'.r.has 0=0;rw[g.r];rfl,by show 410<=900000;decide,by show 1<=100;decide⟩,⟨rfl,rfl,rfl⟩,rfl,λ_ h=>absurd (show goodP 1 ⟨#[97]⟩ ⟨#[]⟩=0 by decide) h,λ_ h=> ?_,λ_ h=> ?_⟩
 ·exfalso
  have h:gu a'.L ⟨#[97]⟩=none:=h.2;rw[hl]at h;have:=Zz (l:=l) (s:=⟨#[97]⟩) (show srt (newSto 10 1 d).L from g0.srt);rw[if_pos (show(⟨#[97]⟩:ByteArray)=l.key from hk.symm)]at this;have h':=this.symm.trans h;cases h'
 ·have e0:B' ⟨#[97]⟩=b:=by rw[hb];exact if_pos rfl
  refine bf (λ_=>bf (λ_=> ?_) λh=> ?_) λh=> ?_
  ·show true=((B' ⟨#[97]⟩).value.toList==(⟨#[49]⟩:ByteArray).toList)
   rw[e0,hv];exact(beq_self_eq_true _).symm
  ·exact Bool.noConfusion (show true=false from h)
  ·exact Bool.noConfusion (show true=false from h)
theorem ac2:bZ Tryz.prog 32 Ci:=dQ dF mixed Ry noA 200 6 (λ_=>rfl) (λ_=>rfl) λx _=>Eq.mp (Rz x) (Gn x)
namespace ZPool
def iC(p:ZPool)(i:Nat):Nat->Nat
 |0=>0
 |j+1=>iC p i j+if p.tk i j=true then 1 else 0
def Fq(p:ZPool)(i:Nat):Nat:=if spn (p.cls i)=0 then 0 else(8/spn (p.cls i)).toNat
def cntI(p:ZPool):Nat->Nat
 |0=>0
 |i+1=>cntI p i+iC p i (p.Fq i)
theorem XG(p:ZPool)(i:Nat): ∀j,p.iC i j<=j
 |0=>aY 0
 |j+1=>by have:=XG p i j;unfold iC;split<;>omega
theorem amT(p:ZPool)(i:Nat):p.Fq i<=8:=by
 unfold Fq;have:=dP (p.cls i);rcases this with h|h|h|h|h<;>obtain⟨_,h⟩:=h<;>(try obtain⟨h,_⟩:=h)<;>split<;>simp_all
theorem ai5(p:ZPool): ∀i,p.cntI i<=8*i
 |0=>aY 0
 |i+1=>by have:=ai5 p i;have:=XG p i (p.Fq i);have:=amT p i;unfold cntI;omega
end ZPool
structure iJ where
 i:Nat
 c:Nat
 z:Bool
 f:Nat->List Value
def iJ.row(s:iJ):dB:= .ig s.z 180 (.row 2 s.c s.f [])
noncomputable def an5(p:ZPool):FuncId->qL:=λf=>bif Nat.beq f 40 then(λb fr h=>bif Nat.beq b 0 then [
 {σ:=iJ,fr:=λs=>[(11,i64 s.i),(3,.slV s.z h.next 2 s.c)],ob:=λs=>[(h.next,some s.row)],nx:=1,inv:=λs=>Hd (s.i<=p.n/\s.c=p.cntI s.i/\(s.z=true->s.c=0)),meas:=λs=>p.n-s.i}]else bif Nat.beq b 1010 then [
 {σ:=iJ,fr:=λs=>[(3,.slV s.z h.next 2 s.c)],ob:=λs=>[(uw (SE.look fr 3),none),(h.next,some s.row)],nx:=1,inv:=λs=>Hd (s.c=p.cntI (uw (SE.look fr 11))+p.iC (uw (SE.look fr 11)) (uw (SE.look fr 21)+1)/\(s.z=true->s.c=0)),meas:=λ_=>0}]else [])elseλ_ _ _=>[]
def ai6:Ctr:={X:=iH,args:=λx=>[i64 x.k,i64 x.c],k:=0,os:=λ_=>[],pre:=λx=>Hd (x.k<32/\ -1<=x.c/\x.c<=3),outs:=[
 {Y:=Unit,post:=λx _=>Hd (x.c= -1),ret:=λ_ _=>gZ,m:=0,os:=λ_ _=>[]},
 {Y:=Unit,post:=λx _=>Hd (x.c=0),ret:=λ_ _=> .slW 0 0 1 8,m:=1,os:=λx _=>[.room 3 (yU x 8)]},
 {Y:=Unit,post:=λx _=>Hd (x.c=1),ret:=λ_ _=> .slW 0 0 1 4,m:=1,os:=λx _=>[.room 3 (yU x 4)]},
 {Y:=Unit,post:=λx _=>Hd (x.c=2),ret:=λ_ _=> .slW 0 0 1 2,m:=1,os:=λx _=>[.room 3 (yU x 2)]},
 {Y:=Unit,post:=λx _=>Hd (x.c=3),ret:=λ_ _=> .slW 0 0 1 1,m:=1,os:=λx _=>[.room 3 (yU x 1)]}]}
theorem ai7{X:Type}{x:X}{v:AV}{h':Heap}{o:Out X}{r:List (Out X)}(h:kQ x v h' r):kQ x v h' (o::r):=by
 rw[dU];exact .inr h
theorem ac3:bZ Tryz.prog 73 ai6:=jI λx hx=>by
 obtain⟨k,c⟩:=x;obtain⟨h1,h2,h3⟩:=aZ.1 hx;refine⟨_,OX,rfl,⟨k,c⟩,aZ.2 h1,rfl,rfl,λv h' hh=> ?_⟩;have hc:c= -1\/c=0\/c=1\/c=2\/c=3:=by have h2: -1<=c:=h2;have h3:c<=3:=h3;omega
 have z: ∀q:Int,(spn q=0)-> ¬(spn q≠0):=λ_ h h'=>h' h
 rcases hc with rfl|rfl|rfl|rfl|rfl<;>rcases qx hh with ⟨y,h0,h1,h2⟩|⟨y,h0,h1,h2⟩
 ·exact eX ⟨(),aZ.2 rfl,h1,h2⟩
 ·exact absurd (show spn (-1)=0 from rfl) (aZ.1 h0)
 ·exact absurd (aZ.1 h0) (show¬spn 0=0 by decide)
 ·exact Au ⟨(),aZ.2 rfl,h1,h2⟩
 ·exact absurd (aZ.1 h0) (show¬spn 1=0 by decide)
 ·exact Rx ⟨(),aZ.2 rfl,h1,h2⟩
 ·exact absurd (aZ.1 h0) (show¬spn 2=0 by decide)
 ·exact ai7 (Rx ⟨(),aZ.2 rfl,h1,h2⟩)
 ·exact absurd (aZ.1 h0) (show¬spn 3=0 by decide)
 ·exact ai7 (ai7 (Rx ⟨(),aZ.2 rfl,h1,h2⟩))
noncomputable def RF:jv:={X:=ZPool,args:=λ_=>[.ptr 0 0],k:=1,l:=λp=>[.m p.osW],pre:=λp=>Hd p.ok,outs:=[
 {Y:=Bool×(Nat->List Value),post:=λp y=>Hd (y.1=true->p.cntI p.n=0),ret:=λp y=> .slV y.1 1 2 (p.cntI p.n),m:=2,l:=λp y=>[.m p.osW,.o (.ig y.1 180 (.row 2 (p.cntI p.n) y.2 []))]}]}
noncomputable def Gp(r:Nat):jv:={X:=ZSto,args:=λ_=>[.ptr 0 0],k:=1,l:=λa=>[.m a.os],pre:=λ_=>Hd True,outs:=[{Y:=Unit,post:=λ_ _=>True,ret:=λ_ _=> .ptr r 0,m:=11,l:=λa _=>a.os.map PO.o}]}
def amU:jv:=qA fV (λ_=>[.ptr 0 0]) 1 (λb=>[.m b.osP]) (λb=>Hd b.ok) (λb=>i64 b.n) 1 (λb=>[.m b.osP])
def amV:jv:=qA fV (λ_=>[.ptr 0 0]) 1 (λ_=>[.m fV.osN]) (λb=>Hd b.ok) (λ_=>i64 (0:Nat)) 1 (λ_=>[.m fV.osN])
noncomputable def an6:Ctr:=det fV (λ_=>[.ptr 0 0]) 1 (λb=>[.abs (ownM b.os)]) (λb=>Hd b.ok) (λb=>i64 b.n) 1 (λb=>[.abs (ownM b.os)])
def ai8(a:ZPool):Prop:= ∀q:Nat,q<a.n->[Value.int .i64 (a.cls q),Value.bool (a.tk q 0),Value.bool (a.tk q 1),Value.bool (a.tk q 2),Value.bool (a.tk q 3),Value.bool (a.tk q 4),Value.bool (a.tk q 5),Value.bool (a.tk q 6),Value.bool (a.tk q 7),Value.int .i64 (a.cnt q)]=[Value.int .i64 (a.cls q),Value.bool (a.tk q 0),Value.bool (a.tk q 1),Value.bool (a.tk q 2),Value.bool (a.tk q 3),Value.bool (a.tk q 4),Value.bool (a.tk q 5),Value.bool (a.tk q 6),Value.bool (a.tk q 7),Value.int .i64 (a.cnt q)]
def RG(a:ZPool):Prop:=(a.n=a.n/\ai8 a)/\((0=0/\a.n=a.n/\a.n=a.n)/\True)/\True
def Ir(a:ZPool)(b:Nat):Prop:=(a.cls (0+b)=a.cls (0+b)/\a.tk (0+b) 0=a.tk (0+b) 0/\a.tk (0+b) 1=a.tk (0+b) 1/\a.tk (0+b) 2=a.tk (0+b) 2/\a.tk (0+b) 3=a.tk (0+b) 3/\a.tk (0+b) 4=a.tk (0+b) 4/\a.tk (0+b) 5=a.tk (0+b) 5/\a.tk (0+b) 6=a.tk (0+b) 6/\a.tk (0+b) 7=a.tk (0+b) 7/\a.cnt (0+b)=a.cnt (0+b)/\True)/\RG a
def Aa(a:iH)(b:Nat):Prop:=[Value.int .i64 (2+(a.k:Int)*8+(b:Int)*spn a.c)]=[Value.int .i64 (2+(a.k:Int)*8+(b:Int)*spn a.c)]
def kR(a:iH)(b:ZPool)(c:Nat):Prop:=(8=8/\ ∀q:Nat,q<8->Aa a q)/\Ir b c
def Z7(a:ZSto):Prop:= ∃y:Unit,True/\0=0/\(0=0/\0=0/\0=0/\0=0/\0=0/\0=0/\0=0/\0=0/\a.id=a.id/\a.ver=a.ver/\(Nat.beq a.n 0=Nat.beq a.n 0/\a.n=a.n)/\True)/\(0=0/\(1:Int)=1/\(0:Int)=0/\(0:Int)=0/\True)/\ownM a.d.os=ownM a.d.os/\ownM a.p.os=ownM a.p.os/\ownM a.r.os=ownM a.r.os/\ownM a.ck.os=ownM a.ck.os/\ownM a.b.os=ownM a.b.os/\tabA a.L=tabA a.L/\ordA a.L=ordA a.L/\ownM a.l.os=ownM a.l.os/\(Nat.beq a.n 0=Nat.beq a.n 0/\a.n=a.n/\ ∀q:Nat,q<a.n->[Value.int .i64 (ZEff.kind (a.e q)),Value.string (ZEff.key (a.e q)),Value.string (ZEff.value (a.e q)),Value.int .u64 (ZEff.id (a.e q)),Value.int .u64 (ZEff.ver (a.e q)),Value.int .u64 (ZEff.epoch (a.e q)),Value.int .i64 (ZEff.group (a.e q))]=[Value.int .i64 (ZEff.kind (a.e q)),Value.string (ZEff.key (a.e q)),Value.string (ZEff.value (a.e q)),Value.int .u64 (ZEff.id (a.e q)),Value.int .u64 (ZEff.ver (a.e q)),Value.int .u64 (ZEff.epoch (a.e q)),Value.int .i64 (ZEff.group (a.e q))])/\True
def kM(a:iJ)(b:ZPool)(c:Nat):Prop:=Hd (a.c=b.cntI (uw (AV.lit (Value.int .i64 (c:Int))))+b.iC (uw (AV.lit (Value.int .i64 (c:Int)))) (uw (AV.lit (Value.int .i64 0))+1)/\(a.z=true->a.c=0))
def iK(a:iJ)(b:iJ):Prop:=a.z=b.z/\a.c=b.c/\ ∀q:Nat,q<a.c->Cs.eff a.f [] q=Cs.eff b.f [] q
def oN(a:iJ)(b:ZPool)(c:Nat):Prop:=Hd (a.c=b.cntI (uw (AV.lit (Value.int .i64 (c:Int))))+b.iC (uw (AV.lit (Value.int .i64 (c:Int)))) (uw (AV.lit (Value.int .i64 1))+1)/\(a.z=true->a.c=0))
def qm(a:iH)(b:ZPool)(c:Nat):Prop:=(4=4/\ ∀q:Nat,q<4->Aa a q)/\Ir b c
def Fv(a:iJ)(b:iJ)(c:iH)(d:ZPool):Prop:=a.z=false/\a.c=b.c+List.length [List.take 2 [Value.int .i64 (2+(c.k:Int)*8+0*spn c.c),Value.int .i64 (d.cls (0+b.i))]]/\ ∀q:Nat,q<a.c->Cs.eff a.f [] q=Cs.eff b.f [(b.c,List.take 2 [Value.int .i64 (2+(c.k:Int)*8+0*spn c.c),Value.int .i64 (d.cls (0+b.i))])] q
def vP(a:iJ)(b:ZPool)(c:Nat):Prop:=Hd (a.c=b.cntI (uw (AV.lit (Value.int .i64 (c:Int))))+b.iC (uw (AV.lit (Value.int .i64 (c:Int)))) (uw (AV.lit (Value.int .i64 2))+1)/\(a.z=true->a.c=0))
def vS(a:iJ)(b:ZPool)(c:Nat):Prop:=Hd (a.c=b.cntI (uw (AV.lit (Value.int .i64 (c:Int))))+b.iC (uw (AV.lit (Value.int .i64 (c:Int)))) (uw (AV.lit (Value.int .i64 3))+1)/\(a.z=true->a.c=0))
def Fz(a:iJ)(b:ZPool):Prop:=Hd (a.i<=b.n/\a.c=b.cntI a.i/\(a.z=true->a.c=0))
def iL(a:iJ)(b:iJ):Prop:=(a.z=b.z/\a.c=b.c)/\True
def FB(a:iJ)(b:ZPool)(c:Nat)(d:iJ):Prop:=Fz a b/\b.n-a.i<b.n-c/\((a.i:Int)=(c:Int)+1/\iL a d)/\iK a d/\RG b
def FC(a:iH)(b:ZPool)(c:Nat):Prop:=List.all [List.take 2 [Value.int .i64 (2+(a.k:Int)*8+0*spn a.c),Value.int .i64 (b.cls (0+c))]] (λ(l:List Value)=>Nat.beq (List.length l) 2&&List.all l Value.oneCell')=true
def jh(a:Nat):Prop:=(2*(a+1)+1000)*16<=281474976710656
def ji(a:iJ)(b:Nat):Prop:=(a.z=false/\a.c=b+1)/\True
def MX(a:iH)(b:ZPool)(c:Nat):Prop:=List.all [List.take 2 [Value.int .i64 (2+(a.k:Int)*8+1*spn a.c),Value.int .i64 (b.cls (0+c))]] (λ(l:List Value)=>Nat.beq (List.length l) 2&&List.all l Value.oneCell')=true
def MZ(a:iJ)(b:ZPool)(c:Nat):Prop:=Hd (a.c=b.cntI (uw (AV.lit (Value.int .i64 (c:Int))))+b.iC (uw (AV.lit (Value.int .i64 (c:Int)))) (uw (AV.lit (Value.int .i64 4))+1)/\(a.z=true->a.c=0))
def Na(a:iJ)(b:ZPool)(c:Nat):Prop:=Hd (a.c=b.cntI (uw (AV.lit (Value.int .i64 (c:Int))))+b.iC (uw (AV.lit (Value.int .i64 (c:Int)))) (uw (AV.lit (Value.int .i64 5))+1)/\(a.z=true->a.c=0))
def Nb(a:iJ)(b:ZPool)(c:Nat):Prop:=Hd (a.c=b.cntI (uw (AV.lit (Value.int .i64 (c:Int))))+b.iC (uw (AV.lit (Value.int .i64 (c:Int)))) (uw (AV.lit (Value.int .i64 6))+1)/\(a.z=true->a.c=0))
def Nc(a:iJ)(b:ZPool)(c:Nat):Prop:=Hd (a.c=b.cntI (uw (AV.lit (Value.int .i64 (c:Int))))+b.iC (uw (AV.lit (Value.int .i64 (c:Int)))) (uw (AV.lit (Value.int .i64 7))+1)/\(a.z=true->a.c=0))
def XH(a:iH)(b:ZPool)(c:Nat):Prop:=List.all [List.take 2 [Value.int .i64 (2+(a.k:Int)*8+2*spn a.c),Value.int .i64 (b.cls (0+c))]] (λ(l:List Value)=>Nat.beq (List.length l) 2&&List.all l Value.oneCell')=true
def XI(a:iH)(b:ZPool)(c:Nat):Prop:=List.all [List.take 2 [Value.int .i64 (2+(a.k:Int)*8+3*spn a.c),Value.int .i64 (b.cls (0+c))]] (λ(l:List Value)=>Nat.beq (List.length l) 2&&List.all l Value.oneCell')=true
def Ac:Prop:=(0:Int)<=0/\(0:Int)<=7
def FD(a:iH)(b:ZPool)(c:Nat):Prop:=(2=2/\ ∀q:Nat,q<2->Aa a q)/\Ir b c
def FH:Prop:=(0:Int)<=1/\(0:Int)<=6
def Nh(p:ZPool):Prop:=
 (∃s:iJ,Fz s p/\True/\((s.i:Int)=0/\(s.z=true/\s.c=0)/\True)/\(s.z=true/\s.c=0/\ ∀q:Nat,q<s.c->Cs.eff s.f [] q= @List.nil Value)/\RG p)/\(∀s:iJ,Fz s p->cP (decide ((s.i:Int)<(p.n:Int))) ((0<=(s.i:Int)/\(s.i:Int)<(p.n:Int))/\0+s.i<p.n/\ ∃x:iH,Hd (x.k<32/\(-(1:Int))<=x.c/\x.c<=3)/\((x.k:Int)=(s.i:Int)/\x.c=p.cls (0+s.i)/\True)/\True/\(∀y:Unit,Hd (x.c=(-(1:Int)))->I64 ((s.i:Int)+1)/\ ∃s_1:iJ,Fz s_1 p/\p.n-s_1.i<p.n-s.i/\((s_1.i:Int)=(s.i:Int)+1/\iL s_1 s)/\iK s_1 s/\RG p)/\(∀y:Unit,Hd (x.c=0)->(Ac/\0<8/\Ac/\cP (p.tk (0+s.i) 0) (s.z=s.z/\s.c=s.c/\FC x p s.i/\jh s.c/\ ∃s_1:iJ,kM s_1 p s.i/\True/\ji s_1 s.c/\Fv s_1 s x p/\kR x p s.i) (∃s_1:iJ,kM s_1 p s.i/\True/\iL s_1 s/\iK s_1 s/\kR x p s.i))/\(∀s_1:iJ,kM s_1 p s.i->I64 (1:Int)/\(FH/\1<8/\FH/\cP (p.tk (0+s.i) 1) (s_1.z=s_1.z/\s_1.c=s_1.c/\MX x p s.i/\jh s_1.c/\ ∃s_2:iJ,oN s_2 p s.i/\True/\ji s_2 s_1.c/\(s_2.z=false/\s_2.c=s_1.c+List.length [List.take 2 [Value.int .i64 (2+(x.k:Int)*8+1*spn x.c),Value.int .i64 (p.cls (0+s.i))]]/\ ∀q:Nat,q<s_2.c->Cs.eff s_2.f [] q=Cs.eff s_1.f [(s_1.c,List.take 2 [Value.int .i64 (2+(x.k:Int)*8+1*spn x.c),Value.int .i64 (p.cls (0+s.i))])] q)/\kR x p s.i) (∃s_2:iJ,oN s_2 p s.i/\True/\iL s_2 s_1/\iK s_2 s_1/\kR x p s.i))/\(∀s_2:iJ,oN s_2 p s.i->I64 (2:Int)/\(((0:Int)<=2/\(0:Int)<=5)/\2<8/\((0:Int)<=2/\(0:Int)<=5)/\cP (p.tk (0+s.i) 2) (s_2.z=s_2.z/\
 s_2.c=s_2.c/\XH x p s.i/\jh s_2.c/\ ∃s_3:iJ,vP s_3 p s.i/\True/\ji s_3 s_2.c/\(s_3.z=false/\s_3.c=s_2.c+List.length [List.take 2 [Value.int .i64 (2+(x.k:Int)*8+2*spn x.c),Value.int .i64 (p.cls (0+s.i))]]/\ ∀q:Nat,q<s_3.c->Cs.eff s_3.f [] q=Cs.eff s_2.f [(s_2.c,List.take 2 [Value.int .i64 (2+(x.k:Int)*8+2*spn x.c),Value.int .i64 (p.cls (0+s.i))])] q)/\kR x p s.i) (∃s_3:iJ,vP s_3 p s.i/\True/\iL s_3 s_2/\iK s_3 s_2/\kR x p s.i))/\(∀s_3:iJ,vP s_3 p s.i->I64 (3:Int)/\(((0:Int)<=3/\(0:Int)<=4)/\3<8/\((0:Int)<=3/\(0:Int)<=4)/\cP (p.tk (0+s.i) 3) (s_3.z=s_3.z/\s_3.c=s_3.c/\XI x p s.i/\jh s_3.c/\ ∃s_4:iJ,vS s_4 p s.i/\True/\ji s_4 s_3.c/\(s_4.z=false/\s_4.c=s_3.c+List.length [List.take 2 [Value.int .i64 (2+(x.k:Int)*8+3*spn x.c),Value.int .i64 (p.cls (0+s.i))]]/\ ∀q:Nat,q<s_4.c->Cs.eff s_4.f [] q=Cs.eff s_3.f [(s_3.c,List.take 2 [Value.int .i64 (2+(x.k:Int)*8+3*spn x.c),Value.int .i64 (p.cls (0+s.i))])] q)/\kR x p s.i) (∃s_4:iJ,vS s_4 p s.i/\True/\iL s_4 s_3/\iK s_4 s_3/\kR x p s.i))/\(∀s_4:iJ,vS s_4 p s.i->I64 (4:Int)/\(((0:Int)<=4/\(0:Int)<=3)/\4<8/\((0:Int)<=4/\(0:Int)<=3)/\cP (p.tk (0+s.i) 4) (s_4.z=s_4.z/\s_4.c=s_4.c/\List.all [List.take 2 [Value.int .i64 (2+(x.k:Int)*8+4*spn x.c),Value.int .i64 (p.cls (0+s.i))]] (λ(l:List Value)=>Nat.beq (List.length l) 2&&List.all l Value.oneCell')=true/\jh s_4.c/\ ∃s_5:iJ,MZ s_5 p s.i/\True/\ji s_5 s_4.c/\(s_5.z=false/\
 s_5.c=s_4.c+List.length [List.take 2 [Value.int .i64 (2+(x.k:Int)*8+4*spn x.c),Value.int .i64 (p.cls (0+s.i))]]/\ ∀q:Nat,q<s_5.c->Cs.eff s_5.f [] q=Cs.eff s_4.f [(s_4.c,List.take 2 [Value.int .i64 (2+(x.k:Int)*8+4*spn x.c),Value.int .i64 (p.cls (0+s.i))])] q)/\kR x p s.i) (∃s_5:iJ,MZ s_5 p s.i/\True/\iL s_5 s_4/\iK s_5 s_4/\kR x p s.i))/\(∀s_5:iJ,MZ s_5 p s.i->I64 (5:Int)/\(((0:Int)<=5/\(0:Int)<=2)/\5<8/\((0:Int)<=5/\(0:Int)<=2)/\cP (p.tk (0+s.i) 5) (s_5.z=s_5.z/\s_5.c=s_5.c/\List.all [List.take 2 [Value.int .i64 (2+(x.k:Int)*8+5*spn x.c),Value.int .i64 (p.cls (0+s.i))]] (λ(l:List Value)=>Nat.beq (List.length l) 2&&List.all l Value.oneCell')=true/\jh s_5.c/\ ∃s_6:iJ,Na s_6 p s.i/\True/\ji s_6 s_5.c/\(s_6.z=false/\s_6.c=s_5.c+List.length [List.take 2 [Value.int .i64 (2+(x.k:Int)*8+5*spn x.c),Value.int .i64 (p.cls (0+s.i))]]/\ ∀q:Nat,q<s_6.c->Cs.eff s_6.f [] q=Cs.eff s_5.f [(s_5.c,List.take 2 [Value.int .i64 (2+(x.k:Int)*8+5*spn x.c),Value.int .i64 (p.cls (0+s.i))])] q)/\kR x p s.i) (∃s_6:iJ,Na s_6 p s.i/\True/\iL s_6 s_5/\iK s_6 s_5/\kR x p s.i))/\(∀s_6:iJ,Na s_6 p s.i->I64 (6:Int)/\(((0:Int)<=6/\(0:Int)<=1)/\6<8/\((0:Int)<=6/\(0:Int)<=1)/\cP (p.tk (0+s.i) 6) (s_6.z=s_6.z/\s_6.c=s_6.c/\List.all [List.take 2 [Value.int .i64 (2+(x.k:Int)*8+6*spn x.c),Value.int .i64 (p.cls (0+s.i))]] (λ(l:List Value)=>Nat.beq (List.length l) 2&&List.all l Value.oneCell')=true/\jh s_6.c/\ ∃s_7:iJ,Nb s_7 p s.i/\True/\ji s_7 s_6.c/\(s_7.z=false/\
 s_7.c=s_6.c+List.length [List.take 2 [Value.int .i64 (2+(x.k:Int)*8+6*spn x.c),Value.int .i64 (p.cls (0+s.i))]]/\ ∀q:Nat,q<s_7.c->Cs.eff s_7.f [] q=Cs.eff s_6.f [(s_6.c,List.take 2 [Value.int .i64 (2+(x.k:Int)*8+6*spn x.c),Value.int .i64 (p.cls (0+s.i))])] q)/\kR x p s.i) (∃s_7:iJ,Nb s_7 p s.i/\True/\iL s_7 s_6/\iK s_7 s_6/\kR x p s.i))/\(∀s_7:iJ,Nb s_7 p s.i->I64 (7:Int)/\(((0:Int)<=7/\(0:Int)<=0)/\7<8/\((0:Int)<=7/\(0:Int)<=0)/\cP (p.tk (0+s.i) 7) (s_7.z=s_7.z/\s_7.c=s_7.c/\List.all [List.take 2 [Value.int .i64 (2+(x.k:Int)*8+7*spn x.c),Value.int .i64 (p.cls (0+s.i))]] (λ(l:List Value)=>Nat.beq (List.length l) 2&&List.all l Value.oneCell')=true/\jh s_7.c/\ ∃s_8:iJ,Nc s_8 p s.i/\True/\ji s_8 s_7.c/\(s_8.z=false/\s_8.c=s_7.c+List.length [List.take 2 [Value.int .i64 (2+(x.k:Int)*8+7*spn x.c),Value.int .i64 (p.cls (0+s.i))]]/\ ∀q:Nat,q<s_8.c->Cs.eff s_8.f [] q=Cs.eff s_7.f [(s_7.c,List.take 2 [Value.int .i64 (2+(x.k:Int)*8+7*spn x.c),Value.int .i64 (p.cls (0+s.i))])] q)/\kR x p s.i) (∃s_8:iJ,Nc s_8 p s.i/\True/\iL s_8 s_7/\iK s_8 s_7/\kR x p s.i))/\(∀s_8:iJ,Nc s_8 p s.i->I64 (8:Int)/\I64 ((s.i:Int)+1)/\ ∃s_9:iJ,FB s_9 p s.i s_8)/\True)/\True)/\True)/\True)/\True)/\True)/\True)/\True)/\(∀y:Unit,Hd (x.c=1)->(((0:Int)<=0/\(0:Int)<=3)/\0<4/\Ac/\cP (p.tk (0+s.i) 0) (s.z=s.z/\s.c=s.c/\FC x p s.i/\jh s.c/\ ∃s_1:iJ,kM s_1 p s.i/\True/\ji s_1 s.c/\Fv s_1 s x p/\qm x p s.i) (∃s_1:iJ,kM s_1 p s.i/\True/\iL s_1 s/\
 iK s_1 s/\qm x p s.i))/\(∀s_1:iJ,kM s_1 p s.i->I64 (1:Int)/\(((0:Int)<=1/\(0:Int)<=2)/\1<4/\FH/\cP (p.tk (0+s.i) 1) (s_1.z=s_1.z/\s_1.c=s_1.c/\MX x p s.i/\jh s_1.c/\ ∃s_2:iJ,oN s_2 p s.i/\True/\ji s_2 s_1.c/\(s_2.z=false/\s_2.c=s_1.c+List.length [List.take 2 [Value.int .i64 (2+(x.k:Int)*8+1*spn x.c),Value.int .i64 (p.cls (0+s.i))]]/\ ∀q:Nat,q<s_2.c->Cs.eff s_2.f [] q=Cs.eff s_1.f [(s_1.c,List.take 2 [Value.int .i64 (2+(x.k:Int)*8+1*spn x.c),Value.int .i64 (p.cls (0+s.i))])] q)/\qm x p s.i) (∃s_2:iJ,oN s_2 p s.i/\True/\iL s_2 s_1/\iK s_2 s_1/\qm x p s.i))/\(∀s_2:iJ,oN s_2 p s.i->I64 (2:Int)/\(((0:Int)<=2/\(0:Int)<=1)/\2<4/\((0:Int)<=2/\(0:Int)<=5)/\cP (p.tk (0+s.i) 2) (s_2.z=s_2.z/\s_2.c=s_2.c/\XH x p s.i/\jh s_2.c/\ ∃s_3:iJ,vP s_3 p s.i/\True/\ji s_3 s_2.c/\(s_3.z=false/\s_3.c=s_2.c+List.length [List.take 2 [Value.int .i64 (2+(x.k:Int)*8+2*spn x.c),Value.int .i64 (p.cls (0+s.i))]]/\ ∀q:Nat,q<s_3.c->Cs.eff s_3.f [] q=Cs.eff s_2.f [(s_2.c,List.take 2 [Value.int .i64 (2+(x.k:Int)*8+2*spn x.c),Value.int .i64 (p.cls (0+s.i))])] q)/\qm x p s.i) (∃s_3:iJ,vP s_3 p s.i/\True/\iL s_3 s_2/\iK s_3 s_2/\qm x p s.i))/\(∀s_3:iJ,vP s_3 p s.i->I64 (3:Int)/\(((0:Int)<=3/\(0:Int)<=0)/\3<4/\((0:Int)<=3/\(0:Int)<=4)/\cP (p.tk (0+s.i) 3) (s_3.z=s_3.z/\s_3.c=s_3.c/\XI x p s.i/\jh s_3.c/\ ∃s_4:iJ,vS s_4 p s.i/\True/\ji s_4 s_3.c/\(s_4.z=false/\
 s_4.c=s_3.c+List.length [List.take 2 [Value.int .i64 (2+(x.k:Int)*8+3*spn x.c),Value.int .i64 (p.cls (0+s.i))]]/\ ∀q:Nat,q<s_4.c->Cs.eff s_4.f [] q=Cs.eff s_3.f [(s_3.c,List.take 2 [Value.int .i64 (2+(x.k:Int)*8+3*spn x.c),Value.int .i64 (p.cls (0+s.i))])] q)/\qm x p s.i) (∃s_4:iJ,vS s_4 p s.i/\True/\iL s_4 s_3/\iK s_4 s_3/\qm x p s.i))/\(∀s_4:iJ,vS s_4 p s.i->I64 (4:Int)/\I64 ((s.i:Int)+1)/\ ∃s_5:iJ,FB s_5 p s.i s_4)/\True)/\True)/\True)/\True)/\(∀y:Unit,Hd (x.c=2)->(((0:Int)<=0/\(0:Int)<=1)/\0<2/\Ac/\cP (p.tk (0+s.i) 0) (s.z=s.z/\s.c=s.c/\FC x p s.i/\jh s.c/\ ∃s_1:iJ,kM s_1 p s.i/\True/\ji s_1 s.c/\Fv s_1 s x p/\FD x p s.i) (∃s_1:iJ,kM s_1 p s.i/\True/\iL s_1 s/\iK s_1 s/\FD x p s.i))/\(∀s_1:iJ,kM s_1 p s.i->I64 (1:Int)/\(((0:Int)<=1/\(0:Int)<=0)/\1<2/\FH/\cP (p.tk (0+s.i) 1) (s_1.z=s_1.z/\s_1.c=s_1.c/\MX x p s.i/\jh s_1.c/\ ∃s_2:iJ,oN s_2 p s.i/\True/\ji s_2 s_1.c/\(s_2.z=false/\s_2.c=s_1.c+List.length [List.take 2 [Value.int .i64 (2+(x.k:Int)*8+1*spn x.c),Value.int .i64 (p.cls (0+s.i))]]/\ ∀q:Nat,q<s_2.c->Cs.eff s_2.f [] q=Cs.eff s_1.f [(s_1.c,List.take 2 [Value.int .i64 (2+(x.k:Int)*8+1*spn x.c),Value.int .i64 (p.cls (0+s.i))])] q)/\FD x p s.i) (∃s_2:iJ,oN s_2 p s.i/\True/\iL s_2 s_1/\iK s_2 s_1/\FD x p s.i))/\(∀s_2:iJ,oN s_2 p s.i->I64 (2:Int)/\I64 ((s.i:Int)+1)/\ ∃s_3:iJ,FB s_3 p s.i s_2)/\True)/\True)/\ ∀y:Unit,Hd (x.c=3)->(((0:Int)<=0/\(0:Int)<=0)/\
 0<1/\Ac/\cP (p.tk (0+s.i) 0) (s.z=s.z/\s.c=s.c/\FC x p s.i/\jh s.c/\ ∃s_1:iJ,kM s_1 p s.i/\True/\ji s_1 s.c/\Fv s_1 s x p/\(1=1/\ ∀q:Nat,q<1->Aa x q)/\Ir p s.i) (∃s_1:iJ,kM s_1 p s.i/\True/\iL s_1 s/\iK s_1 s/\(1=1/\ ∀q:Nat,q<1->Aa x q)/\Ir p s.i))/\(∀s_1:iJ,kM s_1 p s.i->I64 (1:Int)/\I64 ((s.i:Int)+1)/\ ∃s_2:iJ,FB s_2 p s.i s_1)/\True) (∃y:Prod Bool (∀a:Nat,List Value),Hd (y.1=true->p.cntI p.n=0)/\(y.1=s.z/\p.cntI p.n=s.c)/\((0=0/\p.n=p.n/\p.n=p.n)/\True)/\(y.1=s.z/\p.cntI p.n=s.c/\ ∀q:Nat,q<p.cntI p.n->Cs.eff y.2 [] q=Cs.eff s.f [] q)/\(p.n=p.n/\ai8 p)/\True))/\True
theorem XJ(p:ZPool):Nh p=wpF Tryz.prog [(73,ctrT ai6)] tt (an5 p) 200 6 40 (RF.args p) (hO 2 (flatP 1 (RF.l p))) (λv h'=>endsPK 1 p v h' RF.outs):=by kernel_rfl
def Nj(a:ZSto):Prop:=
 Z7 a
theorem XK(a:ZSto):Nj a=wpF Tryz.prog [] tt (noA a) 200 6 39 ((Gp 3).args a) (hO 11 (flatP 1 ((Gp 3).l a))) (λv h'=>endsPK 1 a v h' (Gp 3).outs):=by kernel_rfl
def Z8(a:ZSto):Prop:=
 Z7 a
def Z9(a:ZSto):Prop:=
 Z7 a
def Nk(a:ZSto):Prop:=
 Z7 a
theorem XL(a:ZSto):Nk a=wpF Tryz.prog [] tt (noA a) 200 6 41 ((Gp 6).args a) (hO 11 (flatP 1 ((Gp 6).l a))) (λv h'=>endsPK 1 a v h' (Gp 6).outs):=by kernel_rfl
def XM(b:fV):Prop:=
 ∃y:Unit,True/\(b.n:Int)=(b.n:Int)/\((0=0/\b.n=b.n)/\True)/\(b.n=b.n/\ ∀q:Nat,q<b.n->[Value.int .i64 (gI.line (b.e q)),Value.int .i64 (gI.cls (b.e q)),Value.int .u64 (gI.r (b.e q)),Value.int .u64 (gI.d (b.e q)),Value.int .i64 (gI.anti (b.e q))]=[Value.int .i64 (gI.line (b.e q)),Value.int .i64 (gI.cls (b.e q)),Value.int .u64 (gI.r (b.e q)),Value.int .u64 (gI.d (b.e q)),Value.int .i64 (gI.anti (b.e q))])/\True
theorem ac4(b:fV):XM b=wpF Tryz.prog [] tt (noA b) 200 6 42 (amU.args b) (hO 2 (flatP 1 (amU.l b))) (λv h'=>endsPK 1 b v h' amU.outs):=by kernel_rfl
def XO(b:fV):Prop:=
 ∃y:Unit,True/\(0:Int)=0/\(Value.slice none 0 0=Value.slice none 0 0/\True)/\True
theorem ac5(b:fV):XO b=wpF Tryz.prog [] tt (noA b) 200 6 42 (amV.args b) (hO 1 (flatP 1 (amV.l b))) (λv h'=>endsPK 1 b v h' amV.outs):=by kernel_rfl
theorem Nl(p:ZPool)(hp:p.ok):Nh p:=by
 obtain⟨h1,h2,h3⟩:=hp;unfold Nh;simp only[Fz,RG,iL,iK,Ac,FC,jh,kM,ji,Fv,kR,FH,MX,oN,XH,vP,XI,vS,MZ,Na,Nb,Nc,FB,qm,FD,Aa,Ir,ai8];simp only[aZ,aV,aU,aA,aI,bT,bF,aO,aK,ay,aX,aW,bU,bG,bH,bI,bV,bD,bJ,bC,eU,aH,aN,ah,ak,aB,aF,aC,aG];refine⟨⟨⟨0,0,true,λ_=>[]⟩,⟨Nat.zero_le _,rfl,λ_=>rfl⟩,⟨rfl,rfl,rfl⟩,rfl,rfl,λ_ _=>rfl⟩,λs hs=>bf (λh=> ?_) λh=> ?_⟩
 ·obtain⟨i1,i2,i3⟩:=hs
  have hi:s.i<p.n:=by have:=aS h;omega
  obtain⟨c1,c2,_⟩:=h3 s.i hi;have bi:=ZPool.ai5 p s.i;have bd: ∀j,j<=8->p.cntI s.i+p.iC s.i j<=300:=λj hj=>by have:=ZPool.XG p s.i j;omega
  have z0:=i3;have k0:s.c=p.cntI s.i+p.iC s.i 0:=i2;have done: ∀(t:iJ) (m:Nat),p.Fq s.i=m->t.c=p.cntI s.i+p.iC s.i m->t.c=p.cntI (s.i+1):=λt m e h=>by
   show t.c=p.cntI s.i+p.iC s.i (p.Fq s.i);rw[e];exact h
  refine⟨⟨by omega,by omega⟩,by omega,⟨s.i,p.cls s.i⟩,⟨by show s.i<32;omega,c1,c2⟩,⟨rfl,rfl⟩,λhc=> ?_,λhc=> ?_,λhc=> ?_,λhc=> ?_,λhc=> ?_⟩
  ·have hc:p.cls s.i= -1:=hc
   exact⟨by unfold I64;omega,⟨s.i+1,s.c,s.z,s.f⟩,⟨by show s.i+1<=p.n;omega,done s 0 (by unfold ZPool.Fq;rw[hc];rfl) k0,z0⟩,by show p.n-(s.i+1)<_;omega,⟨by show((s.i+1:Nat):Int)=_;omega,rfl,rfl⟩,rfl,rfl,λ_ _=>rfl⟩
  ·have hc:p.cls s.i=0:=hc
   refine⟨⟨by decide,by decide,by decide,bf (λh=>⟨rfl,by have:=bd 0 (by decide);omega,⟨0,s.c+1,false,_⟩,⟨?_,λh=>by cases h⟩,⟨rfl,rfl⟩,rfl,rfl,λ_ _=>rfl⟩) λh=>⟨⟨0,s.c,s.z,s.f⟩,⟨?_,z0⟩,⟨rfl,rfl⟩,rfl,rfl,λ_ _=>rfl⟩⟩,λt1 h1=>⟨by unfold I64;decide,?_⟩⟩
   ·show s.c+1=p.cntI s.i+(p.iC s.i 0+if p.tk s.i 0=true then 1 else 0)
    rw[if_pos h];omega
   ·show s.c=p.cntI s.i+(p.iC s.i 0+if p.tk s.i 0=true then 1 else 0)
    rw[h];show s.c=p.cntI s.i+(p.iC s.i 0+0);omega
   obtain⟨k1,z1⟩:=h1;have k1:t1.c=p.cntI s.i+p.iC s.i 1:=k1;refine⟨⟨by decide,by decide,by decide,bf (λh=>⟨rfl,by have:=bd 1 (by decide);omega,⟨0,t1.c+1,false,_⟩,⟨?_,λh=>by cases h⟩,⟨rfl,rfl⟩,rfl,rfl,λ_ _=>rfl⟩) λh=>⟨⟨0,t1.c,t1.z,t1.f⟩,⟨?_,z1⟩,⟨rfl,rfl⟩,rfl,rfl,λ_ _=>rfl⟩⟩,λt2 h2=>⟨by unfold I64;decide,?_⟩⟩
   ·show t1.c+1=p.cntI s.i+(p.iC s.i 1+if p.tk s.i 1=true then 1 else 0)
    rw[if_pos h];omega
   ·show t1.c=p.cntI s.i+(p.iC s.i 1+if p.tk s.i 1=true then 1 else 0)
    rw[h];show t1.c=p.cntI s.i+(p.iC s.i 1+0);omega
   obtain⟨k2,z2⟩:=h2;have k2:t2.c=p.cntI s.i+p.iC s.i 2:=k2;refine⟨⟨by decide,by decide,by decide,bf (λh=>⟨rfl,by have:=bd 2 (by decide);omega,⟨0,t2.c+1,false,_⟩,⟨?_,λh=>by cases h⟩,⟨rfl,rfl⟩,rfl,rfl,λ_ _=>rfl⟩) λh=>⟨⟨0,t2.c,t2.z,t2.f⟩,⟨?_,z2⟩,⟨rfl,rfl⟩,rfl,rfl,λ_ _=>rfl⟩⟩,λt3 h3=>⟨by unfold I64;decide,?_⟩⟩
   ·show t2.c+1=p.cntI s.i+(p.iC s.i 2+if p.tk s.i 2=true then 1 else 0)
    rw[if_pos h];omega
   ·show t2.c=p.cntI s.i+(p.iC s.i 2+if p.tk s.i 2=true then 1 else 0)
    rw[h];show t2.c=p.cntI s.i+(p.iC s.i 2+0);omega
   obtain⟨k3,z3⟩:=h3;have k3:t3.c=p.cntI s.i+p.iC s.i 3:=k3;refine⟨⟨by decide,by decide,by decide,bf (λh=>⟨rfl,by have:=bd 3 (by decide);omega,⟨0,t3.c+1,false,_⟩,⟨?_,λh=>by cases h⟩,⟨rfl,rfl⟩,rfl,rfl,λ_ _=>rfl⟩) λh=>⟨⟨0,t3.c,t3.z,t3.f⟩,⟨?_,z3⟩,⟨rfl,rfl⟩,rfl,rfl,λ_ _=>rfl⟩⟩,λt4 h4=>⟨by unfold I64;decide,?_⟩⟩
   ·show t3.c+1=p.cntI s.i+(p.iC s.i 3+if p.tk s.i 3=true then 1 else 0)
    rw[if_pos h];omega
   ·show t3.c=p.cntI s.i+(p.iC s.i 3+if p.tk s.i 3=true then 1 else 0)
    rw[h];show t3.c=p.cntI s.i+(p.iC s.i 3+0);omega
   obtain⟨k4,z4⟩:=h4;have k4:t4.c=p.cntI s.i+p.iC s.i 4:=k4;refine⟨⟨by decide,by decide,by decide,bf (λh=>⟨rfl,by have:=bd 4 (by decide);omega,⟨0,t4.c+1,false,_⟩,⟨?_,λh=>by cases h⟩,⟨rfl,rfl⟩,rfl,rfl,λ_ _=>rfl⟩) λh=>⟨⟨0,t4.c,t4.z,t4.f⟩,⟨?_,z4⟩,⟨rfl,rfl⟩,rfl,rfl,λ_ _=>rfl⟩⟩,λt5 h5=>⟨by unfold I64;decide,?_⟩⟩
   ·show t4.c+1=p.cntI s.i+(p.iC s.i 4+if p.tk s.i 4=true then 1 else 0)
    rw[if_pos h];omega
   ·show t4.c=p.cntI s.i+(p.iC s.i 4+if p.tk s.i 4=true then 1 else 0)
    rw[h];show t4.c=p.cntI s.i+(p.iC s.i 4+0);omega
   obtain⟨k5,z5⟩:=h5;have k5:t5.c=p.cntI s.i+p.iC s.i 5:=k5;refine⟨⟨by decide,by decide,by decide,bf (λh=>⟨rfl,by have:=bd 5 (by decide);omega,⟨0,t5.c+1,false,_⟩,⟨?_,λh=>by cases h⟩,⟨rfl,rfl⟩,rfl,rfl,λ_ _=>rfl⟩) λh=>⟨⟨0,t5.c,t5.z,t5.f⟩,⟨?_,z5⟩,⟨rfl,rfl⟩,rfl,rfl,λ_ _=>rfl⟩⟩,λt6 h6=>⟨by unfold I64;decide,?_⟩⟩
   ·show t5.c+1=p.cntI s.i+(p.iC s.i 5+if p.tk s.i 5=true then 1 else 0)
    rw[if_pos h];omega
   ·show t5.c=p.cntI s.i+(p.iC s.i 5+if p.tk s.i 5=true then 1 else 0)
    rw[h];show t5.c=p.cntI s.i+(p.iC s.i 5+0);omega
   obtain⟨k6,z6⟩:=h6;have k6:t6.c=p.cntI s.i+p.iC s.i 6:=k6;refine⟨⟨by decide,by decide,by decide,bf (λh=>⟨rfl,by have:=bd 6 (by decide);omega,⟨0,t6.c+1,false,_⟩,⟨?_,λh=>by cases h⟩,⟨rfl,rfl⟩,rfl,rfl,λ_ _=>rfl⟩) λh=>⟨⟨0,t6.c,t6.z,t6.f⟩,⟨?_,z6⟩,⟨rfl,rfl⟩,rfl,rfl,λ_ _=>rfl⟩⟩,λt7 h7=>⟨by unfold I64;decide,?_⟩⟩
   ·show t6.c+1=p.cntI s.i+(p.iC s.i 6+if p.tk s.i 6=true then 1 else 0)
    rw[if_pos h];omega
   ·show t6.c=p.cntI s.i+(p.iC s.i 6+if p.tk s.i 6=true then 1 else 0)
    rw[h];show t6.c=p.cntI s.i+(p.iC s.i 6+0);omega
   obtain⟨k7,z7⟩:=h7;have k7:t7.c=p.cntI s.i+p.iC s.i 7:=k7;refine⟨⟨by decide,by decide,by decide,bf (λh=>⟨rfl,by have:=bd 7 (by decide);omega,⟨0,t7.c+1,false,_⟩,⟨?_,λh=>by cases h⟩,⟨rfl,rfl⟩,rfl,rfl,λ_ _=>rfl⟩) λh=>⟨⟨0,t7.c,t7.z,t7.f⟩,⟨?_,z7⟩,⟨rfl,rfl⟩,rfl,rfl,λ_ _=>rfl⟩⟩,λt8 h8=>⟨by unfold I64;decide,?_⟩⟩
   ·show t7.c+1=p.cntI s.i+(p.iC s.i 7+if p.tk s.i 7=true then 1 else 0)
    rw[if_pos h];omega
   ·show t7.c=p.cntI s.i+(p.iC s.i 7+if p.tk s.i 7=true then 1 else 0)
    rw[h];show t7.c=p.cntI s.i+(p.iC s.i 7+0);omega
   obtain⟨k8,z8⟩:=h8;have k8:t8.c=p.cntI s.i+p.iC s.i 8:=k8;exact⟨by unfold I64;omega,⟨s.i+1,t8.c,t8.z,t8.f⟩,⟨by show s.i+1<=p.n;omega,done t8 8 (by unfold ZPool.Fq;rw[hc];rfl) k8,z8⟩,by show p.n-(s.i+1)<_;omega,⟨by show((s.i+1:Nat):Int)=_;omega,rfl,rfl⟩,rfl,rfl,λ_ _=>rfl⟩
  ·have hc:p.cls s.i=1:=hc
   refine⟨⟨by decide,by decide,by decide,bf (λh=>⟨rfl,by have:=bd 0 (by decide);omega,⟨0,s.c+1,false,_⟩,⟨?_,λh=>by cases h⟩,⟨rfl,rfl⟩,rfl,rfl,λ_ _=>rfl⟩) λh=>⟨⟨0,s.c,s.z,s.f⟩,⟨?_,z0⟩,⟨rfl,rfl⟩,rfl,rfl,λ_ _=>rfl⟩⟩,λt1 h1=>⟨by unfold I64;decide,?_⟩⟩
   ·show s.c+1=p.cntI s.i+(p.iC s.i 0+if p.tk s.i 0=true then 1 else 0)
    rw[if_pos h];omega
   ·show s.c=p.cntI s.i+(p.iC s.i 0+if p.tk s.i 0=true then 1 else 0)
    rw[h];show s.c=p.cntI s.i+(p.iC s.i 0+0);omega
   obtain⟨k1,z1⟩:=h1;have k1:t1.c=p.cntI s.i+p.iC s.i 1:=k1;refine⟨⟨by decide,by decide,by decide,bf (λh=>⟨rfl,by have:=bd 1 (by decide);omega,⟨0,t1.c+1,false,_⟩,⟨?_,λh=>by cases h⟩,⟨rfl,rfl⟩,rfl,rfl,λ_ _=>rfl⟩) λh=>⟨⟨0,t1.c,t1.z,t1.f⟩,⟨?_,z1⟩,⟨rfl,rfl⟩,rfl,rfl,λ_ _=>rfl⟩⟩,λt2 h2=>⟨by unfold I64;decide,?_⟩⟩
   ·show t1.c+1=p.cntI s.i+(p.iC s.i 1+if p.tk s.i 1=true then 1 else 0)
    rw[if_pos h];omega
   ·show t1.c=p.cntI s.i+(p.iC s.i 1+if p.tk s.i 1=true then 1 else 0)
    rw[h];show t1.c=p.cntI s.i+(p.iC s.i 1+0);omega
   obtain⟨k2,z2⟩:=h2;have k2:t2.c=p.cntI s.i+p.iC s.i 2:=k2;refine⟨⟨by decide,by decide,by decide,bf (λh=>⟨rfl,by have:=bd 2 (by decide);omega,⟨0,t2.c+1,false,_⟩,⟨?_,λh=>by cases h⟩,⟨rfl,rfl⟩,rfl,rfl,λ_ _=>rfl⟩) λh=>⟨⟨0,t2.c,t2.z,t2.f⟩,⟨?_,z2⟩,⟨rfl,rfl⟩,rfl,rfl,λ_ _=>rfl⟩⟩,λt3 h3=>⟨by unfold I64;decide,?_⟩⟩
   ·show t2.c+1=p.cntI s.i+(p.iC s.i 2+if p.tk s.i 2=true then 1 else 0)
    rw[if_pos h];omega
   ·show t2.c=p.cntI s.i+(p.iC s.i 2+if p.tk s.i 2=true then 1 else 0)
    rw[h];show t2.c=p.cntI s.i+(p.iC s.i 2+0);omega
   obtain⟨k3,z3⟩:=h3;have k3:t3.c=p.cntI s.i+p.iC s.i 3:=k3;refine⟨⟨by decide,by decide,by decide,bf (λh=>⟨rfl,by have:=bd 3 (by decide);omega,⟨0,t3.c+1,false,_⟩,⟨?_,λh=>by cases h⟩,⟨rfl,rfl⟩,rfl,rfl,λ_ _=>rfl⟩) λh=>⟨⟨0,t3.c,t3.z,t3.f⟩,⟨?_,z3⟩,⟨rfl,rfl⟩,rfl,rfl,λ_ _=>rfl⟩⟩,λt4 h4=>⟨by unfold I64;decide,?_⟩⟩
   ·show t3.c+1=p.cntI s.i+(p.iC s.i 3+if p.tk s.i 3=true then 1 else 0)
    rw[if_pos h];omega
   ·show t3.c=p.cntI s.i+(p.iC s.i 3+if p.tk s.i 3=true then 1 else 0)
    rw[h];show t3.c=p.cntI s.i+(p.iC s.i 3+0);omega
   obtain⟨k4,z4⟩:=h4;have k4:t4.c=p.cntI s.i+p.iC s.i 4:=k4;exact⟨by unfold I64;omega,⟨s.i+1,t4.c,t4.z,t4.f⟩,⟨by show s.i+1<=p.n;omega,done t4 4 (by unfold ZPool.Fq;rw[hc];rfl) k4,z4⟩,by show p.n-(s.i+1)<_;omega,⟨by show((s.i+1:Nat):Int)=_;omega,rfl,rfl⟩,rfl,rfl,λ_ _=>rfl⟩
  ·have hc:p.cls s.i=2:=hc
   refine⟨⟨by decide,by decide,by decide,bf (λh=>⟨rfl,by have:=bd 0 (by decide);omega,⟨0,s.c+1,false,_⟩,⟨?_,λh=>by cases h⟩,⟨rfl,rfl⟩,rfl,rfl,λ_ _=>rfl⟩) λh=>⟨⟨0,s.c,s.z,s.f⟩,⟨?_,z0⟩,⟨rfl,rfl⟩,rfl,rfl,λ_ _=>rfl⟩⟩,λt1 h1=>⟨by unfold I64;decide,?_⟩⟩
   ·show s.c+1=p.cntI s.i+(p.iC s.i 0+if p.tk s.i 0=true then 1 else 0)
    rw[if_pos h];omega
   ·show s.c=p.cntI s.i+(p.iC s.i 0+if p.tk s.i 0=true then 1 else 0)
    rw[h];show s.c=p.cntI s.i+(p.iC s.i 0+0);omega
   obtain⟨k1,z1⟩:=h1;have k1:t1.c=p.cntI s.i+p.iC s.i 1:=k1;refine⟨⟨by decide,by decide,by decide,bf (λh=>⟨rfl,by have:=bd 1 (by decide);omega,⟨0,t1.c+1,false,_⟩,⟨?_,λh=>by cases h⟩,⟨rfl,rfl⟩,rfl,rfl,λ_ _=>rfl⟩) λh=>⟨⟨0,t1.c,t1.z,t1.f⟩,⟨?_,z1⟩,⟨rfl,rfl⟩,rfl,rfl,λ_ _=>rfl⟩⟩,λt2 h2=>⟨by unfold I64;decide,?_⟩⟩
   ·show t1.c+1=p.cntI s.i+(p.iC s.i 1+if p.tk s.i 1=true then 1 else 0)
    rw[if_pos h];omega
   ·show t1.c=p.cntI s.i+(p.iC s.i 1+if p.tk s.i 1=true then 1 else 0)
    rw[h];show t1.c=p.cntI s.i+(p.iC s.i 1+0);omega
   obtain⟨k2,z2⟩:=h2;have k2:t2.c=p.cntI s.i+p.iC s.i 2:=k2;exact⟨by unfold I64;omega,⟨s.i+1,t2.c,t2.z,t2.f⟩,⟨by show s.i+1<=p.n;omega,done t2 2 (by unfold ZPool.Fq;rw[hc];rfl) k2,z2⟩,by show p.n-(s.i+1)<_;omega,⟨by show((s.i+1:Nat):Int)=_;omega,rfl,rfl⟩,rfl,rfl,λ_ _=>rfl⟩
  ·have hc:p.cls s.i=3:=hc
   refine⟨⟨by decide,by decide,by decide,bf (λh=>⟨rfl,by have:=bd 0 (by decide);omega,⟨0,s.c+1,false,_⟩,⟨?_,λh=>by cases h⟩,⟨rfl,rfl⟩,rfl,rfl,λ_ _=>rfl⟩) λh=>⟨⟨0,s.c,s.z,s.f⟩,⟨?_,z0⟩,⟨rfl,rfl⟩,rfl,rfl,λ_ _=>rfl⟩⟩,λt1 h1=>⟨by unfold I64;decide,?_⟩⟩
   ·show s.c+1=p.cntI s.i+(p.iC s.i 0+if p.tk s.i 0=true then 1 else 0)
    rw[if_pos h];omega
   ·show s.c=p.cntI s.i+(p.iC s.i 0+if p.tk s.i 0=true then 1 else 0)
    rw[h];show s.c=p.cntI s.i+(p.iC s.i 0+0);omega
   obtain⟨k1,z1⟩:=h1;have k1:t1.c=p.cntI s.i+p.iC s.i 1:=k1;exact⟨by unfold I64;omega,⟨s.i+1,t1.c,t1.z,t1.f⟩,⟨by show s.i+1<=p.n;omega,done t1 1 (by unfold ZPool.Fq;rw[hc];rfl) k1,z1⟩,by show p.n-(s.i+1)<_;omega,⟨by show((s.i+1:Nat):Int)=_;omega,rfl,rfl⟩,rfl,rfl,λ_ _=>rfl⟩
 ·obtain⟨i1,i2,i3⟩:=hs
  have hi:s.i=p.n:=by have:=aT h;omega
  have e:p.cntI p.n=s.c:=by rw[i2,hi]
  exact⟨(s.z,s.f),λh=>by rw[e];exact i3 h,⟨rfl,e⟩,rfl,e,λ_ _=>rfl⟩
theorem AX(a:ZSto):Nj a/\Z8 a/\Z9 a/\Nk a:=by
 unfold Nj Z8 Z9 Nk;simp only[aZ,aV,aU,aA,aI,bT,bF,aO,aK,ay,aX,aW,bU,bG,bH,bI,bV,bD,bJ,bC,eU,aH,aN,ah,ak,aB,aF,aC,aG]
 repeat' (first|exact trivial|exact rfl|exactλ_ _=>rfl|refine And.intro ?_ ?_|refine⟨(),?_⟩)
theorem RH(b:fV):XM b:=by
 unfold XM;simp only[aZ,aV,aU,aA,aI,bT,bF,aO,aK,ay,aX,aW,bU,bG,bH,bI,bV,bD,bJ,bC,eU,aH,aN,ah,ak,aB,aF,aC,aG]
theorem RI(b:fV):XO b:=by
 unfold XO;simp only[aZ,aV,aU,aA,aI,bT,bF,aO,aK,ay,aX,aW,bU,bG,bH,bI,bV,bD,bJ,bC,eU,aH,aN,ah,ak,aB,aF,aC,aG]
theorem ai9:bZ Tryz.prog 40 RF.ctr:=cO dF mixed (.cons (bP ac3) .nil) 2 an5 200 6 (λ_=>⟨rfl,rfl,rfl,rfl⟩) λx hx=>Eq.mp (XJ x) (Nl x (aZ.1 hx))
theorem aja:bZ Tryz.prog 39 (Gp 3).ctr:=cO dF mixed .nil 11 noA 200 6 (λ_=>⟨rfl,rfl,rfl,rfl⟩) λx _=>Eq.mp (XK x) (AX x).1
theorem ajb:bZ Tryz.prog 41 (Gp 6).ctr:=cO dF mixed .nil 11 noA 200 6 (λ_=>⟨rfl,rfl,rfl,rfl⟩) λx _=>Eq.mp (XL x) (AX x).2.2.2
theorem amW:bZ Tryz.prog 42 amU.ctr:=cO dF mixed .nil 2 noA 200 6 (λ_=>⟨rfl,rfl,rfl,rfl⟩) λx _=>Eq.mp (ac4 x) (RH x)
theorem amX:bZ Tryz.prog 42 amV.ctr:=cO dF mixed .nil 1 noA 200 6 (λ_=>⟨rfl,rfl,rfl,rfl⟩) λx _=>Eq.mp (ac5 x) (RI x)
theorem ajc:bZ Tryz.prog 42 an6:=jI λb hb=>by
 have hb:=aZ.1 hb;cases hz:b.z
 ·have e:ownM b.os=ownM b.osP:=by unfold fV.os;rw[hz];rfl
  refine⟨_,amW,rfl,b,aZ.2 hb,rfl,?_,λv h' hh=> ?_⟩
  ·show [dB.abs (ownM b.osP)]=[dB.abs (ownM b.os)]
   rw[e]
  ·obtain⟨y,h0,e1,e2⟩:=jJ hh
   refine eX ⟨(),trivial,e1,e2.trans ?_⟩;show hO 1 [.abs (ownM b.osP)]=hO 1 [.abs (ownM b.os)];rw[e]
 ·have e:ownM b.os=ownM fV.osN:=by unfold fV.os;rw[hz];rfl
  have hn:b.n=0:=hb.2 hz;refine⟨_,amX,rfl,b,aZ.2 hb,rfl,?_,λv h' hh=> ?_⟩
  ·show [dB.abs (ownM fV.osN)]=[dB.abs (ownM b.os)]
   rw[e]
  ·obtain⟨y,h0,e1,e2⟩:=jJ hh
   refine eX ⟨(),trivial,e1.trans ?_,e2.trans ?_⟩
   ·show i64 (0:Nat)=i64 b.n
    rw[hn]
   ·show hO 1 [.abs (ownM fV.osN)]=hO 1 [.abs (ownM b.os)]
    rw[e]
structure ZPl where
 key:ByteArray
 v:ByteArray
 w:ByteArray
noncomputable def as3:jk:=ai3++[(32,ctrT Ci),(39,ctrT (Gp 3).ctr),(40,ctrT RF.ctr),(41,ctrT (Gp 6).ctr),(42,ctrT an6)]
theorem amY:dX Tryz.prog as3:= .append Ry (.cons (bP ac2) (.cons (bP aja) (.cons (bP ai9) (.cons (bP ajb) (.cons (bP ajc) .nil)))))
def XP:Prop:=ByteArray.mk #[]=ByteArray.mk #[]/\Value.slice none 0 0=Value.slice none 0 0/\True
def Np(a:ZWp)(b:ByteArray):Prop:=0=0/\(a.t:Int)=0/\((1:Int)=1/\a.key=b/\a.v=ByteArray.mk #[]/\XP)/\True
def Nq(a:ZWp):Prop:=Hd (goodP (1:Int) a.key a.v≠(0:Int))
def XT(a:ZWp):Prop:=cP (BEq.beq (goodP (2:Int) a.key a.v) (0:Int)) (true=false/\True) (true=false/\True)
def XU(a:ZWp):Prop:=Hd (goodP (1:Int) a.key a.v=0/\ ∃y_5:ZLnk,gu a.a.L a.key=some y_5)
def Nr:Prop:=True->true=true/\True
def ajd(a:fV):Prop:= ∀y_5:Unit,True-> ∃x_7:fV,Hd x_7.ok/\(0=0/\True)/\(ownM x_7.os=ownM a.os/\True)/\ ∀y_6:Unit,True->cP (BEq.beq (x_7.n:Int) (1:Int)) (∃x_8:Unit,True/\True/\True/\ ∀y_7:Unit,Nr) (true=false/\True)
def aje(a:ZWp):Prop:= ∃x_6:ZSto,Hd True/\(0=0/\True)/\(ownM x_6.os=ownM a.a2.os/\True)/\ajd x_6.b
def Ns(a:ZWp):Prop:=Hd (goodP (1:Int) a.key a.v=0/\gu a.a.L a.key= @Option.none ZLnk)
def FI(a:ZWp):Prop:=Hd (goodP (2:Int) a.key a.v≠(0:Int))
def ajf(a:ZWp):Prop:=Hd (goodP (2:Int) a.key a.v=0/\ ∀i:Nat,i<a.a.p.n->a.a.p.cls i≠(-(1:Int))/\a.a.p.full a.c i)
def XV(a0:ZWp)(b:ZSto):Prop:=Hd (goodP (2:Int) a0.key a0.v=0/\ ∃B': ∀a:ByteArray,ZBlk,PPut a0 (ZRd.put (a0.a.r.put a0.t a0.a.r.now) a0.t (0:Int)) b B')
def an7(a0:ZPl)(b:ZSto):Prop:= ∃x_3:ZWp,Hd x_3.ok/\Np x_3 a0.key/\(ownM x_3.a.os=ownM b.os/\True)/\(∀y_2:Nat,Nq x_3->true=false/\True)/\(∀y_2:Nat,Ns x_3->true=false/\True)/\ ∀y_2:Nat,Hd (goodP (1:Int) x_3.key x_3.v=0/\ ∃y_3:ZLnk,gu x_3.a.L x_3.key=some y_3)->cP (Bool.not (BEq.beq (ByteArray.toList (ZBlk.value (x_3.B x_3.key))) (ByteArray.toList a0.v))) (true=false/\True) (cP (decide ((a0.w.size:Int)<=400)) (∃x_4:ZWp,Hd x_4.ok/\(0=0/\(x_4.t:Int)=0/\((2:Int)=2/\x_4.key=a0.key/\x_4.v=a0.w/\XP)/\True)/\(ownM x_4.a.os=ownM x_3.a2.os/\True)/\(∀y_3:Unit,FI x_4-> ∃x_5:ZWp,Hd x_5.ok/\Np x_5 a0.key/\(ownM x_5.a.os=ownM x_4.a.os/\True)/\(∀y_4:Nat,Nq x_5->XT x_4)/\(∀y_4:Nat,Ns x_5->XT x_4)/\ ∀y_4:Nat,XU x_5->XT x_4)/\(∀y_3:Unit,ajf x_4-> ∃x_5:ZWp,Hd x_5.ok/\Np x_5 a0.key/\(ownM x_5.a.os=ownM x_4.a2.os/\True)/\(∀y_4:Nat,Nq x_5->true=false/\True)/\(∀y_4:Nat,Ns x_5->true=false/\True)/\ ∀y_4:Nat,XU x_5->true=false/\True)/\ ∀y_3:ZSto,XV x_4 y_3-> ∃x_5:ZWp,Hd x_5.ok/\Np x_5 a0.key/\(ownM x_5.a.os=ownM y_3.os/\True)/\(∀y_4:Nat,Nq x_5->cP x_4.had (cP (BEq.beq (ByteArray.toList (ByteArray.mk #[])) (ByteArray.toList a0.w)) (∃x_6:ZSto,Hd True/\(0=0/\True)/\(ownM x_6.os=ownM x_5.a.os/\True)/\ajd x_6.b) (true=false/\True)) (true=false/\True))/\(∀y_4:Nat,Ns x_5->cP x_4.had (cP (BEq.beq (ByteArray.toList (ByteArray.mk #[])) (ByteArray.toList a0.w)) (aje x_5) (true=false/\True)) (true=false/\True))/\
 ∀y_4:Nat,XU x_5->cP x_4.had (cP (BEq.beq (ByteArray.toList (ZBlk.value (x_5.B x_5.key))) (ByteArray.toList a0.w)) (aje x_5) (true=false/\True)) (true=false/\True)) (∃x_4:Unit,True/\True/\True/\ ∀y_3:Unit,Nr))
def XW:Prop:= ∃x_5:Unit,True/\True/\True/\ ∀y_4:Unit,Nr
def ajg(a0:ZSto):Prop:= ∃x_3:ZSto,Hd True/\(0=0/\True)/\(ownM x_3.os=ownM a0.os/\True)/\ ∀y_2:Unit,True-> ∃x_4:ZPool,Hd x_4.ok/\(0=0/\True)/\(ownM x_4.osW=ownM x_3.p.os/\True)/\ ∀y_3:Prod Bool (∀a:Nat,List Value),Hd (y_3.1=true->x_4.cntI x_4.n=0)->cP (decide (((x_4.cntI x_4.n:Nat):Int)>(0:Int))) (true=false/\True) (cP (Nat.beq x_3.n 0) XW (0+x_3.n<=x_3.n/\cP (Nat.beq x_3.n 0) XW ((2*(0+x_3.n)+1000)*72<=281474976710656/\cP (decide (((0+x_3.n:Nat):Int)>(0:Int))) (true=false/\True) XW)))
def Nu(a:ZWp)(b:ZPl):Prop:=0=0/\(a.t:Int)=0/\((2:Int)=2/\a.key=b.key/\a.v=b.v/\XP)/\True
def ajh(a:ZWp):Prop:=ajf a->true=false/\True
def XY(a0:ZWp):Prop:=(∀y_1:Unit,ajh a0)/\ ∀y_1:ZSto,XV a0 y_1->true=false/\True
def aji(a0:ZPl)(b:ZNew)(c:DevM):Prop:= ∃x_2:ZWp,Hd x_2.ok/\Nu x_2 a0/\(ownM x_2.a.os=ownM (ZSto.os (newSto b.n b.t c))/\True)/\(∀y_1:Unit,FI x_2->cP (bne (goodP (2:Int) x_2.key x_2.v) (5:Int)) (true=false/\True) (ajg x_2.a))/\XY x_2
def XZ:Prop:= ∃x_1:Unit,True/\True/\True/\ ∀y:Unit,Nr
def ajj(x:ZPl):Prop:=
 cP (decide ((x.key.size:Int)>(100:Int))) XZ (cP (decide ((x.v.size:Int)>(600:Int))) XZ (cP (decide ((x.w.size:Int)>(600:Int))) XZ (∃x_1:ZNew,Hd (10<=x_1.n/\x_1.n<=258/\1<=x_1.t/\x_1.t<=4)/\((x_1.n:Int)=26/\(x_1.t:Int)=1/\True)/\True/\ ∀y:DevM,Hd (y.ok/\y.n=x_1.n/\y.st=2/\y.fl=2/\y.fe=1)->cP (BEq.beq (ByteArray.toList x.key) (ByteArray.toList (ByteArray.mk #[]))) (∃x_2:ZWp,Hd x_2.ok/\Nu x_2 x/\(ownM x_2.a.os=ownM (ZSto.os (newSto x_1.n x_1.t y))/\True)/\(∀y_1:Unit,FI x_2->cP (bne (goodP (2:Int) x_2.key x_2.v) (1:Int)) (true=false/\True) (ajg x_2.a))/\XY x_2) (cP (decide ((x.key.size:Int)>(16:Int))) (aji x x_1 y) (cP (decide ((x.v.size:Int)>(400:Int))) (aji x x_1 y) (∃x_2:ZWp,Hd x_2.ok/\Nu x_2 x/\(ownM x_2.a.os=ownM (ZSto.os (newSto x_1.n x_1.t y))/\True)/\(∀y_1:Unit,FI x_2->cP (bne (goodP (2:Int) x_2.key x_2.v) (0:Int)) (true=false/\True) (an7 x x_2.a))/\(∀y_1:Unit,ajh x_2)/\ ∀y_1:ZSto,XV x_2 y_1->an7 x y_1))))))
theorem ac6(x:ZPl):ajj x=wpF Tryz.prog as3 tt (noA x) 200 6 7 [.lit (.string x.key),.lit (.string x.v),.lit (.string x.w)] (hO 0 []) (λv h'=>endP 0 (boo true) [] v h'):=by kernel_rfl
theorem as4{a b:ByteArray}(h:a.toList=b.toList):a=b:=by
 rw[gU,gU]at h;exact ByteArray.ext (Array.toList_inj.1 h)
theorem an8{x:ZWp}(hx:x.ok){R:ZRd}{a':ZSto}{B':ByteArray->ZBlk}(g:PPut x R a' B'): ∃l,gu a'.L x.key=some l:=by
 obtain⟨l,hl,hk⟩:=g.L;refine⟨l,?_⟩;rw[hl,Zz hx.1.srt,if_pos hk.symm]
theorem ajk{x:ZWp}{R:ZRd}{a':ZSto}{B':ByteArray->ZBlk}(g:PPut x R a' B'):(B' x.key).value=x.v:=by
 obtain⟨b,hb,hv,_⟩:=g.bk;rw[hb];have:updB x.B x.key b x.key=b:=if_pos rfl;rw[this,hv]
theorem RJ(x:ZPl):ajj x:=by
 have aw: ∃x_1:Unit,True/\True/\True/\ ∀y:Unit,True->true=true/\True:=⟨(),trivial,trivial,trivial,λ_ _=>⟨rfl,trivial⟩⟩;have bad: ∀(d:DevM) (c:Int),(d.ok/\d.n=26/\d.st=2/\d.fl=2/\d.fe=1)->c≠0->goodP 2 x.key x.v=c->
   ∃x_2:ZWp,Hd x_2.ok/\Nu x_2 x/\(ownM x_2.a.os=ownM (ZSto.os (newSto 26 1 d))/\True)/\(∀y_1:Unit,FI x_2->cP (bne (goodP (2:Int) x_2.key x_2.v) c) (true=false/\True) (ajg x_2.a))/\XY x_2:=λd c hd h0 hc=>by
  refine⟨⟨newSto 26 1 d,1,10,0,λ_=>zBk,0,x.key,x.v⟩,aZ.2 ⟨eY.new hd (by decide) (by decide) _,by show 0<1;decide,rfl,by show 10<=900000;decide,by show 0<=100;decide⟩,⟨rfl,rfl,⟨rfl,rfl,rfl,rfl,rfl,trivial⟩,trivial⟩,⟨rfl,trivial⟩,λ_ _=>bf (λh=> ?_) λ_=> ?_,λ_ h=>absurd ((aZ.1 h).1.symm.trans hc) (λe=>h0 e.symm),λ_ h=>absurd ((aZ.1 h).1.symm.trans hc) (λe=>h0 e.symm)⟩
  ·have h:(goodP 2 x.key x.v !=c)=true:=h
   rw[hc]at h;simp at h
  ·refine⟨newSto 26 1 d,aZ.2 trivial,⟨rfl,trivial⟩,⟨rfl,trivial⟩,λ_ _=>⟨fG 3 3,aZ.2 (eY.new (T:=1) hd (by decide) (by decide) (λ_=>zBk)).pg.1,⟨rfl,trivial⟩,⟨(alm _).symm,trivial⟩,λy3 _=>bf (λh=> ?_) λ_=>bf (λ_=>aw) λh=> ?_⟩⟩
   ·exact Bool.noConfusion (show false=true from h)
   ·exact Bool.noConfusion (show true=false from h)
 refine bf (λ_=>aw) λ_=>bf (λ_=>aw) λ_=>bf (λ_=>aw) λ_=>⟨⟨26,1⟩,aZ.2 (by decide),⟨rfl,rfl,trivial⟩,trivial,λd hd=> ?_⟩
 have hd:=aZ.1 hd;refine bf (λh=>bad d 1 hd (by decide) ?_) λh0=>bf (λh=>bad d 5 hd (by decide) ?_) λh1=>bf (λh=>bad d 5 hd (by decide) ?_) λh2=> ?_
 ·have h:=as4 (beq_iff_eq.1 h)
  unfold goodP;rw[if_pos (by rw[h];rfl)]
 ·have h:=aS h
  unfold goodP;rw[if_neg (by omega),if_pos (.inl (by omega))]
 ·have h:=aS h
  have h1:=aT h1;unfold goodP;rw[if_neg λe=> ?_,if_pos (.inr ⟨rfl,by omega⟩)];have:(x.key.toList==(⟨#[]⟩:ByteArray).toList)=true:=by
   rw[show x.key=⟨#[]⟩ from ByteArray.ext (Array.eq_empty_of_size_eq_zero e)];exact beq_self_eq_true _
  rw[this]at h0;cases h0
 ·have k1:=aT h1
  have k2:=aT h2;have k0:x.key.size≠0:=λe=>by
   have:(x.key.toList==(⟨#[]⟩:ByteArray).toList)=true:=by
    rw[show x.key=⟨#[]⟩ from ByteArray.ext (Array.eq_empty_of_size_eq_zero e)];exact beq_self_eq_true _
   rw[this]at h0;cases h0
  have g2: ∀v:ByteArray,v.size<=400->goodP 2 x.key v=0:=λv hv=>by
   unfold goodP;rw[if_neg k0,if_neg (by omega)]
  have g1: ∀v:ByteArray,goodP 1 x.key v=0:=λv=>by
   unfold goodP;rw[if_neg k0,if_neg (by omega)]
  let X2:ZWp:=⟨newSto 26 1 d,1,10,0,λ_=>zBk,0,x.key,x.v⟩
  have ok2:X2.ok:=⟨eY.new hd (by decide) (by decide) _,by show 0<1;decide,rfl,by show 10<=900000;decide,by show 0<=100;decide⟩;refine⟨X2,aZ.2 ok2,⟨rfl,rfl,⟨rfl,rfl,rfl,rfl,rfl,trivial⟩,trivial⟩,⟨rfl,trivial⟩,λ_ h=>absurd (g2 x.v (by omega)) (aZ.1 h),λ_ h=>absurd (aZ.1 h).2 (Fp (n:=3) (by decide)),λa' h=> ?_⟩;obtain⟨_,B',P⟩:=aZ.1 h;obtain⟨l,hl⟩:=an8 ok2 P;have has0:a'.r.has 0=0:=by rw[P.r];rfl
  let X3:ZWp:=⟨a',1,410,1,B',0,x.key,⟨#[]⟩⟩
  have ok3:X3.ok:=⟨P.base,by show 0<1;decide,has0,by show 410<=900000;decide,by show 1<=100;decide⟩;refine⟨X3,aZ.2 ok3,⟨rfl,rfl,⟨rfl,rfl,rfl,rfl,rfl,trivial⟩,trivial⟩,⟨rfl,trivial⟩,λ_ h=>absurd (g1 _) (aZ.1 h),λ_ h=>absurd (hl.symm.trans (aZ.1 h).2) (by simp),λ_ _=>bf (λh=> ?_) λ_=>bf (λh4=> ?_) λ_=>aw⟩
  ·have h:(!((B' x.key).value.toList==x.v.toList))=true:=h
   rw[ajk P]at h;simp at h;exact absurd rfl h
  have h4:x.w.size<=400:=by have:=aS h4;omega
  let X4:ZWp:=⟨X3.a2,1,410,1,B',0,x.key,x.w⟩
  have ok4:X4.ok:=⟨eY.Ce (eY.Ce P.base),by show 0<1;decide,rfl,by show 410<=900000;decide,by show 1<=100;decide⟩;have had4:X4.had=true:=by
   show(gu a'.L x.key).isSome=true;rw[hl];rfl
  have hp:a'.p.cls 1= -1/\a'.p.n=3:=by
   obtain⟨i,j,ht,e⟩:=P.pool;have hc:=aiY (n:=x.key.size+x.v.size) (by omega);obtain⟨rfl,rfl⟩:=RD (n:=3) hc.1 ht;rw[e];exact⟨rfl,rfl⟩
  have hb:a'.b=Qc:=by
   obtain⟨e,he⟩:=P.bag;rw[he];exact if_neg λh=>by(have h:false=true:=h;cases h)
  refine⟨X4,aZ.2 ok4,⟨rfl,rfl,⟨rfl,rfl,rfl,rfl,rfl,trivial⟩,trivial⟩,⟨rfl,trivial⟩,λ_ h=>absurd (g2 x.w h4) (aZ.1 h),λ_ h=> ?_,λa'' h=> ?_⟩
  ·exact absurd hp.1 (((aZ.1 h).2 1 (by show 1<a'.p.n;rw[hp.2];decide)).1)
  ·obtain⟨_,B'',P2⟩:=aZ.1 h
   obtain⟨l2,hl2⟩:=an8 ok4 P2;let X5:ZWp:=⟨a'',1,810,2,B'',0,x.key,⟨#[]⟩⟩
   have ok5:X5.ok:=⟨P2.base,by show 0<1;decide,by show a''.r.has 0=0;rw[P2.r];rfl,by show 810<=900000;decide,by show 2<=100;decide⟩;refine⟨X5,aZ.2 ok5,⟨rfl,rfl,⟨rfl,rfl,rfl,rfl,rfl,trivial⟩,trivial⟩,⟨rfl,trivial⟩,λ_ h=>absurd (g1 _) (aZ.1 h),λ_ h=>absurd (hl2.symm.trans (aZ.1 h).2) (by simp),λ_ _=>bf (λ_=>bf (λ_=> ?_) λh=> ?_) λh=> ?_⟩
   ·refine⟨X5.a2,aZ.2 trivial,⟨rfl,trivial⟩,⟨rfl,trivial⟩,λ_ _=>⟨a''.b,aZ.2 P2.base.bok,⟨rfl,trivial⟩,⟨rfl,trivial⟩,λ_ _=>bf (λ_=>aw) λh=> ?_⟩⟩
    have hn:a''.b.n=1:=by
     obtain⟨e,he⟩:=P2.bag;rw[he,if_pos had4];show(a'.b.put e).n=1;rw[hb];rfl
    rw[hn]at h;exact Bool.noConfusion (show true=false from h)
   ·have h:((B'' x.key).value.toList==x.w.toList)=false:=h
    rw[ajk P2]at h;simp at h;exact absurd rfl h
   ·rw[had4]at h;cases h
theorem amZ(x:ZPl):Sp Tryz.prog 7 [.lit (.string x.key),.lit (.string x.v),.lit (.string x.w)] (hO 0 []) (λv _=>v=boo true):=
 (arJ dF mixed amY (noA x) 200 6 (v0:=boo true) (os:=[]) (Eq.mp (ac6 x) (RJ x))).mono λ_ _ hh=>hh.1
end Go.Proofs.YtenfleoejgjklaaGreat
end
