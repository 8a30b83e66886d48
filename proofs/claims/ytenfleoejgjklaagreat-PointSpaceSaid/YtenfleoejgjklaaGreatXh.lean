import Derived.Test.YtenfleoejgjklaaGreatXa
import Derived.Test.YtenfleoejgjklaaGreatXb
import Derived.Test.YtenfleoejgjklaaGreatXc
import Derived.Test.YtenfleoejgjklaaGreatXd
import Derived.Test.YtenfleoejgjklaaGreatXe
import Derived.Test.YtenfleoejgjklaaGreatXf
import Derived.Test.YtenfleoejgjklaaGreatXg
import Derived.KernelRfl
set_option linter.unusedVariables false
set_option linter.unusedSimpArgs false
set_option linter.unnecessarySimpa false
section
namespace Go.Proofs.YtenfleoejgjklaaGreat
open Go SE
def pI(a:ZSto):Prop:=ownM a.b.os=ownM a.b.os/\tabA a.L=tabA a.L/\ordA a.L=ordA a.L/\ownM a.l.os=ownM a.l.os/\(Nat.beq a.n 0=Nat.beq a.n 0/\a.n=a.n/\ ∀q:Nat,q<a.n->[Value.int .i64 (ZEff.kind (a.e q)),Value.string (ZEff.key (a.e q)),Value.string (ZEff.value (a.e q)),Value.int .u64 (ZEff.id (a.e q)),Value.int .u64 (ZEff.ver (a.e q)),Value.int .u64 (ZEff.epoch (a.e q)),Value.int .i64 (ZEff.group (a.e q))]=[Value.int .i64 (ZEff.kind (a.e q)),Value.string (ZEff.key (a.e q)),Value.string (ZEff.value (a.e q)),Value.int .u64 (ZEff.id (a.e q)),Value.int .u64 (ZEff.ver (a.e q)),Value.int .u64 (ZEff.epoch (a.e q)),Value.int .i64 (ZEff.group (a.e q))])/\True
def dL:Prop:=Value.slice none 0 0=Value.slice none 0 0
def bP(a:Int):Prop:=a=a
def ji(a:ZSto):Prop:=0=0/\0=0/\0=0/\0=0/\0=0/\0=0/\0=0/\0=0/\bP a.id/\bP a.ver/\(Nat.beq a.n 0=Nat.beq a.n 0/\a.n=a.n)/\True
def bY(a:ByteArray):Prop:=a=a
def gU(a:ZFp):Prop:=a.found=a.found/\bY a.ans/\dL/\dL/\bP a.aep/\True
def jk:Prop:=0=0/\(1:Int)=1/\(0:Int)=0/\(0:Int)=0/\True
def vO(a:ZFp):Prop:=dL/\(0:Int)=0/\dL/\bP a.code/\gU a
def zZ(a:ZFp):Prop:=bY a.pos/\a.past=a.past/\(0:Int)=0/\a.had=a.had/\bY a.old.key/\bP a.old.id/\bP a.old.ver/\bP a.old.line/\bP a.old.cls/\bP a.line/\bP a.cls/\bP a.piece/\vO a
def MH(a:ZPs):Prop:=bY a.f.key/\bY a.f.value/\bY a.f.to/\dL/\(1:Int)=7/\a.a.c.now=a.f.epoch/\bY a.f.pos/\a.f.past=a.f.past/\(0:Int)=0/\a.f.had=a.f.had/\bY a.f.old.key/\bP a.f.old.id/\bP a.f.old.ver/\bP a.f.old.line/\bP a.f.old.cls/\bP a.f.line/\bP a.f.cls/\bP a.f.piece/\dL/\(0:Int)=0/\dL/\a.f.code=5/\gU a.f
def jl(a:DevM):Prop:=ownM a.os=ownM a.os
def nJ(a:ZPool):Prop:=ownM a.os=ownM a.os
def Aa(a:ZPs):Prop:=ji a.a/\jk/\jl a.a.d/\nJ a.a.p/\ownM (ZRd.os (a.a.r.put a.t a.a.r.now))=ownM a.a.r.os/\ownM (ZCk.os (ZSto.ck (a.a.FX a.t a.a.r.now)))=ownM a.a.ck.os/\pI a.a
def Fg(a:ZFp):Prop:=Hd (goodP (2:Int) a.key a.value≠(0:Int))
def Ac(a:ZSto):Prop:=ownM a.r.os=ownM a.r.os/\ownM a.ck.os=ownM a.ck.os/\pI a
def Ad(a:ZSto):Prop:=ji a/\jk/\jl a.d/\nJ a.p/\Ac a
def Fh(a:ZFp):Prop:=Hd (goodP (2:Int) a.key a.value=0)
def XA(a:ZPs):Prop:=True/\((∃y:Unit,Fg a.f/\((2:Int)=2/\bY a.f.key/\bY a.f.value/\bY a.f.to/\dL/\(7:Int)=7/\bP a.f.epoch/\bY a.f.pos/\a.f.past=a.f.past/\(0:Int)=0/\a.f.had=a.f.had/\bY a.f.old.key/\bP a.f.old.id/\bP a.f.old.ver/\bP a.f.old.line/\bP a.f.old.cls/\bP a.f.line/\bP a.f.cls/\bP a.f.piece/\dL/\(0:Int)=0/\dL/\goodP (2:Int) a.f.key a.f.value=5/\gU a.f)/\Ad a.a)\/ ∃y:Unit,Fh a.f/\((2:Int)=2/\MH a)/\Aa a)
def Fj(a:ZFp):Prop:=dL/\(0:Int)=0/\dL/\a.code=1/\gU a
def MI(a:ZPs):Prop:=bY a.f.key/\bY a.f.value/\bY a.f.to/\dL/\(1:Int)=7/\a.a.c.now=a.f.epoch/\bY a.f.pos/\a.f.past=a.f.past/\(0:Int)=0/\a.f.had=a.f.had/\bY a.f.old.key/\bP a.f.old.id/\bP a.f.old.ver/\bP a.f.old.line/\bP a.f.old.cls/\bP a.f.line/\bP a.f.cls/\bP a.f.piece/\Fj a.f
def MJ(a:ZPs):Prop:=bY a.f.key/\bY a.f.value/\bY a.f.to/\dL/\(1:Int)=7/\a.a.c.now=a.f.epoch/\bY a.f.pos/\a.f.past=a.f.past/\(0:Int)=0/\a.f.had=a.f.had/\bY a.f.old.key/\bP a.f.old.id/\bP a.f.old.ver/\bP a.f.old.line/\bP a.f.old.cls/\bP a.f.line/\bP a.f.cls/\bP a.f.piece/\dL/\(0:Int)=0/\dL/\a.f.code=7/\gU a.f
def MK(a:ZPs)(b:ZRdT):Prop:=ji a.a/\jk/\jl a.a.d/\nJ a.a.p/\ownM (ZRd.os (a.a.r.put a.t (0:Int)))=ownM (ZRd.os (b.r.put b.k (0:Int)))/\ownM (ZCk.os (ZSto.ck (a.a.FX a.t (0:Int))))=ownM a.a.ck.os/\pI a.a
def ML(a:ZPs)(b:ZRdT)(c:ZCk):Prop:=ji a.a/\jk/\jl a.a.d/\nJ a.a.p/\ownM (ZRd.os (a.a.r.put a.t a.a.r.now))=ownM (ZRd.os (b.r.put b.k b.r.now))/\ownM (ZCk.os (ZSto.ck (a.a.FX a.t a.a.r.now)))=ownM c.os/\pI a.a
def XB(a:ZSto)(b:ZPool):Prop:=ji a/\jk/\jl a.d/\ownM a.p.os=ownM b.os/\Ac a
def MN(a:ZPs)(b:ZRd):Prop:=ji a.a/\jk/\jl a.a.d/\nJ a.a.p/\ownM (ZRd.os (a.a.r.put a.t a.a.r.now))=ownM b.os/\ownM (ZCk.os (ZSto.ck (a.a.FX a.t a.a.r.now)))=ownM a.a.ck.os/\pI a.a
def MO(a:ZSto)(b:ZRdT)(c:ZCk):Prop:=ji a/\jk/\jl a.d/\nJ a.p/\ownM a.r.os=ownM (ZRd.os (b.r.put b.k b.r.now))/\ownM a.ck.os=ownM c.os/\pI a
def vP(a:ZPs):Prop:=a.nd (2:Int)=ned ((a.f.key.size:Int)+(a.f.value.size:Int))
def MP(a:ZSto)(b:ZRd):Prop:=ji a/\jk/\jl a.d/\nJ a.p/\ownM a.r.os=ownM b.os/\ownM a.ck.os=ownM a.ck.os/\pI a
def XC(a:ZPs)(b:Prod Nat Nat):Prop:=ownM a.a.r.os=ownM a.a.r.os/\ownM (ZCk.os (ZSto.ck (a.a.Xd (a.a.p.take (a.nd (2:Int)) b.1 b.2))))=ownM a.a.ck.os/\pI a.a
def MQ(a:ZFp):Prop:=bY a.key/\bY a.value/\bY a.to/\dL/\(7:Int)=7/\bP a.epoch/\zZ a
def MR(a:ZPs)(b:Int):Prop:=bY a.f.key/\bY a.f.value/\bY a.f.to/\dL/\(1:Int)=1/\a.a.c.now=b/\zZ a.f
def XD(a:ZPs)(b:Prod Nat Nat)(c:ZPool):Prop:=ji a.a/\jk/\jl a.a.d/\ownM (ZPool.os (a.a.p.take (a.nd (2:Int)) b.1 b.2))=ownM c.os/\XC a b
def MV(a:ZPs):Prop:=Hd (∀i:Nat,i<a.a.p.n->a.a.p.cls i≠(-(1:Int))/\a.a.p.full (a.nd (2:Int)) i)
def sS(a:Nat)(b:Nat):Prop:=0=0/\(a:Int)=(b:Int)/\True
def Fp(a:ZFp):Prop:=Hd (goodP (1:Int) a.key a.value≠(0:Int))
def sU(a:ZRdT):Prop:=Hd (a.r.ok/\a.k<a.r.t)
def ai7(a:lK):Prop:=Hd (spn a.c≠(0:Int)/\ ∀i:Nat,i<a.p.n->a.p.cls i≠(-(1:Int))/\a.p.full a.c i)
def Fq(a:ZFp):Prop:=Hd (goodP (1:Int) a.key a.value=0)
def ai8(x:ZPs):Prop:=
 ((0:Int)<=0/\(0:Int)<=6)/\cP (BEq.beq (ByteArray.toList x.f.key) (ByteArray.toList (ByteArray.mk #[]))) (True/\((∃y:Unit,Fp x.f/\((1:Int)=1/\bY x.f.key/\bY x.f.value/\bY x.f.to/\dL/\(7:Int)=7/\bP x.f.epoch/\bY x.f.pos/\x.f.past=x.f.past/\(0:Int)=0/\x.f.had=x.f.had/\bY x.f.old.key/\bP x.f.old.id/\bP x.f.old.ver/\bP x.f.old.line/\bP x.f.old.cls/\bP x.f.line/\bP x.f.cls/\bP x.f.piece/\dL/\(0:Int)=0/\dL/\goodP (1:Int) x.f.key x.f.value=1/\gU x.f)/\Ad x.a)\/ ∃y:Unit,Fq x.f/\((1:Int)=1/\MI x)/\Aa x)) (cP (decide ((x.f.key.size:Int)>(16:Int))) (True/\((∃y:Unit,Fp x.f/\((1:Int)=1/\bY x.f.key/\bY x.f.value/\bY x.f.to/\dL/\(7:Int)=7/\bP x.f.epoch/\bY x.f.pos/\x.f.past=x.f.past/\(0:Int)=0/\x.f.had=x.f.had/\bY x.f.old.key/\bP x.f.old.id/\bP x.f.old.ver/\bP x.f.old.line/\bP x.f.old.cls/\bP x.f.line/\bP x.f.cls/\bP x.f.piece/\dL/\(0:Int)=0/\dL/\goodP (1:Int) x.f.key x.f.value=5/\gU x.f)/\Ad x.a)\/ ∃y:Unit,Fq x.f/\((1:Int)=1/\MH x)/\Aa x)) (∃x_1:ZRdT,sU x_1/\sS x_1.k x.t/\(ownM x_1.r.os=ownM x.a.r.os/\True)/\(∀y:Unit,Hd (x_1.r.has x_1.k=0)-> ∃x_2:ZCk,Hd (x_2.ph<=4/\x_2.c.ok)/\(0=0/\True)/\(ownM x_2.os=ownM x.a.ck.os/\True)/\ ∀y_1:Unit,True->True/\((∃y_2:Unit,Fp x.f/\((1:Int)=1/\bY x.f.key/\bY x.f.value/\bY x.f.to/\dL/\(7:Int)=1/\x.f.epoch=x_2.c.now/\bY x.f.pos/\x.f.past=x.f.past/\(0:Int)=0/\x.f.had=x.f.had/\
 bY x.f.old.key/\bP x.f.old.id/\bP x.f.old.ver/\bP x.f.old.line/\bP x.f.old.cls/\bP x.f.line/\bP x.f.cls/\bP x.f.piece/\dL/\(0:Int)=0/\dL/\goodP (1:Int) x.f.key x.f.value=x.f.code/\gU x.f)/\MO x.a x_1 x_2)\/ ∃y_2:Unit,Fq x.f/\((1:Int)=1/\MR x x_2.c.now)/\ML x x_1 x_2))/\ ∀y:Unit,Hd (x_1.r.has x_1.k≠(0:Int))->True/\((∃y_1:Unit,Fp x.f/\((1:Int)=1/\bY x.f.key/\bY x.f.value/\bY x.f.to/\dL/\(7:Int)=7/\bP x.f.epoch/\bY x.f.pos/\x.f.past=x.f.past/\(0:Int)=0/\x.f.had=x.f.had/\bY x.f.old.key/\bP x.f.old.id/\bP x.f.old.ver/\bP x.f.old.line/\bP x.f.old.cls/\bP x.f.line/\bP x.f.cls/\bP x.f.piece/\dL/\(0:Int)=0/\dL/\goodP (1:Int) x.f.key x.f.value=7/\gU x.f)/\MP x.a x_1.r)\/ ∃y_1:Unit,Fq x.f/\((1:Int)=1/\MJ x)/\MN x x_1.r)))
theorem ai9(x:ZPs):ai8 x=wpF Tryz.prog arB tt (noA x) 200 6 34 ((ql 1).args x) (hO 11 (flatP 1 ((ql 1).l x))) (λv h'=>endsPK 1 x v h' (ql 1).outs):=by kernel_rfl
def aja(x:ZPs):Prop:=
 ((0:Int)<=0/\(0:Int)<=6)/\cP (BEq.beq (ByteArray.toList x.f.key) (ByteArray.toList (ByteArray.mk #[]))) (True/\((∃y:Unit,Fg x.f/\((2:Int)=2/\bY x.f.key/\bY x.f.value/\bY x.f.to/\dL/\(7:Int)=7/\bP x.f.epoch/\bY x.f.pos/\x.f.past=x.f.past/\(0:Int)=0/\x.f.had=x.f.had/\bY x.f.old.key/\bP x.f.old.id/\bP x.f.old.ver/\bP x.f.old.line/\bP x.f.old.cls/\bP x.f.line/\bP x.f.cls/\bP x.f.piece/\dL/\(0:Int)=0/\dL/\goodP (2:Int) x.f.key x.f.value=1/\gU x.f)/\Ad x.a)\/ ∃y:Unit,Fh x.f/\((2:Int)=2/\MI x)/\Aa x)) (cP (decide ((x.f.key.size:Int)>(16:Int))) (XA x) (cP (decide ((x.f.value.size:Int)>(400:Int))) (XA x) (∃x_1:ZRdT,sU x_1/\sS x_1.k x.t/\(ownM x_1.r.os=ownM x.a.r.os/\True)/\(∀y:Unit,Hd (x_1.r.has x_1.k=0)-> ∃x_2:ZCk,Hd (x_2.ph<=4/\x_2.c.ok)/\(0=0/\True)/\(ownM x_2.os=ownM x.a.ck.os/\True)/\ ∀y_1:Unit,True->True/\((∃y_2:Unit,Fg x.f/\((2:Int)=2/\bY x.f.key/\bY x.f.value/\bY x.f.to/\dL/\(7:Int)=1/\x.f.epoch=x_2.c.now/\bY x.f.pos/\x.f.past=x.f.past/\(0:Int)=0/\x.f.had=x.f.had/\bY x.f.old.key/\bP x.f.old.id/\bP x.f.old.ver/\bP x.f.old.line/\bP x.f.old.cls/\bP x.f.line/\bP x.f.cls/\bP x.f.piece/\dL/\(0:Int)=0/\dL/\goodP (2:Int) x.f.key x.f.value=x.f.code/\gU x.f)/\MO x.a x_1 x_2)\/ ∃y_2:Unit,Fh x.f/\((2:Int)=2/\MR x x_2.c.now)/\ML x x_1 x_2))/\ ∀y:Unit,Hd (x_1.r.has x_1.k≠(0:Int))->True/\((∃y_1:Unit,Fg x.f/\((2:Int)=2/\bY x.f.key/\
 bY x.f.value/\bY x.f.to/\dL/\(7:Int)=7/\bP x.f.epoch/\bY x.f.pos/\x.f.past=x.f.past/\(0:Int)=0/\x.f.had=x.f.had/\bY x.f.old.key/\bP x.f.old.id/\bP x.f.old.ver/\bP x.f.old.line/\bP x.f.old.cls/\bP x.f.line/\bP x.f.cls/\bP x.f.piece/\dL/\(0:Int)=0/\dL/\goodP (2:Int) x.f.key x.f.value=7/\gU x.f)/\MP x.a x_1.r)\/ ∃y_1:Unit,Fh x.f/\((2:Int)=2/\MJ x)/\MN x x_1.r))))
theorem ajb(x:ZPs):aja x=wpF Tryz.prog arB tt (noA x) 200 6 34 ((ql 2).args x) (hO 11 (flatP 1 ((ql 2).l x))) (λv h'=>endsPK 1 x v h' (ql 2).outs):=by kernel_rfl
def ajc(x:ZPs):Prop:=
 ((0:Int)<=3/\(0:Int)<=3)/\I64 ((x.f.key.size:Int)+(x.f.value.size:Int))/\(AV.ptr 0 0=AV.ptr 0 0/\True)/\ ∃x_1:lK,Hd x_1.p.ok/\(0=0/\x_1.c=ned ((x.f.key.size:Int)+(x.f.value.size:Int))/\True)/\(ownM x_1.p.os=ownM x.a.p.os/\True)/\(∀y:Unit,Hd (spn x_1.c=0)->True/\((∃y_1:Unit,MV x/\((2:Int)=2/\bY x.f.key/\bY x.f.value/\bY x.f.to/\dL/\(6:Int)=6/\bP x.f.epoch/\bY x.f.pos/\x.f.past=x.f.past/\(0:Int)=0/\x.f.had=x.f.had/\bY x.f.old.key/\bP x.f.old.id/\bP x.f.old.ver/\bP x.f.old.line/\bP x.f.old.cls/\bP x.f.line/\vP x/\bP x.f.piece/\dL/\(0:Int)=0/\dL/\(4:Int)=1/\gU x.f)/\XB x.a x_1.p)\/ ∃y_1:Prod Nat Nat,Hd (x.a.p.takes (x.nd (2:Int)) y_1.1 y_1.2)/\((2:Int)=2/\bY x.f.key/\bY x.f.value/\bY x.f.to/\dL/\(4:Int)=6/\bP x.f.epoch/\bY x.f.pos/\x.f.past=x.f.past/\(0:Int)=0/\x.f.had=x.f.had/\bY x.f.old.key/\bP x.f.old.id/\bP x.f.old.ver/\bP x.f.old.line/\bP x.f.old.cls/\2+(y_1.1:Int)*8+(y_1.2:Int)*spn (x.nd (2:Int))=x.f.line/\vP x/\0=x.f.piece/\Fj x.f)/\XD x y_1 x_1.p))/\(∀y:Unit,ai7 x_1->True/\((∃y_1:Unit,MV x/\((2:Int)=2/\bY x.f.key/\bY x.f.value/\bY x.f.to/\dL/\(6:Int)=6/\bP x.f.epoch/\bY x.f.pos/\x.f.past=x.f.past/\(0:Int)=0/\x.f.had=x.f.had/\bY x.f.old.key/\bP x.f.old.id/\bP x.f.old.ver/\bP x.f.old.line/\bP x.f.old.cls/\bP x.f.line/\vP x/\bP x.f.piece/\dL/\(0:Int)=0/\dL/\(4:Int)=4/\gU x.f)/\
 XB x.a x_1.p)\/ ∃y_1:Prod Nat Nat,Hd (x.a.p.takes (x.nd (2:Int)) y_1.1 y_1.2)/\((2:Int)=2/\bY x.f.key/\bY x.f.value/\bY x.f.to/\dL/\(4:Int)=6/\bP x.f.epoch/\bY x.f.pos/\x.f.past=x.f.past/\(0:Int)=0/\x.f.had=x.f.had/\bY x.f.old.key/\bP x.f.old.id/\bP x.f.old.ver/\bP x.f.old.line/\bP x.f.old.cls/\2+(y_1.1:Int)*8+(y_1.2:Int)*spn (x.nd (2:Int))=x.f.line/\vP x/\0=x.f.piece/\dL/\(0:Int)=0/\dL/\x.f.code=4/\gU x.f)/\XD x y_1 x_1.p))/\ ∀y:Prod Nat Nat,Hd (spn x_1.c≠(0:Int)/\x_1.p.takes x_1.c y.1 y.2)->True/\((∃y_1:Unit,MV x/\((2:Int)=2/\bY x.f.key/\bY x.f.value/\bY x.f.to/\dL/\(6:Int)=4/\bP x.f.epoch/\bY x.f.pos/\x.f.past=x.f.past/\(0:Int)=0/\x.f.had=x.f.had/\bY x.f.old.key/\bP x.f.old.id/\bP x.f.old.ver/\bP x.f.old.line/\bP x.f.old.cls/\x.f.line=2+(y.1:Int)*8+(y.2:Int)*spn x_1.c/\vP x/\x.f.piece=0/\dL/\(0:Int)=0/\dL/\4=x.f.code/\gU x.f)/\ji x.a/\jk/\jl x.a.d/\ownM x.a.p.os=ownM (ZPool.os (x_1.p.take x_1.c y.1 y.2))/\Ac x.a)\/ ∃y_1:Prod Nat Nat,Hd (x.a.p.takes (x.nd (2:Int)) y_1.1 y_1.2)/\((2:Int)=2/\bY x.f.key/\bY x.f.value/\bY x.f.to/\dL/\(4:Int)=4/\bP x.f.epoch/\bY x.f.pos/\x.f.past=x.f.past/\(0:Int)=0/\x.f.had=x.f.had/\bY x.f.old.key/\bP x.f.old.id/\bP x.f.old.ver/\bP x.f.old.line/\bP x.f.old.cls/\2+(y_1.1:Int)*8+(y_1.2:Int)*spn (x.nd (2:Int))=2+(y.1:Int)*8+(y.2:Int)*spn x_1.c/\vP x/\(0:Int)=0/\vO x.f)/\
 ji x.a/\jk/\jl x.a.d/\ownM (ZPool.os (x.a.p.take (x.nd (2:Int)) y_1.1 y_1.2))=ownM (ZPool.os (x_1.p.take x_1.c y.1 y.2))/\XC x y_1)
theorem ajd(x:ZPs):ajc x=wpF Tryz.prog atY tt (noA x) 200 6 34 ((RQ 2).args x) (hO 11 (flatP 1 ((RQ 2).l x))) (λv h'=>endsPK 1 x v h' (RQ 2).outs):=by kernel_rfl
def aje(x:ZPs):Prop:=
 ((0:Int)<=6/\(0:Int)<=0)/\ ∃x_1:ZRdT,sU x_1/\sS x_1.k x.t/\(ownM x_1.r.os=ownM x.a.r.os/\True)/\ ∀y:Unit,True->True/\ ∃y_1:Unit,True/\((1:Int)=1/\MQ x.f)/\MK x x_1
theorem ajf(x:ZPs):aje x=wpF Tryz.prog aqM tt (noA x) 200 6 34 ((qm 1).args x) (hO 11 (flatP 1 ((qm 1).l x))) (λv h'=>endsPK 1 x v h' (qm 1).outs):=by kernel_rfl
def ajg(x:ZPs):Prop:=
 ((0:Int)<=6/\(0:Int)<=0)/\ ∃x_1:ZRdT,sU x_1/\sS x_1.k x.t/\(ownM x_1.r.os=ownM x.a.r.os/\True)/\ ∀y:Unit,True->True/\ ∃y_1:Unit,True/\((2:Int)=2/\MQ x.f)/\MK x x_1
theorem ajh(x:ZPs):ajg x=wpF Tryz.prog aqM tt (noA x) 200 6 34 ((qm 2).args x) (hO 11 (flatP 1 ((qm 2).l x))) (λv h'=>endsPK 1 x v h' (qm 2).outs):=by kernel_rfl
theorem aji(k:ByteArray):(k.toList==(ByteArray.mk #[]).toList)=decide (k.size=0):=by
 rw[iC,iC];have hs:k.data.toList.length=k.size:=by simp
 cases h:k.data.toList with
 |nil=>rw[h]at hs;rw[decide_eq_true (by rw[<-hs];rfl)];rfl
 |cons a l=>rw[h]at hs;rw[decide_eq_false (by rw[<-hs];simp)];rfl
theorem aoK{k:Int}{key v:ByteArray}(h:key.size=0):goodP k key v=1:=if_pos h
theorem ajj{k:Int}{key v:ByteArray}(h0:key.size≠0)(h:16<key.size\/k=2/\400<v.size):goodP k key v=5:=by unfold goodP;rw[if_neg h0,if_pos h]
theorem ajk{k:Int}{key v:ByteArray}(h0:key.size≠0)(h: ¬(16<key.size\/k=2/\400<v.size)):goodP k key v=0:=by unfold goodP;rw[if_neg h0,if_neg h]
theorem yG{k:Int}{key v:ByteArray}(h:goodP k key v=0):key.size≠0/\key.size<=16/\(k=2->v.size<=400):=by
 unfold goodP at h;split at h
 ·cases h
 ·split at h
  ·cases h
  ·rename_i h0 h1
   exact⟨h0,by omega,λhk=>by omega⟩
theorem XE(x:ZPs)(hx:x.a.r.ok/\x.a.c.ok/\x.a.ph<=4/\x.t<x.a.r.t/\x.a.r.has x.t=0):ai8 x:=by
 obtain⟨h1,h2,h3,h4,h5⟩:=hx;unfold ai8;simp only[Fp,bY,dL,bP,gU,Ad,Fq,MI,Aa,MH,sU,sS,MO,MR,ML,MP,MJ,MN,ji,jk,jl,nJ,pI,zZ,vO,Fj,Ac];simp only[aZ,aV,aU,aA,aI,bQ,bF,aO,aK,ay,aX,aW,bU,bG,bH,bI,bV,bC,bJ,bn,eG,aH,aN,ah,ak,aB,aF,aC,aG,aji];refine⟨by decide,bf (λh=> .inl ?_) λh=>bf (λhs=> .inl ?_) λhs=> ?_⟩
 ·have h:=aS h
  rw[aoK h];exact⟨by decide,rfl⟩
 ·have h:=aT h
  have hs:=aS hs;rw[ajj h (.inl (by omega))];exact⟨by decide,rfl⟩
 ·have h:=aT h
  have hs:=aT hs
  skip
  have hg:goodP 1 x.f.key x.f.value=0:=ajk h (by omega);exact⟨⟨x.a.r,x.t⟩,⟨h1,h4⟩,rfl,rfl,λ_=>⟨x.a.ck,⟨by assumption,h2⟩,rfl,.inr ⟨hg,rfl,rfl,rfl⟩⟩,λhne=>absurd h5 hne⟩
theorem XF(x:ZPs)(hx:x.a.r.ok/\x.a.c.ok/\x.a.ph<=4/\x.t<x.a.r.t/\x.a.r.has x.t=0):aja x:=by
 obtain⟨h1,h2,h3,h4,h5⟩:=hx;unfold aja;simp only[Fg,bY,dL,bP,gU,Ad,Fh,MI,Aa,XA,sU,sS,MO,MR,ML,MP,MJ,MN,ji,jk,jl,nJ,pI,zZ,vO,MH,Fj,Ac];simp only[aZ,aV,aU,aA,aI,bQ,bF,aO,aK,ay,aX,aW,bU,bG,bH,bI,bV,bC,bJ,bn,eG,aH,aN,ah,ak,aB,aF,aC,aG,aji];refine⟨by decide,bf (λh=> .inl ?_) λh=>bf (λhs=> .inl ?_) λhs=>bf (λh3=> .inl ?_) λh3=> ?_⟩
 ·have h:=aS h
  rw[aoK h];exact⟨by decide,rfl⟩
 ·have h:=aT h
  have hs:=aS hs;rw[ajj h (.inl (by omega))];exact⟨by decide,rfl⟩
 ·have h:=aT h
  have hs:=aT hs;have h3:=aS h3;rw[ajj h (.inr ⟨rfl,by omega⟩)];exact⟨by decide,rfl⟩
 ·have h:=aT h
  have hs:=aT hs;have h3':=aT h3;have hg:goodP 2 x.f.key x.f.value=0:=ajk h (by omega);exact⟨⟨x.a.r,x.t⟩,⟨h1,h4⟩,rfl,rfl,λ_=>⟨x.a.ck,⟨by assumption,h2⟩,rfl,.inr ⟨hg,rfl,rfl,rfl⟩⟩,λhne=>absurd h5 hne⟩
theorem XG(x:ZPs)(hx:x.a.p.ok/\x.f.key.size<=16/\x.f.value.size<=400):ajc x:=by
 obtain⟨h1,h2,h3⟩:=hx;have hnd:x.nd 2=ned ((x.f.key.size:Int)+x.f.value.size):=by unfold ZPs.nd;rw[if_pos rfl];congr 1
 have hz:spn (x.nd 2)≠0:=by
  rw[hnd];have:(x.f.key.size:Int)+x.f.value.size=((x.f.key.size+x.f.value.size:Nat):Int):=by omega
  rw[this];refine QK ?_;unfold ned;repeat' split
  all_goals omega
 unfold ajc;simp only[MV,bY,dL,bP,vP,gU,XB,Fj,XD,ai7,ji,jk,jl,Ac,vO,XC,pI];simp only[aZ,aV,aU,aA,aI,bQ,bF,aO,aK,ay,aX,aW,bU,bG,bH,bI,bV,bC,bJ,bn,eG,aH,aN,ah,ak,aB,aF,aC,aG];have e0:ned 0=0:=rfl;rw[<-hnd];refine⟨by decide,by unfold I64;omega,⟨x.a.p,x.nd 2⟩,h1,rfl,rfl,λh=>absurd h hz,λh=> .inl ⟨h.2,rfl,rfl⟩,λy hy=> .inr ⟨y,hy.2,⟨rfl,rfl⟩,rfl,rfl⟩⟩
theorem XH(x:ZPs)(hx:x.a.r.ok/\x.t<x.a.r.t):aje x:=by
 unfold aje;simp only[sU,sS,MQ,MK,ji,jk,jl,nJ,pI,bP,bY,dL,zZ,vO,gU];simp only[aZ,aV,aU,aA,aI,bQ,bF,aO,aK,ay,aX,aW,bU,bG,bH,bI,bV,bC,bJ,bn,eG,aH,aN,ah,ak,aB,aF,aC,aG];exact⟨by decide,⟨x.a.r,x.t⟩,hx,rfl,rfl,rfl,rfl⟩
theorem XI(x:ZPs)(hx:x.a.r.ok/\x.t<x.a.r.t):ajg x:=by
 unfold ajg;simp only[sU,sS,MQ,MK,ji,jk,jl,nJ,pI,bP,bY,dL,zZ,vO,gU];simp only[aZ,aV,aU,aA,aI,bQ,bF,aO,aK,ay,aX,aW,bU,bG,bH,bI,bV,bC,bJ,bn,eG,aH,aN,ah,ak,aB,aF,aC,aG];exact⟨by decide,⟨x.a.r,x.t⟩,hx,rfl,rfl,rfl,rfl⟩
theorem aau:dX Tryz.prog arB:= .append jy (.cons (bM alB) (.cons (bM uG) .nil))
theorem anC:dX Tryz.prog atY:= .append jy (.cons al8 (.cons (bM aqe) .nil))
theorem ads:bZ Tryz.prog 34 (ql 1).ctr:=cO dD mixed aau 11 noA 200 6 (λ_=>⟨rfl,rfl,rfl,rfl⟩) λx hx=>Eq.mp (ai9 x) (XE x (aZ.1 hx))
theorem adt:bZ Tryz.prog 34 (qm 1).ctr:=cO dD mixed ZU 11 noA 200 6 (λ_=>⟨rfl,rfl,rfl,rfl⟩) λx hx=>Eq.mp (ajf x) (XH x (aZ.1 hx))
theorem adu:bZ Tryz.prog 34 (ql 2).ctr:=cO dD mixed aau 11 noA 200 6 (λ_=>⟨rfl,rfl,rfl,rfl⟩) λx hx=>Eq.mp (ajb x) (XF x (aZ.1 hx))
theorem adv:bZ Tryz.prog 34 (qm 2).ctr:=cO dD mixed ZU 11 noA 200 6 (λ_=>⟨rfl,rfl,rfl,rfl⟩) λx hx=>Eq.mp (ajh x) (XI x (aZ.1 hx))
theorem ajl:bZ Tryz.prog 34 (RQ 2).ctr:=cO dD mixed anC 11 noA 200 6 (λ_=>⟨rfl,rfl,rfl,rfl⟩) λx hx=>Eq.mp (ajd x) (XG x (aZ.1 hx))
theorem XJ{a b:ByteArray}(h:(a.toList==b.toList)=true):a=b:=by
 have h:=beq_iff_eq.1 h;rw[iC,iC]at h;exact ByteArray.ext (Array.toList_inj.1 h)
theorem XK{a b:ByteArray}(h:(a.toList==b.toList)=false):a≠b:=λe=>by subst e;simp at h
theorem Fv{x:ZPs}(h:nextL x.a.L (bkt x.f.key) x.f.pos x.f.past=none):x.miss:=λy hy=>by
 have hy:nextL x.a.L (bkt x.f.key) x.f.pos x.f.past=some y:=hy;rw[h]at hy;cases hy
theorem Fz{x:ZPs}{l:ZLnk}(h:nextL x.a.L (bkt x.f.key) x.f.pos x.f.past=some l)(h1:kl l.key x.f.key=false)(h2:l.key≠x.f.key):x.miss:=λy hy=>by
 have hy:nextL x.a.L (bkt x.f.key) x.f.pos x.f.past=some y:=hy;rw[h]at hy;cases hy;exact⟨h1,h2⟩
theorem nx_lt{f:ZFp}{k:Int}(hk:k=2\/k=3)(h:f.line<0):nx3 f k true=3:=by
 unfold nx3;rw[if_neg (by omega),if_neg (by simp),if_pos h]
theorem nx_ge{f:ZFp}{k:Int}(hk:k=2\/k=3)(h: ¬f.line<0):nx3 f k true=5:=by
 unfold nx3;rw[if_neg (by omega),if_neg (by simp),if_neg h]
theorem aoL{f:ZFp}(h:f.line<0):nx3 f 2 false=3:=by
 unfold nx3;rw[if_neg (by decide),if_neg (by decide),if_pos h]
theorem aoM{f:ZFp}(h: ¬f.line<0):nx3 f 2 false=5:=by
 unfold nx3;rw[if_neg (by decide),if_neg (by decide),if_neg h]
theorem XL(x:ZPs)(hx:x.f.key.size<1099511627776/\x.f.pos.size<1099511627776/\((1:Int)=3->x.miss->x.f.line<0)):ai3 x:=by
 unfold ai3;simp only[zY,oM,qp,vM,zW,zV,MG,zX,ai2,Xx,Xy,sQ,MF,fB,cZ,eH,Xw,MC,Md,sN,sO,Fb,Fe];simp only[aZ,aV,aU,aA,aI,bQ,bF,aO,aK,ay,aX,aW,bU,bG,bH,bI,bV,bC,bJ,bn,eG,aH,aN,ah,ak,aB,aF,aC,aG];refine⟨by decide,x.f.key,hx.1,rfl,⟨x.a.L,x.f.key,x.f.pos,x.f.past⟩,hx.2.1,⟨rfl,rfl,rfl⟩,rfl,λhn=> ?_,λl hl=>bf (λh=> .inl ⟨l,⟨hl,h⟩,rfl,rfl⟩) λh=>bf (λh2=> ?_) λh2=> ?_⟩
 ·exact .inr (.inr ⟨Fv hn,rfl,rfl⟩)
 ·exact .inr (.inl ⟨l,⟨hl,XJ h2⟩,⟨rfl,rfl,rfl,rfl,rfl,rfl,rfl⟩,rfl⟩)
 ·exact .inr (.inr ⟨Fz hl h (XK h2),rfl,rfl⟩)
theorem XM(x:ZPs)(hx:x.f.key.size<1099511627776/\x.f.pos.size<1099511627776/\((2:Int)=3->x.miss->x.f.line<0)):ai5 x:=by
 unfold ai5;simp only[zY,oM,qp,vM,zW,zV,MB,zX,ai0,ai1,Xz,sQ,MF,fB,cZ,eH,Me,MC,Md,Xr,Xu,Xv,sO,sN,Fb,Xt,Fe];simp only[aZ,aV,aU,aA,aI,bQ,bF,aO,aK,ay,aX,aW,bU,bG,bH,bI,bV,bC,bJ,bn,eG,aH,aN,ah,ak,aB,aF,aC,aG];refine⟨by decide,x.f.key,hx.1,rfl,⟨x.a.L,x.f.key,x.f.pos,x.f.past⟩,hx.2.1,⟨rfl,rfl,rfl⟩,rfl,λhn=> ?_,λl hl=>bf (λh=> .inl ⟨l,⟨hl,h⟩,rfl,rfl⟩) λh=>bf (λh2=> ?_) λh2=> ?_⟩
 ·exact bf (λg=> .inr (.inr ⟨Fv hn,aoL (aS g),rfl⟩)) λg=> .inr (.inr ⟨Fv hn,aoM (aT g),rfl⟩)
 ·exact bf (λg=> .inr (.inl ⟨l,⟨hl,XJ h2⟩,⟨nx_lt (.inl rfl) (aS g),rfl,rfl,rfl,rfl,rfl,rfl⟩,rfl⟩)) λg=> .inr (.inl ⟨l,⟨hl,XJ h2⟩,⟨nx_ge (.inl rfl) (aT g),rfl,rfl,rfl,rfl,rfl,rfl⟩,rfl⟩)
 ·exact bf (λg=> .inr (.inr ⟨Fz hl h (XK h2),aoL (aS g),rfl⟩)) λg=> .inr (.inr ⟨Fz hl h (XK h2),aoM (aT g),rfl⟩)
theorem aav:dX Tryz.prog arC:= .append jy (.cons (bM QX) (.cons (bM amS) (.cons (bM aqf) .nil)))
theorem ajm:bZ Tryz.prog 34 (uO 1):=iZ dD mixed aav noA 200 6 (λ_=>rfl) (λ_=>⟨λ_=>rfl,λ_=>rfl,λ_=>rfl,trivial⟩) λx hx=>Eq.mp (ai4 x) (XL x (aZ.1 hx))
theorem adw:bZ Tryz.prog 34 (uO 2):=iZ dD mixed aav noA 200 6 (λ_=>rfl) (λ_=>⟨λ_=>rfl,λ_=>rfl,λ_=>rfl,trivial⟩) λx hx=>Eq.mp (ai6 x) (XM x (aZ.1 hx))
theorem wp_d0{x:ZPw}(h:x.p=0)(N:Nat):x.d'=(⟨x.a.d,x.ln,0,⟨x.draft.jL (λ_=>0) (cpc x.c).toNat,0,64,N⟩⟩:lX).d.store x.ln 0 64 (λq=>x.draft.jL (λ_=>0) (cpc x.c).toNat (0+q)):=by
 unfold ZPw.d';rw[if_pos h,ZQ]
theorem wp_d1{x:ZPw}(h:x.p≠0)(N:Nat):x.d'=(⟨x.a.d,x.ln+x.p,0,⟨λq=>x.blk.enc (64*x.p+q),0,64,N⟩⟩:lX).d.store (x.ln+x.p) 0 64 (λq=>(λq=>x.blk.enc (64*x.p+q)) (0+q)):=by
 unfold ZPw.d';rw[if_neg h];exact(ZQ _ _ _ _ (λq=>x.blk.enc (64*x.p+q))).symm
theorem aoN(x:ZPw){D:ByteArray}(hD:x.f.key++x.f.value=D){t q o B:Nat}(hq:q<64)(ho:o=min (28+63*t) D.size)(hB:(D.extract o D.size).size<=63/\B=1+(D.extract o D.size).size\/63<(D.extract o D.size).size/\B=64):[Value.int .u8 (x.blk.enc (64*(t+1)+q))]=bif Nat.ble 1 q&&Nat.blt q B then [Value.int .u8 (dY (D.extract o D.size) (q-1))]else Cs.eff (λ_=>[Value.int .u8 0]) [(0,[Value.int .u8 2])] q:=by
 have hsz:(D.extract o D.size).size=D.size-o:=by rw[ByteArray.size_extract];omega
 rw[hsz]at hB;rw[JV _ _ _ hq];unfold ZBlk.dat
 rw[show x.blk.key++x.blk.value=D from hD];by_cases h0:q=0
 ·subst h0;rfl
 ·rw[if_neg h0]
  by_cases h1:28+63*t+(q-1)<D.size
  ·rw[if_pos h1,show(Nat.ble 1 q&&Nat.blt q B)=true by rw[bT,Nat.ble_eq_true_of_le (by omega)];simp;omega,aP,ahz (by omega),show o=28+63*t by omega]
  ·rw[if_neg h1,show(Nat.ble 1 q&&Nat.blt q B)=false by rw[bT,Nat.ble_eq_true_of_le (by omega)];simp;omega,aQ]
   show _=bif Nat.beq q 0 then _ else _;rw[dA,decide_eq_false h0];rfl
theorem XO(x:ZPw)(hx:x.ok/\x.p=0):aiQ x:=by
 obtain⟨⟨o1,o2,o3,o4,o5,o6,o7,o8⟩,hp⟩:=hx;have hs:=dR x.c;have hw:ownM x.d'.os=ownM (DevM.os ((⟨x.a.d,x.ln,0,⟨x.draft.jL (λ_=>0) (cpc x.c).toNat,0,64,64⟩⟩:lX).d.store x.ln 0 64 (λq=>x.draft.jL (λ_=>0) (cpc x.c).toNat (0+q)))):=congrArg (λd=>ownM (DevM.os d)) (wp_d0 hp 64);unfold aiQ;simp only[zU,L8,LY,aiP,sF,E5,aiN,aiO,bW,dV,bK,fV,jF,lD,jh,iT,qo,II,Bc,Fa];simp only[aZ,aV,aU,aA,aI,bQ,bF,aO,aK,ay,aX,aW,bU,bG,bH,bI,bV,bC,bJ,bn,eG,aH,aN,ah,ak,aB,aF,aC,aG];refine⟨by decide,x.c,⟨o2,o3⟩,rfl,⟨x.a.d,x.ln,0,⟨x.draft.jL (λ_=>0) (cpc x.c).toNat,0,64,64⟩⟩,⟨o1,by show x.ln<x.a.d.n;omega,⟨aY _,show 64<1099511627776 by decide,ZR ⟨o2,o3⟩⟩,aY _⟩,⟨rfl,rfl,rfl,rfl⟩,⟨rfl,rfl,λ_ _=>rfl⟩,by unfold I64;omega,by unfold I64;omega,bf (λh=> .inr ⟨beq_iff_eq.1 h,hw,rfl⟩) λh=> .inl ⟨beq_eq_false_iff_ne.1 h,by omega,hw,rfl⟩⟩
theorem adx(x:ZPw)(hx:x.ok/\x.p≠0):arE x:=by
 obtain⟨⟨o1,o2,o3,o4,o5,o6,o7,o8⟩,hp⟩:=hx;have hs:=dR x.c;obtain⟨t,ht⟩: ∃t,x.p=t+1:=⟨x.p-1,by omega⟩;have hn:=o1.1;generalize hD:x.f.key++x.f.value=D;have hDs:D.size=x.f.key.size+x.f.value.size:=by rw[<-hD];exact ByteArray.size_append
 have e1:(CS (imax (28+((x.p:Int)-1)*63) 0) D.size).toNat=min (28+63*t) D.size:=by unfold CS imax;omega
 have e0:0<=CS (imax (28+((x.p:Int)-1)*63) 0) D.size:=by unfold CS imax;omega
 have hw:ownM x.d'.os=ownM (DevM.os ((⟨x.a.d,x.ln+x.p,0,⟨λq=>x.blk.enc (64*x.p+q),0,64,64⟩⟩:lX).d.store (x.ln+x.p) 0 64 (λq=>(λq=>x.blk.enc (64*x.p+q)) (0+q)))):=congrArg (λd=>ownM (DevM.os d)) (wp_d1 hp 64);unfold arE;simp only[zU,L8,LY,Xg,E5,sF,Xe,Xf,Xm,Fa,Xh,bW,dV,bK,fV,jF,lD,jh,sG,iT,qo,II,Bc];simp only[aZ,aV,aU,aA,aI,bQ,bF,aO,aK,ay,aX,aW,bU,bG,bH,bI,bV,bC,bJ,bn,eG,aH,aN,ah,ak,aB,aF,aC,aG,hD,e1];refine⟨by decide,bf (λh=>absurd (beq_iff_eq.1 h) (by omega)) λ_=>⟨by decide,by decide,by decide,by omega,by unfold I64;omega,by unfold I64;omega,by unfold I64;omega,by decide,by decide,e0,⟨Nat.min_le_right _ _,aY _⟩,by decide,bf (λh=> ?_) λh=> ?_⟩⟩
 ·refine⟨by unfold I64;omega,⟨x.a.d,x.ln+x.p,0,⟨λq=>x.blk.enc (64*x.p+q),0,64,64⟩⟩,⟨o1,by show x.ln+x.p<x.a.d.n;omega,⟨aY _,show 64<1099511627776 by decide,λk=>ahA _ (by omega)⟩,aY _⟩,⟨rfl,rfl,rfl,rfl⟩,⟨rfl,rfl,λq hq=> ?_⟩,by unfold I64;omega,by unfold I64;omega,bf (λh=> .inr ⟨beq_iff_eq.1 h,hw,rfl⟩) λh=> .inl ⟨beq_eq_false_iff_ne.1 h,hw,rfl⟩⟩
  rw[ht];exact aoN x hD hq rfl (.inl ⟨Nat.le_of_ble_eq_true h,rfl⟩)
 ·refine⟨by unfold I64;omega,⟨x.a.d,x.ln+x.p,0,⟨λq=>x.blk.enc (64*x.p+q),0,64,64⟩⟩,⟨o1,by show x.ln+x.p<x.a.d.n;omega,⟨aY _,show 64<1099511627776 by decide,λk=>ahA _ (by omega)⟩,aY _⟩,⟨rfl,rfl,rfl,rfl⟩,⟨rfl,rfl,λq hq=> ?_⟩,by unfold I64;omega,by unfold I64;omega,bf (λh=> .inr ⟨beq_iff_eq.1 h,hw,rfl⟩) λh=> .inl ⟨beq_eq_false_iff_ne.1 h,hw,rfl⟩⟩
  rw[ht];exact aoN x hD hq rfl (.inr ⟨Nat.not_le.1 λhh=>(by rw[Nat.ble_eq_true_of_le hh]at h;cases h),rfl⟩)
theorem atZ{b:ZBlk}(h:b.may)(hk:b.kind=1):b.key.size<=16/\b.value.size<=400:=by
 rcases h.2 with h|h|h|h<;>first|(exfalso;have:=h.1;omega)|exact⟨h.2.2.1,h.2.2.2.1⟩
noncomputable def ZPr.de(x:ZPr):ZDm:=⟨x.b.cls,x.b.id,x.b.ver,x.b.epoch,x.b.key,x.b.value,x.b.enc⟩
theorem at1{x:ZPr}(hk:x.b.kind=1):x.de.b=x.b:=by
 unfold ZPr.de ZDm.b;rw[<-hk]
theorem XP(x:ZPr)(hx:x.ok/\x.p=0):aiS x:=by
 obtain⟨⟨o1,o2,o3,o4,o5,o6⟩,hp⟩:=hx;have hs:=vF x.b;have h1:=yx o2;have hde:=at1 o3;have hv:=atZ o2 o3;have hn:=o1.1;have by_: ∀q,q<64->x.b.enc q=x.a.d.b (x.ln*193+q):=λq hq=>by
  rw[<-o6 q (by omega),show q/64=0 by omega,show q%64=q by omega,aI]
 unfold aiS;simp only[lF,bW,dV,bK,fV,lD,iT,nI,zQ,E8,L9,LV,jh,qo,II,Bc];simp only[aZ,aV,aU,aA,aI,bQ,bF,aO,aK,ay,aX,aW,bU,bG,bH,bI,bV,bC,bJ,bn,eG,aH,aN,ah,ak,aB,aF,aC,aG];refine⟨by decide,by unfold I64;omega,⟨x.a.d,x.ln⟩,⟨o1,by show x.ln<x.a.d.n;omega⟩,by show(x.ln:Int)=x.ln+0;omega,rfl,by decide,by decide,by unfold I64;omega,bf (λh=> .inl ⟨by simpa using h,by_,rfl⟩) λh=> ?_⟩;have hc:1=spn x.b.cls:=by simpa using h
 have hsn:x.b.dJ=1:=by omega
 have he:64*x.de.b.dJ=64:=by rw[hde,hsn]
 refine⟨x.de,⟨by rw[hde];exact o2,by show x.b.key.size<_;omega,by show x.b.value.size<_;omega,λk _=>by rw[hde];rfl⟩,he,⟨he,λq hq=>by_ q (by omega)⟩,?_⟩;rw[show(x.de.id==x.b.id)=true from beq_self_eq_true _,show(x.de.ver==x.b.ver)=true from beq_self_eq_true _,show(x.de.key.toList==x.b.key.toList)=true from beq_self_eq_true _,jU,jU,Bool.not_true,iq];exact .inr ⟨hc,rfl,rfl⟩
theorem XT(x:ZPr)(hx:x.ok/\x.p≠0):aiU x:=by
 obtain⟨⟨o1,o2,o3,o4,o5,o6⟩,hp⟩:=hx;have hs:=vF x.b;have h1:=yx o2;have hde:=at1 o3;have hv:=atZ o2 o3;have hn:=o1.1;unfold aiU;simp only[lF,EZ,bW,dV,bK,fV,sG,lD,iT,zS,nI,Xl,E8,L9,Xi,LU,jh,zQ,qo,II,Bc];simp only[aZ,aV,aU,aA,aI,bQ,bF,aO,aK,ay,aX,aW,bU,bG,bH,bI,bV,bC,bJ,bn,eG,aH,aN,ah,ak,aB,aF,aC,aG];have hb:Nat.beq (64*x.p) 0=false:=Bool.eq_false_iff.2 λh=>absurd (au h) (by omega)
 simp only[hb];refine⟨aY _,by omega,by omega,by unfold I64;omega,⟨x.a.d,x.ln+x.p⟩,⟨o1,by show x.ln+x.p<x.a.d.n;omega⟩,rfl,rfl,?_⟩;have row: ∀q,q<64*(x.p+1)->x.b.enc q=bif Nat.blt q (64*x.p)then x.b.enc q else x.a.d.b ((x.ln+x.p)*193+(q-64*x.p)):=λq hq=>by
  by_cases hh:q<64*x.p
  ·rw[bg.2 hh];rfl
  ·rw[show Nat.blt q (64*x.p)=false by rw[bT];exact decide_eq_false hh,aQ,<-o6 q (by omega),show q/64=x.p by omega,show q%64=q-64*x.p by omega]
 refine⟨by omega,by omega,by unfold I64;omega,bf (λh=> .inl ⟨by simpa using h,by omega,⟨by omega,row⟩,rfl⟩) λh=> ?_⟩;have hc:(x.p:Int)+1=spn x.b.cls:=by simpa using h
 have hsn:x.b.dJ=x.p+1:=by omega
 have he:64*x.de.b.dJ=64*x.p+64:=by rw[hde,hsn];omega
 refine⟨x.de,⟨by rw[hde];exact o2,by show x.b.key.size<_;omega,by show x.b.value.size<_;omega,λk _=>by rw[hde];rfl⟩,he,⟨he,λq hq=>row q (by omega)⟩,?_⟩;rw[show(x.de.id==x.b.id)=true from beq_self_eq_true _,show(x.de.ver==x.b.ver)=true from beq_self_eq_true _,show(x.de.key.toList==x.b.key.toList)=true from beq_self_eq_true _,jU,jU,Bool.not_true,iq];exact .inr ⟨hc,rfl,rfl⟩
theorem RU(x:ZPp)(hx:(x.pt 2).ok 2 false):Xn x:=by
 unfold Xn;simp only[sK,sH,sJ,Mc,bW,dV,bK,jh,zT,lF];simp only[aZ,aV,aU,aA,aI,bQ,bF,aO,aK,ay,aX,aW,bU,bG,bH,bI,bV,bC,bJ,bn,eG,aH,aN,ah,ak,aB,aF,aC,aG];refine⟨by decide,x.pt 2,hx,⟨rfl,rfl⟩,⟨rfl,rfl,rfl,rfl,rfl,rfl,rfl,rfl,rfl,rfl⟩,?_⟩
 repeat' (first|exact rfl|decide|refine And.intro ?_ ?_)
theorem RV(x:ZPp)(hx:(x.pt 2).bad false):Xo x:=by
 unfold Xo;simp only[sK,sH,sJ,LZ,Mc,LW,Xj,Xk,iT,qo,Bc,bK,bW,dV,fV,jF,lD,jh,zT,lF];simp only[aZ,aV,aU,aA,aI,bQ,bF,aO,aK,ay,aX,aW,bU,bG,bH,bI,bV,bC,bJ,bn,eG,aH,aN,ah,ak,aB,aF,aC,aG];refine⟨by decide,x.pt 2,hx,⟨rfl,rfl⟩,⟨rfl,rfl,rfl,rfl,rfl,rfl,rfl,rfl,rfl,rfl,rfl⟩,x.a.ck,⟨hx.2.1,hx.1⟩,?_⟩
 repeat' (first|exact rfl|decide|refine And.intro ?_ ?_)
theorem RX(x:ZPp)(hx:(x.pt 2).ok 2 true):Xp x:=by
 unfold Xp;simp only[sK,sH,sJ,L6,aiM,bW,dV,bK,jh,zT,lF];simp only[aZ,aV,aU,aA,aI,bQ,bF,aO,aK,ay,aX,aW,bU,bG,bH,bI,bV,bC,bJ,bn,eG,aH,aN,ah,ak,aB,aF,aC,aG];refine⟨by decide,x.pt 2,hx,⟨rfl,rfl⟩,⟨rfl,rfl,rfl,rfl,rfl,rfl,rfl,rfl,rfl,rfl⟩,?_⟩
 repeat' (first|exact rfl|decide|refine And.intro ?_ ?_)
theorem RY(x:ZPp)(hx:(x.pt 2).bad true):Xq x:=by
 unfold Xq;simp only[sK,sH,sJ,LZ,L6,LW,Xj,Xk,iT,qo,Bc,bK,bW,dV,fV,jF,lD,jh,zT,lF];simp only[aZ,aV,aU,aA,aI,bQ,bF,aO,aK,ay,aX,aW,bU,bG,bH,bI,bV,bC,bJ,bn,eG,aH,aN,ah,ak,aB,aF,aC,aG];refine⟨by decide,x.pt 2,hx,⟨rfl,rfl⟩,⟨rfl,rfl,rfl,rfl,rfl,rfl,rfl,rfl,rfl,rfl,rfl⟩,x.a.ck,⟨hx.2.1,hx.1⟩,?_⟩
 repeat' (first|exact rfl|decide|refine And.intro ?_ ?_)
theorem XU(x:ZPs):aiW x:=by
 unfold aiW;simp only[LX,bW,dV,bK,jF,lD,jh]
 first|done|(simp only[aZ,aV,aU,aA,aI,bQ,bF,aO,aK,ay,aX,aW,bU,bG,bH,bI,bV,bC,bJ,bn,eG,aH,aN,ah,ak,aB,aF,aC,aG];done)|(simp only[aZ,aV,aU,aA,aI,bQ,bF,aO,aK,ay,aX,aW,bU,bG,bH,bI,bV,bC,bJ,bn,eG,aH,aN,ah,ak,aB,aF,aC,aG];decide)
theorem XV(x:ZPs):aiY x:=by
 unfold aiY;simp only[LX,bW,dV,bK,jF,lD,jh]
 first|done|(simp only[aZ,aV,aU,aA,aI,bQ,bF,aO,aK,ay,aX,aW,bU,bG,bH,bI,bV,bC,bJ,bn,eG,aH,aN,ah,ak,aB,aF,aC,aG];done)|(simp only[aZ,aV,aU,aA,aI,bQ,bF,aO,aK,ay,aX,aW,bU,bG,bH,bI,bV,bC,bJ,bn,eG,aH,aN,ah,ak,aB,aF,aC,aG];decide)
theorem aaw:dX Tryz.prog arD:= .append jy (.cons Cm (.cons (bM aiL) (.cons (bM agA) .nil)))
theorem XW:bZ Tryz.prog 34 (EX 2).ctr:=cO dD mixed ZT 11 noA 200 6 (λ_=>⟨rfl,rfl,rfl,rfl⟩) λx hx=>Eq.mp (aiR x) (XO x (aZ.1 hx))
theorem ady:bZ Tryz.prog 34 EY.ctr:=cO dD mixed ZT 11 noA 200 6 (λ_=>⟨rfl,rfl,rfl,rfl⟩) λx hx=>Eq.mp (anB x) (adx x (aZ.1 hx))
theorem ajn:bZ Tryz.prog 34 RS.ctr:=cO dD mixed aaw 11 noA 200 6 (λ_=>⟨rfl,rfl,rfl,rfl⟩) λx hx=>Eq.mp (aiT x) (XP x (aZ.1 hx))
theorem ajo:bZ Tryz.prog 34 aat.ctr:=cO dD mixed aaw 12 noA 200 6 (λ_=>⟨rfl,rfl,rfl,rfl⟩) λx hx=>Eq.mp (aiV x) (XT x (aZ.1 hx))
theorem adz:dX Tryz.prog (anz 2 false):= .append jy (.cons (bM ant) .nil)
theorem adA:dX Tryz.prog (anA 2 false):= .append jy (.cons (bM anv) (.cons (bM uG) .nil))
theorem ajp:bZ Tryz.prog 34 (LP 2 false):=dM dD mixed adz noA 200 6 (λ_=>rfl) (λ_=>rfl) λx hx=>Eq.mp (ado x) (RU x (aZ.1 hx))
theorem ajq:bZ Tryz.prog 34 (LQ 2 false).ctr:=cO dD mixed adA 11 noA 200 6 (λ_=>⟨rfl,rfl,rfl,rfl⟩) λx hx=>Eq.mp (adp x) (RV x (aZ.1 hx))
theorem adB:dX Tryz.prog (anz 2 true):= .append jy (.cons (bM anu) .nil)
theorem adC:dX Tryz.prog (anA 2 true):= .append jy (.cons (bM anw) (.cons (bM uG) .nil))
theorem ajr:bZ Tryz.prog 34 (LP 2 true):=dM dD mixed adB noA 200 6 (λ_=>rfl) (λ_=>rfl) λx hx=>Eq.mp (adq x) (RX x (aZ.1 hx))
theorem ajs:bZ Tryz.prog 34 (LQ 2 true).ctr:=cO dD mixed adC 11 noA 200 6 (λ_=>⟨rfl,rfl,rfl,rfl⟩) λx hx=>Eq.mp (adr x) (RY x (aZ.1 hx))
theorem ajt:bZ Tryz.prog 34 (yF 1):=dM dD mixed jy noA 200 6 (λ_=>rfl) (λ_=>rfl) λx _=>Eq.mp (aiX x) (XU x)
theorem aju:bZ Tryz.prog 34 (yF 2):=dM dD mixed jy noA 200 6 (λ_=>rfl) (λ_=>rfl) λx _=>Eq.mp (aiZ x) (XV x)
def XY(a:ZSto):Prop:=0=0/\0=0/\0=0/\0=0/\0=0/\0=0/\0=0/\0=0/\a.id=a.id/\a.ver=a.ver/\(Nat.beq a.n 0=Nat.beq a.n 0/\a.n=a.n)/\True
def ajv(a:ZSto)(b:Lks):Prop:=ownM a.b.os=ownM a.b.os/\tabA a.L=tabA b/\ordA a.L=ordA a.L/\ownM a.l.os=ownM a.l.os/\(Nat.beq a.n 0=Nat.beq a.n 0/\a.n=a.n/\ ∀q:Nat,q<a.n->[Value.int .i64 (ZEff.kind (a.e q)),Value.string (ZEff.key (a.e q)),Value.string (ZEff.value (a.e q)),Value.int .u64 (ZEff.id (a.e q)),Value.int .u64 (ZEff.ver (a.e q)),Value.int .u64 (ZEff.epoch (a.e q)),Value.int .i64 (ZEff.group (a.e q))]=[Value.int .i64 (ZEff.kind (a.e q)),Value.string (ZEff.key (a.e q)),Value.string (ZEff.value (a.e q)),Value.int .u64 (ZEff.id (a.e q)),Value.int .u64 (ZEff.ver (a.e q)),Value.int .u64 (ZEff.epoch (a.e q)),Value.int .i64 (ZEff.group (a.e q))])/\True
def jJ(a:ZSto)(b:Lks):Prop:=XY a/\(0=0/\(1:Int)=1/\(0:Int)=0/\(0:Int)=0/\True)/\ownM a.d.os=ownM a.d.os/\ownM a.p.os=ownM a.p.os/\ownM a.r.os=ownM a.r.os/\ownM a.ck.os=ownM a.ck.os/\ajv a b
def fH:Prop:=Value.slice none 0 0=Value.slice none 0 0
def yH(a:ZFp)(b:ZFp):Prop:=fH/\(0:Int)=0/\fH/\a.code=b.code/\a.found=b.found/\a.ans=b.ans/\fH/\fH/\a.aep=b.aep/\True
def XZ(a:ZFp)(b:ZFp):Prop:=a.cls=b.cls/\a.piece=b.piece/\yH a b
def Ae(a:ZFp)(b:ZFp):Prop:=a.line=b.line/\XZ a b
def MW(a:ZFp)(b:ZFp):Prop:=(0:Int)=0/\a.had=b.had/\a.old.key=b.old.key/\a.old.id=b.old.id/\a.old.ver=b.old.ver/\a.old.line=b.old.line/\a.old.cls=b.old.cls/\Ae a b
def MX(a:ZFp)(b:ZFp):Prop:=a.key=b.key/\a.value=b.value/\a.to=b.to/\fH/\(1:Int)=1/\a.epoch=b.epoch/\a.pos=b.pos/\a.past=b.past/\MW a b
def MZ(a:ZFp)(b:ZFp)(c:ByteArray)(d:ByteArray):Prop:=a.key=b.key/\a.value=b.value/\a.to=b.to/\fH/\(1:Int)=1/\a.epoch=b.epoch/\c=d/\true=true/\MW a b
def Na(a:ZFp)(b:ZFp):Prop:=a.epoch=b.epoch/\a.pos=b.pos/\a.past=b.past/\(0:Int)=0/\false=false/\ByteArray.mk #[]=ByteArray.mk #[]/\(0:Int)=0/\(0:Int)=0/\(0:Int)=0/\(0:Int)=0/\Ae a b
def Nb(a:ZFp)(b:ZFp)(c:ByteArray):Prop:=a.epoch=b.epoch/\a.pos=c/\a.past=true/\(0:Int)=0/\false=b.had/\ByteArray.mk #[]=b.old.key/\0=b.old.id/\0=b.old.ver/\0=b.old.line/\0=b.old.cls/\Ae a b
def Nc(a:ZFp)(b:ZFp)(c:ByteArray):Prop:=a.epoch=b.epoch/\c=b.pos/\true=b.past/\(0:Int)=0/\a.had=false/\a.old.key=ByteArray.mk #[]/\a.old.id=0/\a.old.ver=0/\a.old.line=0/\a.old.cls=0/\Ae a b
def X0:Prop:=True/\True/\True/\0=0/\True/\True/\True/\True/\True/\True
def Nh(a:Lks)(b:Lks):Prop:=(True/\True/\X0)/\tabA a=tabA b/\True
def X3(a:ZFp)(b:ZFp):Prop:=a.line=b.line/\a.cls=b.cls/\ite ((1:Int)=1) (0:Int) a.piece=b.piece/\yH a b
def X4(a:ZFp)(b:ZFp):Prop:=a.line=b.line/\a.cls=b.cls/\a.piece=ite ((1:Int)=1) (0:Int) b.piece/\yH a b
def X5(a:ZFp)(b:ZFp):Prop:=a.line=b.line/\a.cls=b.cls/\ite ((2:Int)=1) (0:Int) a.piece=b.piece/\yH a b
def X6(a:ZFp)(b:ZFp):Prop:=a.line=b.line/\a.cls=b.cls/\a.piece=ite ((2:Int)=1) (0:Int) b.piece/\yH a b
def ajw(x:ZPs):Prop:=
 ∃x_1:ZPs,Hd (x_1.f.key.size<1099511627776/\x_1.f.pos.size<1099511627776/\((1:Int)=3->x_1.miss->x_1.f.line<0))/\(0=0/\(x_1.t:Int)=(x.t:Int)/\((1:Int)=1/\MX x_1.f x.f)/\True)/\Nh x_1.a.L x.a.L/\(∀y:ZLnk,Hd (x_1.goes y)->(∃y_1:ZLnk,Hd (x.goes y_1)/\((1:Int)=1/\MZ x.f x_1.f y_1.key y.key)/\jJ x.a x_1.a.L)\/(∃y_1:ZLnk,Hd (x.hit y_1)/\((1:Int)=1/\x.f.key=x_1.f.key/\x.f.value=x_1.f.value/\x.f.to=x_1.f.to/\fH/\nx3 x.f (1:Int) true=1/\x.f.epoch=x_1.f.epoch/\x.f.pos=y.key/\x.f.past=true/\(0:Int)=0/\true=x_1.f.had/\y_1.key=x_1.f.old.key/\y_1.id=x_1.f.old.id/\y_1.ver=x_1.f.old.ver/\y_1.line=x_1.f.old.line/\y_1.cls=x_1.f.old.cls/\X3 x.f x_1.f)/\jJ x.a x_1.a.L)\/ ∃y_1:Unit,Hd x.miss/\((1:Int)=1/\x.f.key=x_1.f.key/\x.f.value=x_1.f.value/\x.f.to=x_1.f.to/\fH/\nx3 x.f (1:Int) false=1/\Nb x.f x_1.f y.key)/\jJ x.a x_1.a.L)/\(∀y:ZLnk,Hd (x_1.hit y)->(∃y_1:ZLnk,Hd (x.goes y_1)/\((1:Int)=1/\x.f.key=x_1.f.key/\x.f.value=x_1.f.value/\x.f.to=x_1.f.to/\fH/\1=nx3 x_1.f (1:Int) true/\x.f.epoch=x_1.f.epoch/\y_1.key=x_1.f.pos/\true=x_1.f.past/\(0:Int)=0/\x.f.had=true/\x.f.old.key=y.key/\x.f.old.id=y.id/\x.f.old.ver=y.ver/\x.f.old.line=y.line/\x.f.old.cls=y.cls/\X4 x.f x_1.f)/\jJ x.a x_1.a.L)\/(∃y_1:ZLnk,Hd (x.hit y_1)/\((1:Int)=1/\x.f.key=x_1.f.key/\x.f.value=x_1.f.value/\x.f.to=x_1.f.to/\fH/\nx3 x.f (1:Int) true=nx3 x_1.f (1:Int) true/\x.f.epoch=x_1.f.epoch/\x.f.pos=x_1.f.pos/\x.f.past=x_1.f.past/\(0:Int)=0/\true=true/\y_1.key=y.key/\y_1.id=y.id/\y_1.ver=y.ver/\y_1.line=y.line/\
 y_1.cls=y.cls/\x.f.line=x_1.f.line/\x.f.cls=x_1.f.cls/\ite ((1:Int)=1) (0:Int) x.f.piece=ite ((1:Int)=1) (0:Int) x_1.f.piece/\yH x.f x_1.f)/\jJ x.a x_1.a.L)\/ ∃y_1:Unit,Hd x.miss/\((1:Int)=1/\x.f.key=x_1.f.key/\x.f.value=x_1.f.value/\x.f.to=x_1.f.to/\fH/\nx3 x.f (1:Int) false=nx3 x_1.f (1:Int) true/\x.f.epoch=x_1.f.epoch/\x.f.pos=x_1.f.pos/\x.f.past=x_1.f.past/\(0:Int)=0/\false=true/\ByteArray.mk #[]=y.key/\0=y.id/\0=y.ver/\0=y.line/\0=y.cls/\X4 x.f x_1.f)/\jJ x.a x_1.a.L)/\ ∀y:Unit,Hd x_1.miss->(∃y_1:ZLnk,Hd (x.goes y_1)/\((1:Int)=1/\x.f.key=x_1.f.key/\x.f.value=x_1.f.value/\x.f.to=x_1.f.to/\fH/\1=nx3 x_1.f (1:Int) false/\Nc x.f x_1.f y_1.key)/\jJ x.a x_1.a.L)\/(∃y_1:ZLnk,Hd (x.hit y_1)/\((1:Int)=1/\x.f.key=x_1.f.key/\x.f.value=x_1.f.value/\x.f.to=x_1.f.to/\fH/\nx3 x.f (1:Int) true=nx3 x_1.f (1:Int) false/\x.f.epoch=x_1.f.epoch/\x.f.pos=x_1.f.pos/\x.f.past=x_1.f.past/\(0:Int)=0/\true=false/\y_1.key=ByteArray.mk #[]/\y_1.id=0/\y_1.ver=0/\y_1.line=0/\y_1.cls=0/\X3 x.f x_1.f)/\jJ x.a x_1.a.L)\/ ∃y_1:Unit,Hd x.miss/\((1:Int)=1/\x.f.key=x_1.f.key/\x.f.value=x_1.f.value/\x.f.to=x_1.f.to/\fH/\nx3 x.f (1:Int) false=nx3 x_1.f (1:Int) false/\Na x.f x_1.f)/\jJ x.a x_1.a.L
theorem ajx(x:ZPs):ajw x=ctrT (uO 1) ((sD 1).args x) (hO 11 (flatP 1 ((sD 1).l x))) (λv h'=>endsPK 1 x v h' (sD 1).outs):=by kernel_rfl
def ajy(x:ZPs):Prop:=
 ∃x_1:ZPs,Hd (x_1.f.key.size<1099511627776/\x_1.f.pos.size<1099511627776/\((2:Int)=3->x_1.miss->x_1.f.line<0))/\(0=0/\(x_1.t:Int)=(x.t:Int)/\((2:Int)=2/\MX x_1.f x.f)/\True)/\Nh x_1.a.L x.a.L/\(∀y:ZLnk,Hd (x_1.goes y)->(∃y_1:ZLnk,Hd (x.goes y_1)/\((2:Int)=2/\MZ x.f x_1.f y_1.key y.key)/\jJ x.a x_1.a.L)\/(∃y_1:ZLnk,Hd (x.hit y_1)/\((2:Int)=2/\x.f.key=x_1.f.key/\x.f.value=x_1.f.value/\x.f.to=x_1.f.to/\fH/\nx3 x.f (2:Int) true=1/\x.f.epoch=x_1.f.epoch/\x.f.pos=y.key/\x.f.past=true/\(0:Int)=0/\true=x_1.f.had/\y_1.key=x_1.f.old.key/\y_1.id=x_1.f.old.id/\y_1.ver=x_1.f.old.ver/\y_1.line=x_1.f.old.line/\y_1.cls=x_1.f.old.cls/\X5 x.f x_1.f)/\jJ x.a x_1.a.L)\/ ∃y_1:Unit,Hd x.miss/\((2:Int)=2/\x.f.key=x_1.f.key/\x.f.value=x_1.f.value/\x.f.to=x_1.f.to/\fH/\nx3 x.f (2:Int) false=1/\Nb x.f x_1.f y.key)/\jJ x.a x_1.a.L)/\(∀y:ZLnk,Hd (x_1.hit y)->(∃y_1:ZLnk,Hd (x.goes y_1)/\((2:Int)=2/\x.f.key=x_1.f.key/\x.f.value=x_1.f.value/\x.f.to=x_1.f.to/\fH/\1=nx3 x_1.f (2:Int) true/\x.f.epoch=x_1.f.epoch/\y_1.key=x_1.f.pos/\true=x_1.f.past/\(0:Int)=0/\x.f.had=true/\x.f.old.key=y.key/\x.f.old.id=y.id/\x.f.old.ver=y.ver/\x.f.old.line=y.line/\x.f.old.cls=y.cls/\X6 x.f x_1.f)/\jJ x.a x_1.a.L)\/(∃y_1:ZLnk,Hd (x.hit y_1)/\((2:Int)=2/\x.f.key=x_1.f.key/\x.f.value=x_1.f.value/\x.f.to=x_1.f.to/\fH/\nx3 x.f (2:Int) true=nx3 x_1.f (2:Int) true/\x.f.epoch=x_1.f.epoch/\x.f.pos=x_1.f.pos/\x.f.past=x_1.f.past/\(0:Int)=0/\true=true/\y_1.key=y.key/\y_1.id=y.id/\y_1.ver=y.ver/\y_1.line=y.line/\
 y_1.cls=y.cls/\x.f.line=x_1.f.line/\x.f.cls=x_1.f.cls/\ite ((2:Int)=1) (0:Int) x.f.piece=ite ((2:Int)=1) (0:Int) x_1.f.piece/\yH x.f x_1.f)/\jJ x.a x_1.a.L)\/ ∃y_1:Unit,Hd x.miss/\((2:Int)=2/\x.f.key=x_1.f.key/\x.f.value=x_1.f.value/\x.f.to=x_1.f.to/\fH/\nx3 x.f (2:Int) false=nx3 x_1.f (2:Int) true/\x.f.epoch=x_1.f.epoch/\x.f.pos=x_1.f.pos/\x.f.past=x_1.f.past/\(0:Int)=0/\false=true/\ByteArray.mk #[]=y.key/\0=y.id/\0=y.ver/\0=y.line/\0=y.cls/\X6 x.f x_1.f)/\jJ x.a x_1.a.L)/\ ∀y:Unit,Hd x_1.miss->(∃y_1:ZLnk,Hd (x.goes y_1)/\((2:Int)=2/\x.f.key=x_1.f.key/\x.f.value=x_1.f.value/\x.f.to=x_1.f.to/\fH/\1=nx3 x_1.f (2:Int) false/\Nc x.f x_1.f y_1.key)/\jJ x.a x_1.a.L)\/(∃y_1:ZLnk,Hd (x.hit y_1)/\((2:Int)=2/\x.f.key=x_1.f.key/\x.f.value=x_1.f.value/\x.f.to=x_1.f.to/\fH/\nx3 x.f (2:Int) true=nx3 x_1.f (2:Int) false/\x.f.epoch=x_1.f.epoch/\x.f.pos=x_1.f.pos/\x.f.past=x_1.f.past/\(0:Int)=0/\true=false/\y_1.key=ByteArray.mk #[]/\y_1.id=0/\y_1.ver=0/\y_1.line=0/\y_1.cls=0/\X5 x.f x_1.f)/\jJ x.a x_1.a.L)\/ ∃y_1:Unit,Hd x.miss/\((2:Int)=2/\x.f.key=x_1.f.key/\x.f.value=x_1.f.value/\x.f.to=x_1.f.to/\fH/\nx3 x.f (2:Int) false=nx3 x_1.f (2:Int) false/\Na x.f x_1.f)/\jJ x.a x_1.a.L
theorem ajz(x:ZPs):ajy x=ctrT (uO 2) ((sD 2).args x) (hO 11 (flatP 1 ((sD 2).l x))) (λv h'=>endsPK 1 x v h' (sD 2).outs):=by kernel_rfl
theorem X7(x:ZPs)(hx:(sD 1).pre x):ajw x:=by
 unfold ajw;simp only[MX,Nh,MZ,jJ,fH,X3,Nb,X4,yH,Nc,Na,Ae,XZ,XY,ajv,MW,X0];simp only[aZ,aV,aU,aA,aI,bQ,bF,aO,aK,ay,aX,aW,bU,bG,bH,bI,bV,bC,bJ,bn,eG,aH,aN,ah,ak,aB,aF,aC,aG];refine⟨x,aZ.1 hx,?_,?_,?_,?_,?_⟩
 ·simp
 ·rfl
 ·exactλy h=> .inl ⟨y,h,by simp,by simp⟩
 ·exactλy h=> .inr (.inl ⟨y,h,by simp,by simp⟩)
 ·exactλh=> .inr (.inr ⟨h,by simp,by simp⟩)
theorem X8(x:ZPs)(hx:(sD 2).pre x):ajy x:=by
 unfold ajy;simp only[MX,Nh,MZ,jJ,fH,X5,Nb,X6,yH,Nc,Na,Ae,XZ,XY,ajv,MW,X0];simp only[aZ,aV,aU,aA,aI,bQ,bF,aO,aK,ay,aX,aW,bU,bG,bH,bI,bV,bC,bJ,bn,eG,aH,aN,ah,ak,aB,aF,aC,aG];refine⟨x,aZ.1 hx,?_,?_,?_,?_,?_⟩
 ·simp
 ·rfl
 ·exactλy h=> .inl ⟨y,h,by simp,by simp⟩
 ·exactλy h=> .inr (.inl ⟨y,h,by simp,by simp⟩)
 ·exactλh=> .inr (.inr ⟨h,by simp,by simp⟩)
theorem ajA:bZ Tryz.prog 34 (sD 1).ctr:=pG (bM ajm) 11 (λ_=>⟨rfl,rfl,rfl,rfl⟩) λx hx=>Eq.mp (ajx x) (X7 x hx)
theorem ajB:bZ Tryz.prog 34 (sD 2).ctr:=pG (bM adw) 11 (λ_=>⟨rfl,rfl,rfl,rfl⟩) λx hx=>Eq.mp (ajz x) (X8 x hx)
structure ZKs where
 a:ZSto
 f:ZFp
 ph:Int
namespace ZKs
def ps(s:ZKs)(t:Nat):ZPs:=⟨s.a,s.f,t⟩
def pp(s:ZKs)(t ln:Nat):ZPp:=⟨s.a,s.f,t,ln⟩
end ZKs
def wP(k:Int)(t:Nat)(b:ZBlk)(n:Nat)(s:ZKs)(Q:Nat->ZKs->Prop):Prop:=
 (s.ph=0/\n=0/\(s.a.r.ok/\s.a.c.ok/\s.a.ph<=4/\t<s.a.r.t/\s.a.r.has t=0)/\(goodP k s.f.key s.f.value≠0->Q 0 ⟨s.a,{s.f with code:=goodP k s.f.key s.f.value},7⟩)/\(goodP k s.f.key s.f.value=0->Q 0 ⟨s.a.FX t s.a.r.now,{s.f with epoch:=s.a.c.now},1⟩))\/
 (s.ph=1/\n=0/\(s.f.key.size<1099511627776/\s.f.pos.size<1099511627776/\(k=3->(s.ps t).miss->s.f.line<0))/\(∀y,(s.ps t).goes y->Q 0 ⟨s.a,{s.f with pos:=y.key,past:=true},1⟩)/\(∀y,(s.ps t).hit y->Q 0 ⟨s.a,{s.f with had:=true,old:=y,piece:=if k=1 then 0 else s.f.piece},nx3 s.f k true⟩)/\((s.ps t).miss->Q 0 ⟨s.a,{s.f with had:=false,old:=iO},nx3 s.f k false⟩))\/
 (s.ph=1/\n=0/\k=3/\ ∃i j,(s.f.key.size<1099511627776/\s.f.pos.size<1099511627776/\fJ.ok ⟨s.a.p,i,j⟩/\(s.ps t).miss)/\s.f.line=fJ.line ⟨s.a.p,i,j⟩/\Q 0 ⟨s.a.Xd (s.a.p.give i j),{s.f with had:=false,old:=iO,line:= -1},6⟩)\/
 (s.ph=2/\k=1/\ ∃ln:Nat,s.f=(ZPr.mk s.a s.f t b ln n).fr n/\(ZPr.mk s.a s.f t b ln n).ok/\(n+1≠spn b.cls->Q (n+1) ⟨s.a,{s.f with piece:=(n+1:Nat)},2⟩)/\(n+1=spn b.cls->Q 0 ⟨s.a,{s.f with piece:=(n+1:Nat),found:=true,ans:=b.value},6⟩))\/
 (s.ph=3/\n=0/\(k=2\/k=3)/\(s.a.p.ok/\s.f.key.size<=16/\s.f.value.size<=400)/\((∀i,i<s.a.p.n->s.a.p.cls i≠ -1/\s.a.p.full ((s.ps t).nd k) i)->Q 0 ⟨s.a,{s.f with cls:=(s.ps t).nd k,code:=4},6⟩)/\
  ∀i j:Nat,s.a.p.takes ((s.ps t).nd k) i j->Q 0 ⟨s.a.Xd (s.a.p.take ((s.ps t).nd k) i j),{s.f with cls:=(s.ps t).nd k,line:=2+i*8+j*spn ((s.ps t).nd k),piece:=0},4⟩)\/
 (s.ph=4/\n=0/\ ∃ln p:Nat,(k=2\/k=3/\p=0)/\s.f=(ZPw.mk s.a s.f t ln s.f.cls p).fr p/\(ZPw.mk s.a s.f t ln s.f.cls p).ok/\(p+1≠spn s.f.cls->Q 0 ⟨s.a.Gy (ZPw.mk s.a s.f t ln s.f.cls p).d',{s.f with piece:=(p+1:Nat)},4⟩)/\(p+1=spn s.f.cls->Q 0 ⟨s.a.Gy (ZPw.mk s.a s.f t ln s.f.cls p).d',{s.f with piece:=0},5⟩))\/
 (s.ph=5/\n=0/\(k=2\/k=3/\s.f.had=true)/\ ∃ln:Nat,s.f.line=ln/\((s.pp t ln).pt k).ok k s.f.had/\Q 0 ⟨((s.pp t ln).pt k).cg.res k s.f.had,{s.f with found:=s.f.had,aep:=s.f.epoch,line:= -1},6⟩)\/
 (s.ph=5/\n=0/\(k=2\/k=3/\s.f.had=true)/\ ∃ln:Nat,s.f.line=ln/\((s.pp t ln).pt k).bad s.f.had/\Q 0 ⟨s.a,{s.f with epoch:=s.a.c.now,pos:=emp,past:=false,had:=false,old:=iO},1⟩)\/
 (s.ph=6/\n=0/\(s.a.r.ok/\t<s.a.r.t)/\Q 0 ⟨s.a.FX t 0,s.f,7⟩)\/
 (s.ph=7/\n=0/\Q 0 s)
structure ZWk where
 s:ZKs
 t:Nat
 b:ZBlk
 n:Nat
 q:Nat->ZKs->Prop
noncomputable def RZ(k:Int):Ctr:={X:=ZWk,args:=λx=>[.ptr 0 0,i64 x.t,x.s.f.av k x.s.ph gV],k:=1,os:=λx=>[.abs (ownM x.s.a.os)],pre:=λx=>Hd (x.n=0/\wP k x.t x.b 0 x.s x.q),outs:=[
 {Y:=ZKs,post:=λx y=>Hd (x.q 0 y),ret:=λ_ y=>y.f.av k y.ph gV,m:=1,os:=λ_ y=>[.abs (ownM y.a.os)]},
 {Y:=ZKs,post:=λx y=>Hd (x.q 1 y/\y.ph=2/\k=1),ret:=λ_ y=>y.f.av k 2 (.slW 1 0 1 64),m:=2,os:=λx y=>[.abs (ownM y.a.os),SQ x.b.enc 64]}]}
noncomputable def aax(k:Int):Ctr:={X:=ZWk,args:=λx=>[.ptr 0 0,i64 x.t,x.s.f.av k x.s.ph gV],k:=1,os:=λx=>[.abs (ownM x.s.a.os)],pre:=λx=>Hd (x.n=0/\wP k x.t x.b 0 x.s x.q),outs:=[
 {Y:=ZKs,post:=λx y=>Hd (x.q 0 y),ret:=λ_ y=>y.f.av k y.ph gV,m:=1,os:=λ_ y=>[.abs (ownM y.a.os)]}]}
noncomputable def aoO:Ctr:={X:=ZWk,args:=λx=>[.ptr 0 0,i64 x.t,x.s.f.av 1 2 (.slW 1 0 1 (64*x.n))],k:=2,os:=λx=>[.abs (ownM x.s.a.os),SQ x.b.enc (64*x.n)],pre:=λx=>Hd (x.n≠0/\x.s.ph=2/\wP 1 x.t x.b x.n x.s x.q),outs:=[
 {Y:=ZKs,post:=λx y=>Hd (x.q 0 y),ret:=λ_ y=>y.f.av 1 y.ph gV,m:=2,os:=λx y=>[.abs (ownM y.a.os),SQ x.b.enc (64*x.n)]},
 {Y:=ZKs,post:=λx y=>Hd (x.q (x.n+1) y/\y.ph=2),ret:=λx y=>y.f.av 1 2 (.slW 2 0 1 (64*(x.n+1))),m:=3,os:=λx y=>[.abs (ownM y.a.os),SQ x.b.enc (64*x.n),SQ x.b.enc (64*(x.n+1))]}]}
theorem ajC{X:Type}{x:X}{v:AV}{h':Heap}{o p q:Out X}(h:kS x v h' [o,p,q]):(∃y,o.post x y/\v=o.ret x y/\h'=hO o.m (o.os x y))\/(∃y,p.post x y/\v=p.ret x y/\h'=hO p.m (p.os x y))\/ ∃y,q.post x y/\v=q.ret x y/\h'=hO q.m (q.os x y):=by
 rw[dU]at h;rcases h with h|h
 ·exact .inl h
 ·exact .inr (pz h)
theorem aay{k:Int}(hen:bZ Tryz.prog 34 (ql k).ctr)(hfi:bZ Tryz.prog 34 (sD k).ctr)(hgi:k=3->bZ Tryz.prog 34 atX.ctr)(hre:k=1->bZ Tryz.prog 34 RS.ctr)(hta:k=2\/k=3->bZ Tryz.prog 34 (RQ k).ctr)(hwr:k=2\/k=3->bZ Tryz.prog 34 (EX k).ctr)(hw1:k=2->bZ Tryz.prog 34 EY.ctr)(hpu: ∀had,k=2\/k=3/\had=true->bZ Tryz.prog 34 (LP k had))(hrt: ∀had,k=2\/k=3/\had=true->bZ Tryz.prog 34 (LQ k had).ctr)(hle:bZ Tryz.prog 34 (qm k).ctr)(hdo:bZ Tryz.prog 34 (yF k)):bZ Tryz.prog 34 (RZ k):=je λx hx=>by
 obtain⟨⟨a,f,ph⟩,t,b,n,q⟩:=x;obtain⟨hn,hx⟩:=aZ.1 hx;have hn:n=0:=hn;subst hn;rcases hx with ⟨hp,_,h,q1,q2⟩|⟨hp,_,h,q1,q2,q3⟩|⟨hp,_,h3,i,j,h,hl,q1⟩|⟨hp,h1,ln,hf,h,q1,q2⟩|⟨hp,_,h3,h,q1,q2⟩|⟨hp,_,ln,p,h3,hf,h,q1,q2⟩|⟨hp,_,h3,ln,hl,h,q1⟩|⟨hp,_,h3,ln,hl,h,q1⟩|⟨hp,_,h,q1⟩|⟨hp,_,q1⟩
 all_goals (have hp:ph=_:=hp;subst hp)
 ·refine⟨_,hen,rfl,⟨a,f,t⟩,aZ.2 h,rfl,rfl,λv h' hh=> ?_⟩
  rcases pz hh with ⟨y,h0,e1,e2⟩|⟨y,h0,e1,e2⟩
  ·exact eP ⟨⟨a,_,7⟩,aZ.2 (q1 (aZ.1 h0)),e1,e2⟩
  ·exact eP ⟨⟨a.FX t a.r.now,{f with epoch:=a.c.now},1⟩,aZ.2 (q2 (aZ.1 h0)),e1,e2⟩
 ·refine⟨_,hfi,rfl,⟨a,f,t⟩,aZ.2 h,rfl,rfl,λv h' hh=> ?_⟩
  rcases ajC hh with ⟨y,h0,e1,e2⟩|⟨y,h0,e1,e2⟩|⟨y,h0,e1,e2⟩
  ·exact eP ⟨⟨a,{f with pos:=y.key,past:=true},1⟩,aZ.2 (q1 y (aZ.1 h0)),e1,e2⟩
  ·exact eP ⟨⟨a,_,_⟩,aZ.2 (q2 y (aZ.1 h0)),e1,e2⟩
  ·exact eP ⟨⟨a,_,_⟩,aZ.2 (q3 (aZ.1 h0)),e1,e2⟩
 ·subst h3
  have hl:f.line=fJ.line ⟨a.p,i,j⟩:=hl;have hf:f={f with line:=fJ.line ⟨a.p,i,j⟩}:=by rw[<-hl]
  refine⟨_,hgi rfl,rfl,⟨a,f,t,i,j⟩,aZ.2 h,by show [_,_,_]=[_,_,_];rw[hf];first|done|rfl,rfl,λv h' hh=> ?_⟩;obtain⟨y,h0,e1,e2⟩:=ku hh;exact eP ⟨⟨a.Xd (a.p.give i j),{f with had:=false,old:=iO,line:= -1},6⟩,aZ.2 q1,e1,e2⟩
 ·subst h1
  have hf:f=(ZPr.mk a f t b ln 0).fr 0:=hf;refine⟨_,hre rfl,rfl,⟨a,f,t,b,ln,0⟩,aZ.2 ⟨h,rfl⟩,by show [_,_,_]=[_,_,_];rw[hf];first|done|rfl,rfl,λv h' hh=> ?_⟩;rcases pz hh with ⟨y,h0,e1,e2⟩|⟨y,h0,e1,e2⟩
  ·exact AO ⟨⟨a,{f with piece:=(1:Nat)},2⟩,aZ.2 ⟨q1 (aZ.1 h0),rfl,rfl⟩,e1.trans (by rw[hf];first|done|rfl),e2⟩
  ·exact eP ⟨⟨a,{f with piece:=(1:Nat),found:=true,ans:=b.value},6⟩,aZ.2 (q2 (aZ.1 h0)),e1.trans (by rw[hf];first|done|rfl),e2⟩
 ·refine⟨_,hta h3,rfl,⟨a,f,t⟩,aZ.2 h,rfl,rfl,λv h' hh=> ?_⟩
  rcases pz hh with ⟨y,h0,e1,e2⟩|⟨y,h0,e1,e2⟩
  ·exact eP ⟨⟨a,_,6⟩,aZ.2 (q1 (aZ.1 h0)),e1,e2⟩
  ·exact eP ⟨⟨_,_,4⟩,aZ.2 (q2 _ _ (aZ.1 h0)),e1,e2⟩
 ·have hf:f={f with line:=(ln:Int),cls:=f.cls,piece:=(p:Int)}:=hf
  by_cases h0:p=0
  ·subst h0
   refine⟨_,hwr (h3.imp id And.left),rfl,⟨a,f,t,ln,f.cls,0⟩,aZ.2 ⟨h,rfl⟩,by show [_,_,_]=[_,_,_];rw[hf];first|done|rfl,rfl,λv h' hh=> ?_⟩;rcases pz hh with ⟨y,h0,e1,e2⟩|⟨y,h0,e1,e2⟩
   ·exact eP ⟨⟨a.Gy (ZPw.mk a f t ln f.cls 0).d',{f with piece:=(1:Nat)},4⟩,aZ.2 (q1 (aZ.1 h0)),e1.trans (by rw[hf];first|done|rfl),e2⟩
   ·exact eP ⟨⟨a.Gy (ZPw.mk a f t ln f.cls 0).d',{f with piece:=0},5⟩,aZ.2 (q2 (aZ.1 h0)),e1.trans (by rw[hf];first|done|rfl),e2⟩
  ·have h2:k=2:=h3.resolve_right λh=>h0 h.2
   subst h2;refine⟨_,hw1 rfl,rfl,⟨a,f,t,ln,f.cls,p⟩,aZ.2 ⟨h,h0⟩,by show [_,_,_]=[_,_,_];rw[hf];first|done|rfl,rfl,λv h' hh=> ?_⟩;rcases pz hh with ⟨y,h0,e1,e2⟩|⟨y,h0,e1,e2⟩
   ·exact eP ⟨⟨a.Gy (ZPw.mk a f t ln f.cls p).d',{f with piece:=(p+1:Nat)},4⟩,aZ.2 (q1 (aZ.1 h0)),e1.trans (by rw[hf];first|done|rfl),e2⟩
   ·exact eP ⟨⟨a.Gy (ZPw.mk a f t ln f.cls p).d',{f with piece:=0},5⟩,aZ.2 (q2 (aZ.1 h0)),e1.trans (by rw[hf];first|done|rfl),e2⟩
 ·have hf:f={f with had:=f.had,line:=(ln:Int)}:=by
   have hl:f.line=ln:=hl;rw[<-hl]
  refine⟨_,hpu f.had h3,rfl,⟨a,f,t,ln⟩,aZ.2 h,by show [_,_,_]=[_,_,_];rw[hf];first|done|rfl,rfl,λv h' hh=> ?_⟩;obtain⟨y,h0,e1,e2⟩:=ku hh;exact eP ⟨⟨_,{f with found:=f.had,aep:=f.epoch,line:= -1},6⟩,aZ.2 q1,e1,e2⟩
 ·have hf:f={f with had:=f.had,line:=(ln:Int)}:=by
   have hl:f.line=ln:=hl;rw[<-hl]
  refine⟨_,hrt f.had h3,rfl,⟨a,f,t,ln⟩,aZ.2 h,by show [_,_,_]=[_,_,_];rw[hf];first|done|rfl,rfl,λv h' hh=> ?_⟩;obtain⟨y,h0,e1,e2⟩:=ku hh;exact eP ⟨⟨a,{f with epoch:=a.c.now,pos:=emp,past:=false,had:=false,old:=iO},1⟩,aZ.2 q1,e1.trans (by rw[hf];first|done|rfl),e2⟩
 ·refine⟨_,hle,rfl,⟨a,f,t⟩,aZ.2 h,rfl,rfl,λv h' hh=> ?_⟩
  obtain⟨y,h0,e1,e2⟩:=ku hh;exact eP ⟨⟨a.FX t 0,f,7⟩,aZ.2 q1,e1,e2⟩
 ·refine⟨_,hdo,rfl,⟨a,f,t⟩,aZ.2 trivial,rfl,rfl,λv h' hh=> ?_⟩
  obtain⟨y,h0,e1,e2⟩:=ku hh;exact eP ⟨⟨a,f,7⟩,aZ.2 q1,e1,e2⟩
theorem adD:bZ Tryz.prog 34 (RZ 1):=aay ads ajA (λh=>by omega) (λ_=>ajn) (λh=>by omega) (λh=>by omega) (λh=>by omega) (λ_ h=>by omega) (λ_ h=>by omega) adt ajt
theorem adE:bZ Tryz.prog 34 (RZ 2):=aay adu ajB (λh=>by omega) (λh=>by omega) (λ_=>ajl) (λ_=>XW) (λ_=>ady) (λhad _=>match had with
 |false=>ajp
 |true=>ajr) (λhad _=>match had with
 |false=>ajq
 |true=>ajs) adv aju
theorem ajD{k:Int}(hk:k=2\/k=3)(h0:bZ Tryz.prog 34 (RZ k)):bZ Tryz.prog 34 (aax k):=je λx hx=>by
 refine⟨_,h0,rfl,x,hx,rfl,rfl,λv h' hh=> ?_⟩;rcases pz hh with ⟨y,h0,e1,e2⟩|⟨y,h0,e1,e2⟩
 ·exact eP ⟨y,h0,e1,e2⟩
 ·have:=(aZ.1 h0).2.2
  omega
theorem adF:bZ Tryz.prog 34 (aax 2):=ajD (.inl rfl) adE
theorem ajE:bZ Tryz.prog 34 aoO:=je λx hx=>by
 obtain⟨⟨a,f,ph⟩,t,b,n,q⟩:=x;obtain⟨hn,hp,hx⟩:=aZ.1 hx;have hn:n≠0:=hn;have hp:ph=2:=hp;subst hp;rcases hx with ⟨hp,_⟩|⟨hp,_⟩|⟨hp,_⟩|⟨hp,_,ln,hf,h,q1,q2⟩|⟨hp,_⟩|⟨hp,_⟩|⟨hp,_⟩|⟨hp,_⟩|⟨hp,_⟩|⟨hp,_⟩
 all_goals try exact absurd hp (by show¬(2:Int)=_;decide)
 have hf:f=(ZPr.mk a f t b ln n).fr n:=hf;refine⟨_,ajo,rfl,⟨a,f,t,b,ln,n⟩,aZ.2 ⟨h,hn⟩,by show [_,_,_]=[_,_,_];rw[hf];first|done|rfl,rfl,λv h' hh=> ?_⟩;rcases pz hh with ⟨y,h0,e1,e2⟩|⟨y,h0,e1,e2⟩
 ·exact AO ⟨⟨a,{f with piece:=(n+1:Nat)},2⟩,aZ.2 ⟨q1 (aZ.1 h0),rfl⟩,e1.trans (by rw[hf];first|done|rfl),e2⟩
 ·exact eP ⟨⟨a,{f with piece:=(n+1:Nat),found:=true,ans:=b.value},6⟩,aZ.2 (q2 (aZ.1 h0)),e1.trans (by rw[hf];first|done|rfl),e2⟩


theorem X9{p:ZPool}(hp:p.good){L:Int}{i j:Nat}(h:p.at_ L i j):2<=L/\L+spn (p.cls i)<=2+p.n*8/\0<=p.cls i/\p.cls i<=3:=by
 obtain⟨h1,h2,h3,h4,h5⟩:=h;have h6:=(hp.1.2.2 i h1).2.1;refine⟨?_,?_,h2,h6⟩
 all_goals (rcases gy (p.cls i)with m|m|m|m|m<;>obtain⟨m1,m2,m3⟩:=m<;>rw[m2]at h5<;>(try rw[m2])<;>omega)
theorem ajF{p:ZPool}(hp:p.good){L L':Int}{i j i' j':Nat}(h:p.at_ L i j)(h':p.at_ L' i' j')(hne:L≠L'):L+spn (p.cls i)<=L'\/L'+spn (p.cls i')<=L:=by
 obtain⟨a1,a2,a3,a4,a5⟩:=h;obtain⟨b1,b2,b3,b4,b5⟩:=h';have a6:=(hp.1.2.2 i a1).2.1;have b6:=(hp.1.2.2 i' b1).2.1;by_cases e:i=i'
 ·subst e
  have hj:j≠j':=λe=>by subst e;exact hne (a5.trans b5.symm)
  rcases gy (p.cls i)with m|m|m|m|m<;>obtain⟨m1,m2,m3⟩:=m<;>rw[m2]at a5 b5 ⊢<;>omega
 ·rcases gy (p.cls i)with m|m|m|m|m<;>rcases gy (p.cls i')with m'|m'|m'|m'|m'<;>obtain⟨m1,m2,m3⟩:=m<;>obtain⟨m1',m2',m3'⟩:=m'<;>rw[m2]at a5<;>rw[m2']at b5<;>rw[m2,m2']<;>omega
def dat(d:DevM)(ln:Nat)(v:ByteArray)(n:Nat):Prop:= ∀m r:Nat,1<=m->m<n->r<64->d.b ((ln+m)*193+r)=(ZBlk.mk 0 2 0 0 0 ⟨#[]⟩ v).enc (64*m+r)
section
variable{a:al5}{T M:Nat}{b:Nat->ZBlk}
end
theorem arF{n:Nat}(h:n<=416):0<=ned n/\ned n<=3:=by
 unfold ned
 repeat' split
 all_goals omega
theorem aaz{L:Lks}{i:Nat}(h:i<L.length):nthL L i∈L:=by
 unfold nthL;rw[List.getD_eq_getElem?_getD,List.getElem?_eq_getElem h];exact List.getElem_mem h
def PBy(d:DevM)(b:ZBlk)(ln:Nat):Prop:=b.may/\b.kind=1/\ln+spn b.cls<=d.n/\ ∀q,q<64*b.dJ->d.b ((ln+q/64)*193+q%64)=b.enc q
structure fA (a:ZSto) (T M N:Nat) (B:ByteArray->ZBlk):Prop where
 dok:a.d.ok
 dst:a.d.st<=M
 dfl:a.d.fl<=M
 dfe:a.d.fe<=M
 rok:a.r.ok
 rt:a.r.t=T
 cok:a.c.ok
 ct:a.c.t=T
 ph:a.ph=0
 Pz:a.c.Pz=0
 pg:a.p.good
 fit:2+a.p.n*8<=a.d.n
 bok:a.b.ok
 lok:a.l.ok
 ln:a.l.n=0
 srt:srt a.L
 len:a.L.length<=N
 id0:0<=a.id
 id1:a.id<=M
 v0:0<=a.ver
 v1:a.ver<=M
 nn:a.n<=M
 now0:1<=a.c.now
 at6:a.c.now<=M
 owed: ∀k,a.c.o k<=M
 used: ∀K:Int,2<=K->((∃y∈a.L,y.line=K)\/aqF.inB ⟨a.b,a.l,K⟩)->a.p.has K
 q: ∀y∈a.L,∃ln:Nat,y.line=ln/\(B y.key).key=y.key/\(B y.key).id=y.id/\(B y.key).ver=y.ver/\(B y.key).cls=y.cls/\PBy a.d (B y.key) ln/\ ∃i j,a.p.at_ ln i j/\a.p.cls i=y.cls
def oN(a:ZSto)(K:Nat)(c:Int):Prop:=(∃i j,a.p.at_ K i j/\a.p.cls i=c)/\(∀y∈a.L,y.line≠K)/\ ¬aqF.inB ⟨a.b,a.l,K⟩
def adV(d:DevM)(ln:Nat)(key v:ByteArray)(n:Nat):Prop:= ∀m r:Nat,1<=m->m<n->r<64->d.b ((ln+m)*193+r)=(ZBlk.mk 0 1 0 0 0 key v).enc (64*m+r)
def updB(B:ByteArray->ZBlk)(s:ByteArray)(b:ZBlk):ByteArray->ZBlk:=λk=>if k=s then b else B k
section
variable{a:ZSto}{T M N:Nat}{B:ByteArray->ZBlk}
theorem fA.up(g:fA a T M N B){M' N':Nat}(h:M<=M')(hN:N<=N'):fA a T M' N' B:=
 {g with dst:=by have:=g.dst;omega,dfl:=by have:=g.dfl;omega,dfe:=by have:=g.dfe;omega,len:=Nat.le_trans g.len hN,id1:=by have:=g.id1;omega,v1:=by have:=g.v1;omega,nn:=by have:=g.nn;omega,at6:=by have:=g.at6;omega,owed:=λk=>by have:=g.owed k;omega}
theorem oN.fits{K:Nat}{c:Int}(h:oN a K c)(g:fA a T M N B):2<=K/\(K:Int)+spn c<=a.d.n/\0<=c/\c<=3/\K<258/\a.d.n<=258:=by
 obtain⟨⟨i,j,h1,rfl⟩,_⟩:=h;obtain⟨f1,f2,f3,f4⟩:=X9 g.pg h1;have:=g.fit;have:=g.dok.1;have s:=dR (a.p.cls i);refine⟨by omega,by omega,f3,f4,by omega,this⟩
theorem oN.apart{K:Nat}{c:Int}(h:oN a K c)(g:fA a T M N B){y:ZLnk}(hy:y∈a.L){ln:Nat}(hl:y.line=ln):ln+(B y.key).dJ<=K\/K+(spn c).toNat<=ln:=by
 obtain⟨⟨i,j,h1,rfl⟩,h2,_⟩:=h;obtain⟨ln',q1,_,_,_,q5,_,i',j',q2,q3⟩:=g.q y hy;have e:(ln':Int)=ln:=by rw[<-hl,q1]
 have e:ln'=ln:=by omega
 subst e;have hne:(ln':Int)≠K:=λe=>h2 y hy (by rw[hl,e])
 have:=ajF g.pg q2 h1 hne;rw[q3,<-q5]at this;have s:=vF (B y.key);have s2:=dR (a.p.cls i);omega
theorem PBy.keep{d d':DevM}{b:ZBlk}{ln:Nat}(h:PBy d b ln)(h2:d'.n=d.n){L n:Nat}(h0:2<=ln)(hb: ∀m r:Nat,2<=m->r<64-> ¬(L<=m/\m<L+n)->d'.b (m*193+r)=d.b (m*193+r))(hs:ln+b.dJ<=L\/L+n<=ln):PBy d' b ln:=by
 obtain⟨q3,q4,q5,q6⟩:=h;refine⟨q3,q4,by rw[h2];exact q5,λq hq=> ?_⟩;rw[hb _ _ (by omega) (by omega) (by omega)];exact q6 q hq
theorem fA.dev(g:fA a T M N B){d':DevM}{M':Nat}(hM:M<=M')(h1:d'.ok)(h2:d'.n=a.d.n)(h3:d'.st<=M')(h4:d'.fl<=M')(h5:d'.fe<=M'){L n:Nat}(hb: ∀m r:Nat,2<=m->r<64-> ¬(L<=m/\m<L+n)->d'.b (m*193+r)=a.d.b (m*193+r))
  (hs: ∀y∈a.L,∀ln:Nat,y.line=ln->ln+(B y.key).dJ<=L\/L+n<=ln):fA (a.Gy d') T M' N B:=by
 have g':=g.up hM (aY N);refine{g' with dok:=h1,dst:=h3,dfl:=h4,dfe:=h5,fit:=by show 2+a.p.n*8<=d'.n;rw[h2];exact g.fit,q:=λy hy=> ?_};obtain⟨ln,q1,k1,k2,k3,k4,q2,i',j',q7,q8⟩:=g.q y hy;have hf:=X9 g.pg q7;exact⟨ln,q1,k1,k2,k3,k4,q2.keep h2 (by omega) hb (hs y hy ln q1),i',j',q7,q8⟩
theorem fA.write(g:fA a T M N B)(hM:M<=1000000){K:Nat}{c:Int}(h:oN a K c){t:Nat}{f:ZFp}(hk:f.key.size<=16)(hv:f.value.size<=400){p:Nat}(hp:(p:Int)<spn c):
  (ZPw.mk a f t K c p).ok/\fA (a.Gy (ZPw.mk a f t K c p).d') T (M+20) N B/\(adV a.d K f.key f.value p->adV (ZPw.mk a f t K c p).d' K f.key f.value (p+1))/\ ∀m r:Nat,r<64-> ¬(K<=m/\m<K+(spn c).toNat)->(ZPw.mk a f t K c p).d'.b (m*193+r)=a.d.b (m*193+r):=by
 obtain⟨f1,f2,f3,f4,f5,f6⟩:=h.fits g;have hs:=dR c;have d1:=g.dst;have d2:=g.dfl;have d3:=g.dfe;have hd:=g.dok;have w:(ZPw.mk a f t K c p).ok:=⟨hd,f3,f4,f2,hp,hk,hv,by show a.d.st+10<_;omega⟩;have key: ∃g0:Nat->Int,(∀q,0<=g0 q/\g0 q<256)/\(ZPw.mk a f t K c p).d'=a.d.store (K+p) 0 64 g0/\(1<=p-> ∀r,g0 r=(ZBlk.mk c 1 0 0 0 f.key f.value).enc (64*p+r)):=by
  unfold ZPw.d';by_cases e:p=0
  ·subst e
   rw[if_pos rfl];exact⟨_,ZR ⟨f3,f4⟩,rfl,λh=>absurd h (by decide)⟩
  ·rw[if_neg e]
   exact⟨_,λq=>ahA _ (by show 64<=64*p+q;omega),rfl,λ_ r=>rfl⟩
 obtain⟨g0,k1,k2,k3⟩:=key;have hb: ∀m r:Nat,r<64-> ¬(K<=m/\m<K+(spn c).toNat)->(a.d.store (K+p) 0 64 g0).b (m*193+r)=a.d.b (m*193+r):=λm r hr hm=>by
  rw[Kq _ _ _ _ _ hr,if_neg (by omega)]
 rw[k2];refine⟨w,g.dev (by omega) (DevM.uj hd _ _ _ k1 (by omega)) rfl (by show a.d.st+1<=_;omega) (by show a.d.fl<=_;omega) (by show a.d.fe<=_;omega) (L:=K) (n:=(spn c).toNat) (λm r _ hr hm=>hb m r hr hm) (λy hy ln hl=>h.apart g hy hl),λhdat m r h1 h2 h3=> ?_,hb⟩;rw[Kq _ _ _ _ _ h3];by_cases e:m=p
 ·subst e
  rw[if_pos rfl,k3 h1];exact ahI (x:=ZBlk.mk c 1 0 0 0 f.key f.value) (y:=ZBlk.mk 0 1 0 0 0 f.key f.value) rfl rfl (by omega)
 ·rw[if_neg (by omega)]
  exact hdat m r h1 (by omega) h3
theorem fA.take(g:fA a T M N B){c:Int}(hc:0<=c/\c<=3){i j:Nat}(h:a.p.takes c i j): ∃K:Nat,(K:Int)=2+i*8+j*spn c/\fA (a.Xd (a.p.take c i j)) T M N B/\oN (a.Xd (a.p.take c i j)) K c/\ ¬a.p.has K:=by
 obtain⟨l1,l2⟩:=acA g.pg hc h;obtain⟨n1,n2⟩:=at_new g.pg hc.1 h;have no:=amb g.pg hc h;refine⟨2+i*8+j*(spn c).toNat,l1,?_,⟨⟨i,j,by rw[l1];exact n1,n2⟩,λy hy e=> ?_,λhu=> ?_⟩,by rw[l1];exact no⟩
 ·refine{g with pg:=ahG g.pg hc h,used:=λL hL hu=>amd (take_at g.pg h) (g.used L hL hu),q:=λy hy=> ?_}
  obtain⟨ln,q1,k1,k2,k3,k4,q2,i',j',q7,q8⟩:=g.q y hy;obtain⟨q9,q10⟩:=take_at g.pg h _ _ _ q7;exact⟨ln,q1,k1,k2,k3,k4,q2,i',j',q9,q10.trans q8⟩
 ·exact no (l1▸g.used _ (by omega) (.inl ⟨y,hy,e⟩))
 ·exact no (l1▸g.used _ (by omega) (.inr hu))
theorem fA.FX(g:fA a T M N B){t:Nat}{v:Int}:fA (a.FX t v) T M N B:={g with rok:=g.rok,rt:=g.rt}
end
section
variable{a:ZSto}{T M N:Nat}{B:ByteArray->ZBlk}
theorem arG{b:ZBlk}(h:b.may)(hk:b.kind=1):1<=b.id/\b.id<=2305843009213693952:=by
 rcases h.2 with h|h|h|h
 ·exfalso;have:=h.1;omega
 ·exact h.2.2.2.2.2.1
 ·exfalso;have:=h.1;omega
 ·exfalso;have:=h.1;omega
theorem fA.old(g:fA a T M N B){y:ZLnk}(hy:y∈a.L):(1<=y.id/\y.id<=2305843009213693952)/\2<=y.line/\y.line<258/\0<=y.cls/\y.cls<=3/\ ∃i j,a.p.at_ y.line i j:=by
 obtain⟨ln,q1,k1,k2,k3,k4,q2,i,j,q7,q8⟩:=g.q y hy;obtain⟨g1,g2,g3,g4⟩:=X9 g.pg q7;have hfit:=g.fit;have:=g.dok.1;have hs:=dR (a.p.cls i);have hn:=arG q2.1 q2.2.1;refine⟨by rw[<-k2];exact hn,by omega,by omega,by omega,by omega,i,j,by rw[q1];exact q7⟩
theorem anD{x:ZPt}{K:Nat}(h:oN x.a K x.x.cls)(hk:x.ln=K): ∃i j,x.inP i j/\x.a.p.cls i=x.x.cls:=by
 obtain⟨⟨i,j,⟨a1,a2,a3,a4,a5⟩,h2⟩,_⟩:=h;exact⟨i,j,⟨a1,a2,a3,a4,by rw[hk];exact a5⟩,h2⟩
theorem arH{x:ZPt}{K:Nat}(hk:x.ln=K)(hl:x.a.l.n=0)(h:oN x.a K x.x.cls): ¬x.us.used:=by
 subst hk
 rintro (⟨i,hi,h1⟩|⟨i,hi,_⟩|h1)
 ·exact h.2.1 _ (aaz hi) h1
 ·have hi:i<x.a.l.n:=hi
  omega
 ·exact h.2.2 h1
theorem IJ(c:iP)(t:Nat)(L:Int): ∀n,(c.notes t L n).Pz=c.Pz
 |0=>rfl
 |n+1=>IJ c t L n
theorem fA.put(g:fA a T M N B)(hM:M<=1000000)(hN:N<=200){t K:Nat}(ht:t<T){f:ZFp}{had:Bool}(h:oN a K f.cls)(hk0:f.key.size≠0)(hk:f.key.size<=16)(hv:f.value.size<=400)(hc:f.cls=ned ((f.key.size+f.value.size:Nat):Int))(he:f.epoch=a.c.now)
  (hw:gJ a.L f.key=if had=true then some f.old else none) (hd:adV a.d K f.key f.value (spn f.cls).toNat):
  ((ZPp.mk a f t K).pt 2).ok 2 had/\fA (((ZPp.mk a f t K).pt 2).cg.res 2 had) T (M+20) (N+1) (updB B f.key (((ZPp.mk a f t K).pt 2).cg.blk 2 had)):=by
 obtain⟨f1,f2,f3,f4,f5,f6⟩:=h.fits g;have hs:=dR f.cls;have e1:=g.id0;have e2:=g.id1;have e3:=g.v0;have e4:=g.v1;have e5:=g.nn;have e6:=g.now0;have e7:=g.at6;have e8:=g.dst;have e9:=g.dfl;have e10:=g.dfe;have e11:=g.len;have ho:=g.owed;generalize hP:(ZPp.mk a f t K).pt 2=P;subst hP;let C:ZCg:=((ZPp.mk a f t K).pt 2).cg
 let b:ZBlk:=C.blk 2 had
 have hb:b=⟨f.cls,1,C.idP had,a.ver+1,f.epoch,f.key,f.value⟩:=if_pos rfl;let l:ZLnk:=C.lnk 2 had
 have hl:l=⟨f.key,C.idP had,a.ver+1,K,f.cls⟩:=by show ZLnk.mk b.key b.id (a.ver+1) K b.cls=_;rw[hb]
 have hold:had=true->f.old∈a.L/\f.old.key=f.key:=λe=>by
  rw[if_pos e]at hw;exact og hw
 have hid:1<=C.idP had/\C.idP had<=2305843009213693952:=by
  show 1<=(bif had then f.old.id else a.id+1)/\_;cases had
  ·show 1<=a.id+1/\a.id+1<=_;omega
  ·exact(g.old (hold rfl).1).1
 have hbm:b.may:=by
  rw[hb];refine⟨QK ⟨f3,f4⟩,.inr (.inl ⟨rfl,by show 1<=f.key.size;omega,hk,hv,hc.symm,hid,?_,?_⟩)⟩
  ·show 1<=a.ver+1/\a.ver+1<=2305843009213693952;omega
  ·show 1<=f.epoch/\f.epoch<=2305843009213693952;omega
 have hsl:(jg a.L l).length<=a.L.length+1:=Z9;have hbs:b.dJ=(spn f.cls).toNat:=by rw[hb];rfl
 have hent:had=true->(C.ent 2).may:=λe=>by
  obtain⟨_,o1,o2,o3,o4,_⟩:=g.old (hold e).1;exact⟨o1,o2,o3,o4,by show(-1:Int)<= -1;decide,by show(-1:Int)<258;decide⟩
 refine⟨⟨⟨g.dok,g.cok,by show a.ph<=4;rw[g.ph];decide,by show t<a.c.t;rw[g.ct];exact ht,by show K<a.d.n;omega,f6,hbm,by show f.key.size<_;omega,by show f.value.size<_;omega,e3,by show a.ver<_;omega,e1,by show a.id<_;omega,Int.le_refl 0,show(0:Int)<1152921504606846977 by decide,by show a.n<_;omega,λk=>by have:=ho k;show a.c.o k+8<_;omega,λe=>⟨g.bok,g.rok,hent e⟩,λ_=>by show(jg a.L l).length<=258;omega,λe=>absurd e (by decide)⟩,
  hw,he.symm,g.pg.1,g.bok,g.lok,by show a.l.n<_;rw[g.ln];decide,by show a.L.length<=300;omega,anD (x:=(ZPp.mk a f t K).pt 2) h rfl,arH (x:=(ZPp.mk a f t K).pt 2) rfl g.ln h,λe=>absurd rfl e⟩,?_⟩
 let D:DevM:=a.d.store K 0 64 b.enc
 have hDb: ∀m r:Nat,r<64-> ¬(K<=m/\m<K+(spn f.cls).toNat)->D.b (m*193+r)=a.d.b (m*193+r):=λm r hr hm=>by
  show(a.d.store K 0 64 b.enc).b (m*193+r)=_;rw[Kq _ _ _ _ _ hr,if_neg (by omega)]
 have hDok:D.ok:=DevM.uj g.dok _ _ _ (yu hbm) (by omega);have gD:fA (a.Gy D) T (M+20) N B:=g.dev (by omega) hDok rfl (by show a.d.st+1<=_;omega) (by show a.d.fl<=_;omega) (by show a.d.fe<=_;omega) (L:=K) (n:=(spn f.cls).toNat) (λm r _ hr hm=>hDb m r hr hm) (λy hy ln hl=>h.apart g hy hl);have hnew:PBy D b K:=by
  refine⟨hbm,by rw[hb],by rw[hb];exact f2,λq hq=> ?_⟩;show(a.d.store K 0 64 b.enc).b ((K+q/64)*193+q%64)=b.enc q;rw[Kq _ _ _ _ _ (by omega)];by_cases e:q/64=0
  ·rw[if_pos (by omega),show q%64=q by omega]
  ·rw[if_neg (by omega),hd (q/64) (q%64) (by omega) (by rw[hbs]at hq;omega) (by omega),show 64*(q/64)+q%64=q by omega]
   exact ahI (by rw[hb]) (by rw[hb]) (by omega)
 have hno:=VA a.c t (K:Int) (λk=>(g.cok.2.2.2.2.2 k).1);have hs8:=(vF b).1;have hR:C.res 2 had={a with d:=D,c:=a.c.notes t (K:Int) b.dJ,b:=if had=true then a.b.put (C.ent 2)else a.b,L:=jg a.L l,id:=if had=false then a.id+1 else a.id,ver:=a.ver+1,n:=a.n+1,e:=λi=>if i=a.n then C.eff 2 had else a.e i}:=by
  cases had<;>rfl
 show fA (C.res 2 had) T (M+20) (N+1) (updB B f.key b);rw[hR];obtain⟨⟨i0,j0,hi0,hc0⟩,_⟩:=h;have hup:=gD.up (aY _) (Nat.le_succ N)
 exact{hup with
  cok:=yw g.cok (λk=>by have:=ho k;omega) _ _ hs8
  ct:=(qV _ _ _ _).trans g.ct
  Pz:=(IJ _ _ _ _).trans g.Pz
  bok:=by
   show iy.ok (if had=true then a.b.put (C.ent 2)else a.b);split
   ·exact atj g.bok _
   ·exact g.bok
  srt:=uw g.srt
  len:=by show(jg a.L l).length<=N+1;omega
  id0:=by show 0<=(if had=false then a.id+1 else a.id);split<;>omega
  id1:=by show(if had=false then a.id+1 else a.id)<=((M+20:Nat):Int);split<;>omega
  v0:=by show 0<=a.ver+1;omega
  v1:=by show a.ver+1<=((M+20:Nat):Int);omega
  nn:=by show a.n+1<=M+20;omega
  now0:=by show 1<=(a.c.notes t (K:Int) b.dJ).now;rw[qW];exact g.now0
  at6:=by show(a.c.notes t (K:Int) b.dJ).now<=_;rw[qW];omega
  owed:=λk=>by show(a.c.notes t (K:Int) b.dJ).o k<=_;have:=(hno b.dJ k).2;have:=ho k;omega
  used:=λX hX hu=>by
   rcases hu with ⟨y,hy,hh⟩|hu
   ·rcases (gK g.srt).1 hy with rfl|⟨hy,_⟩
    ·rw[hl]at hh
     have hh:(K:Int)=X:=hh;exact⟨i0,j0,by rw[<-hh];exact hi0⟩
    ·exact g.used X hX (.inl ⟨y,hy,hh⟩)
   ·have hu:aqF.inB ⟨if had=true then a.b.put (C.ent 2)else a.b,a.l,X⟩:=hu
    by_cases e:had=true
    ·rw[if_pos e]at hu
     rcases aqQ hu with hu|hu|hu
     ·exact g.used X hX (.inr hu)
     ·have hu:f.old.line=X:=hu
      obtain⟨_,_,_,_,_,i,j,hat⟩:=g.old (hold e).1;exact⟨i,j,by rw[<-hu];exact hat⟩
     ·have hu:(-1:Int)=X:=hu
      omega
    ·rw[if_neg e]at hu
     exact g.used X hX (.inr hu)
  q:=λy hy=>by
   rcases (gK g.srt).1 hy with rfl|⟨hy,hne⟩
   ·have e0:updB B f.key b l.key=b:=if_pos (by rw[hl])
    rw[e0];refine⟨K,by rw[hl],by rw[hl,hb],by rw[hl,hb],by rw[hl,hb],by rw[hl,hb],hnew,i0,j0,hi0,by rw[hl];exact hc0⟩
   ·have e0:updB B f.key b y.key=B y.key:=if_neg λe=>hne (by rw[hl];exact e)
    rw[e0]
    exact gD.q y hy}
end
noncomputable def fl(L:Lks)(b:Nat)(pos:ByteArray)(past:Bool)(s:ByteArray):Lks:=L.filter λl=>(decide (bkt l.key=b)&&(!past||kl pos l.key))&&kl l.key s
theorem vS{L:Lks}{b:Nat}{pos:ByteArray}{past:Bool}{y:ZLnk}(h:nextL L b pos past=some y):(bkt y.key=b/\(past=true->kl pos y.key=true))/\ ∃ms bs,L=ms++y::bs/\ ∀x∈ms,(decide (bkt x.key=b)&&(!past||kl pos x.key))=false:=by
 unfold nextL at h;obtain⟨h1,ms,bs,h2,h3⟩:=List.find?_eq_some_iff_append.1 h;rw[aJ,decide_eq_true_eq,Bool.or_eq_true]at h1;refine⟨⟨h1.1,λe=> ?_⟩,ms,bs,h2,λx hx=> ?_⟩
 ·rcases h1.2 with h|h
  ·rw[e]at h;cases h
  ·exact h
 ·have:=h3 x hx
  rwa [Bool.not_eq_true']at this
theorem anE{a b:ByteArray}(h:kl a b=true):kl b a=false:=by
 cases h':kl b a
 ·rfl
 ·exact absurd (jA h h') (by rw[nZ];decide)
theorem arI{L:Lks}(hs:srt L){b:Nat}{pos s:ByteArray}{past:Bool}{y:ZLnk}(h:nextL L b pos past=some y)(hy:kl y.key s=true):(fl L b pos past s).length=(fl L b y.key true s).length+1:=by
 obtain⟨⟨h1,h2⟩,ms,bs,rfl,h3⟩:=vS h;have hp:=List.pairwise_append.1 hs;obtain⟨p1,p2,p3⟩:=hp;have q1:=(List.pairwise_cons.1 p2).1;unfold fl;rw[List.filter_append,List.filter_append,List.filter_cons,List.filter_cons];have e1:ms.filter (λl=>(decide (bkt l.key=b)&&(!past||kl pos l.key))&&kl l.key s)=[]:=List.filter_eq_nil_iff.2 λx hx=>by rw[h3 x hx];simp
 have e2:ms.filter (λl=>(decide (bkt l.key=b)&&(!true||kl y.key l.key))&&kl l.key s)=[]:=List.filter_eq_nil_iff.2 λx hx=>by
  rw[anE (p3 x hx y (List.mem_cons_self ..))]
  first|done|simp
 have e3:((decide (bkt y.key=b)&&(!past||kl pos y.key))&&kl y.key s)=true:=by
  rw[hy,decide_eq_true h1];cases past
  ·rfl
  ·rw[h2 rfl];rfl
 have e4:((decide (bkt y.key=b)&&(!true||kl y.key y.key))&&kl y.key s)=false:=by rw[nZ];simp
 rw[e1,e2,if_pos e3,if_neg (by rw[e4];decide)];have e5:bs.filter (λl=>(decide (bkt l.key=b)&&(!past||kl pos l.key))&&kl l.key s)=bs.filter (λl=>(decide (bkt l.key=b)&&(!true||kl y.key l.key))&&kl l.key s):=List.filter_congr λx hx=>by
  rw[q1 x hx];cases past
  ·rfl
  ·rw[jA (h2 rfl) (q1 x hx)]
 rw[e5];rfl
theorem aoP{L:Lks}(hs:srt L){b:Nat}{pos s:ByteArray}{past:Bool}(h: ∀y,nextL L b pos past=some y->kl y.key s=false):(fl L b pos past s).length=0:=by
 rw[List.length_eq_zero_iff];refine List.filter_eq_nil_iff.2 λx hx hh=> ?_
 rw[aJ]at hh;cases e:nextL L b pos past with
 |none=>exact absurd hh.1 (List.find?_eq_none.1 e x hx)
 |some y=>
  obtain⟨_,ms,bs,rfl,h3⟩:=vS e;have hy:=h y e;obtain⟨_,p2,_⟩:=List.pairwise_append.1 hs;have q1:=(List.pairwise_cons.1 p2).1;rcases List.mem_append.1 hx with hx|hx
  ·rw[h3 x hx]at hh;cases hh.1
  ·rcases List.mem_cons.1 hx with rfl|hx
   ·rw[hy]at hh;cases hh.2
   ·rw[jA (q1 x hx) hh.2]at hy;cases hy
theorem adG{L:Lks}(hs:srt L){s pos:ByteArray}{past:Bool}(hp:past=true->kl pos s=true)(h: ∀y,nextL L (bkt s) pos past=some y->kl y.key s=false/\y.key≠s):gJ L s=none:=yB λz hz e=>by
 have hz':(decide (bkt z.key=bkt s)&&(!past||kl pos z.key))=true:=by
  rw[e,decide_eq_true rfl];cases past
  ·rfl
  ·rw[hp rfl];rfl
 cases e':nextL L (bkt s) pos past with
 |none=>exact absurd hz' (List.find?_eq_none.1 e' z hz)
 |some y=>
  obtain⟨_,ms,bs,rfl,h3⟩:=vS e';obtain⟨k1,k2⟩:=h y e';obtain⟨_,p2,_⟩:=List.pairwise_append.1 hs;have q1:=(List.pairwise_cons.1 p2).1;rcases List.mem_append.1 hz with hz|hz
  ·rw[h3 z hz]at hz';cases hz'
  ·rcases List.mem_cons.1 hz with rfl|hz
   ·exact k2 e
   ·have:=q1 z hz
    rw[e,k1]at this;cases this
theorem Si{L:Lks}{b:Nat}{pos:ByteArray}{past:Bool}{y:ZLnk}(h:nextL L b pos past=some y):y∈L:=List.mem_of_find?_eq_some h
section
variable{a:ZSto}{T M N:Nat}{B:ByteArray->ZBlk}
theorem fA.key16(g:fA a T M N B){y:ZLnk}(hy:y∈a.L):1<=y.key.size/\y.key.size<=16:=by
 obtain⟨ln,q1,k1,k2,k3,k4,⟨q2,q3,_⟩,_⟩:=g.q y hy;rw[<-k1];rcases q2.2 with h|h|h|h
 ·exfalso;have:=h.1;omega
 ·exact⟨h.2.1,h.2.2.1⟩
 ·exfalso;have:=h.1;omega
 ·exfalso;have:=h.1;omega
noncomputable def ZKs.adW(s:ZKs):Nat:=(fl s.a.L (bkt s.f.key) s.f.pos s.f.past s.f.key).length
def anF(f:ZFp):Prop:=f.key.size<=16/\f.pos.size<=16/\(f.past=true->kl f.pos f.key=true)
theorem Sj{s:ZKs}(g:fA s.a T M N B){k:Int}{t:Nat}{b:ZBlk}(hp:s.ph=1)(hf:anF s.f)(hl:k=3->s.f.line<0){Q:Nat->ZKs->Prop}
  (h1: ∀y∈s.a.L,anF {s.f with pos:=y.key,past:=true}->s.adW=(ZKs.mk s.a {s.f with pos:=y.key,past:=true} 1).adW+1->Q 0 ⟨s.a,{s.f with pos:=y.key,past:=true},1⟩)
  (h2: ∀y,gJ s.a.L s.f.key=some y->s.adW=0->Q 0 ⟨s.a,{s.f with had:=true,old:=y,piece:=if k=1 then 0 else s.f.piece},nx3 s.f k true⟩)
  (h3:gJ s.a.L s.f.key=none->s.adW=0->Q 0 ⟨s.a,{s.f with had:=false,old:=iO},nx3 s.f k false⟩):wP k t b 0 s Q:=by
 obtain⟨f1,f2,f3⟩:=hf;refine .inr (.inl ⟨hp,rfl,⟨by omega,by omega,λe _=>hl e⟩,λy hy=> ?_,λy hy=> ?_,λhm=> ?_⟩)
 ·have hy1:nextL s.a.L (bkt s.f.key) s.f.pos s.f.past=some y:=hy.1
  have hy2:kl y.key s.f.key=true:=hy.2;have hm:=Si hy1;exact h1 y hm ⟨f1,(g.key16 hm).2,λ_=>hy2⟩ (arI g.srt hy1 hy2)
 ·have hy1:nextL s.a.L (bkt s.f.key) s.f.pos s.f.past=some y:=hy.1
  have hy2:y.key=s.f.key:=hy.2;refine h2 y (yA g.srt (Si hy1) hy2) (aoP g.srt λy' hy'=> ?_);rw[hy1]at hy';cases hy';rw[hy2,nZ]
 ·have hm: ∀y,nextL s.a.L (bkt s.f.key) s.f.pos s.f.past=some y->kl y.key s.f.key=false/\y.key≠s.f.key:=hm
  exact h3 (adG g.srt f3 hm) (aoP g.srt λy hy=>(hm y hy).1)
end
section
variable{T M N:Nat}{B:ByteArray->ZBlk}{s:ZKs}{k:Int}{t:Nat}{b:ZBlk}{Q:Nat->ZKs->Prop}
theorem wp0(g:fA s.a T M N B)(ht:t<T)(hr:s.a.r.has t=0)(hp:s.ph=0)
  (h1:goodP k s.f.key s.f.value≠0->Q 0 ⟨s.a,{s.f with code:=goodP k s.f.key s.f.value},7⟩)
  (h2:goodP k s.f.key s.f.value=0->fA (s.a.FX t s.a.r.now) T M N B->Q 0 ⟨s.a.FX t s.a.r.now,{s.f with epoch:=s.a.c.now},1⟩):wP k t b 0 s Q:=
 .inl ⟨hp,rfl,⟨g.rok,g.cok,by rw[g.ph];decide,by rw[g.rt];exact ht,hr⟩,h1,λh=>h2 h g.FX⟩
theorem wp2{n ln:Nat}(hk:k=1)(hp:s.ph=2)(hd:s.a.d.ok)(hb:PBy s.a.d b ln)(hh:s.f.had=true)(ho:s.f.old=⟨b.key,b.id,b.ver,ln,b.cls⟩)(hn:s.f.piece=n)(hl:(n:Int)<spn b.cls)
  (h1:n+1≠spn b.cls->Q (n+1) ⟨s.a,{s.f with piece:=(n+1:Nat)},2⟩) (h2:n+1=spn b.cls->Q 0 ⟨s.a,{s.f with piece:=(n+1:Nat),found:=true,ans:=b.value},6⟩):wP k t b n s Q:=by
 refine .inr (.inr (.inr (.inl ⟨hp,hk,ln,?_,⟨hd,hb.1,hb.2.1,hb.2.2.1,hl,hb.2.2.2⟩,h1,h2⟩)));show s.f={s.f with had:=true,old:=⟨b.key,b.id,b.ver,ln,b.cls⟩,piece:=(n:Int)};rw[<-hh,<-ho,<-hn]
def ndK(k:Int)(f:ZFp):Int:=if k=2 then ned ((f.key.size+f.value.size:Nat):Int)else 0
theorem aoQ{f:ZFp}(hk:f.key.size<=16)(hv:f.value.size<=400):0<=ndK k f/\ndK k f<=3:=by
 unfold ndK;split
 ·exact arF (by omega)
 ·omega
theorem wp3(g:fA s.a T M N B)(hk:k=2\/k=3)(hp:s.ph=3)(hks:s.f.key.size<=16)(hv:s.f.value.size<=400)
  (h1:(∀i,i<s.a.p.n->s.a.p.cls i≠ -1/\s.a.p.full (ndK k s.f) i)->Q 0 ⟨s.a,{s.f with cls:=ndK k s.f,code:=4},6⟩)
  (h2: ∀i j K:Nat,s.a.p.takes (ndK k s.f) i j->(K:Int)=2+i*8+j*spn (ndK k s.f)->fA (s.a.Xd (s.a.p.take (ndK k s.f) i j)) T M N B->oN (s.a.Xd (s.a.p.take (ndK k s.f) i j)) K (ndK k s.f)-> ¬s.a.p.has K->
   Q 0 ⟨s.a.Xd (s.a.p.take (ndK k s.f) i j),{s.f with cls:=ndK k s.f,line:=K,piece:=0},4⟩):wP k t b 0 s Q:=by
 refine .inr (.inr (.inr (.inr (.inl ⟨hp,rfl,hk,⟨g.pg.1,hks,hv⟩,h1,λi j h=> ?_⟩))));have h:s.a.p.takes (ndK k s.f) i j:=h;obtain⟨K,l1,l2,l3,l4⟩:=g.take (aoQ hks hv) h;have:=h2 i j K h l1 l2 l3 l4;rw[l1]at this;exact this
theorem wp4(g:fA s.a T M N B)(hM:M<=1000000)(hp:s.ph=4)(hks:s.f.key.size<=16)(hv:s.f.value.size<=400){K p:Nat}(h3:k=2\/k=3/\p=0)(hl:s.f.line=K)(hpi:s.f.piece=p)(hlt:(p:Int)<spn s.f.cls)(h:oN s.a K s.f.cls)(hd:adV s.a.d K s.f.key s.f.value p)
  (h1: ∀d',p+1≠spn s.f.cls->fA (s.a.Gy d') T (M+20) N B->oN (s.a.Gy d') K s.f.cls->adV d' K s.f.key s.f.value (p+1)->(∀m r:Nat,r<64-> ¬(K<=m/\m<K+(spn s.f.cls).toNat)->d'.b (m*193+r)=s.a.d.b (m*193+r))->Q 0 ⟨s.a.Gy d',{s.f with piece:=(p+1:Nat)},4⟩)
  (h2: ∀d',p+1=spn s.f.cls->fA (s.a.Gy d') T (M+20) N B->oN (s.a.Gy d') K s.f.cls->adV d' K s.f.key s.f.value (spn s.f.cls).toNat->(∀m r:Nat,r<64-> ¬(K<=m/\m<K+(spn s.f.cls).toNat)->d'.b (m*193+r)=s.a.d.b (m*193+r))->Q 0 ⟨s.a.Gy d',{s.f with piece:=0},5⟩):wP k t b 0 s Q:=by
 obtain⟨w1,w2,w3,w4⟩:=g.write hM h (t:=t) (f:=s.f) hks hv hlt;refine .inr (.inr (.inr (.inr (.inr (.inl ⟨hp,rfl,K,p,h3,?_,w1,λhne=>h1 _ hne w2 h (w3 hd) w4,λhe=>h2 _ he w2 h ?_ w4⟩)))))
 ·show s.f={s.f with line:=(K:Int),cls:=s.f.cls,piece:=(p:Int)}
  rw[<-hl,<-hpi]
 ·have e:(spn s.f.cls).toNat=p+1:=by omega
  rw[e];exact w3 hd
noncomputable def resK(k:Int)(s:ZKs)(t K:Nat):ZSto:=((ZPp.mk s.a s.f t K).pt k).cg.res k s.f.had
noncomputable def ar5(s:ZKs)(t K:Nat):ZBlk:=((ZPp.mk s.a s.f t K).pt 2).cg.blk 2 s.f.had
theorem wp5p(g:fA s.a T M N B)(hM:M<=1000000)(hN:N<=200)(hk:k=2)(hp:s.ph=5){K:Nat}(ht:t<T)(hl:s.f.line=K)(h:oN s.a K s.f.cls)(hk0:s.f.key.size≠0)(hks:s.f.key.size<=16)(hv:s.f.value.size<=400)(hc:s.f.cls=ned ((s.f.key.size+s.f.value.size:Nat):Int))(he:s.f.epoch=s.a.c.now)
  (hw:gJ s.a.L s.f.key=if s.f.had=true then some s.f.old else none) (hd:adV s.a.d K s.f.key s.f.value (spn s.f.cls).toNat)
  (h1:fA (resK 2 s t K) T (M+20) (N+1) (updB B s.f.key (ar5 s t K))->Q 0 ⟨resK 2 s t K,{s.f with found:=s.f.had,aep:=s.f.epoch,line:= -1},6⟩):wP k t b 0 s Q:=by
 subst hk;obtain⟨e1,e2⟩:=g.put hM hN ht (f:=s.f) (had:=s.f.had) h hk0 hks hv hc he hw hd;exact .inr (.inr (.inr (.inr (.inr (.inr (.inl ⟨hp,rfl,.inl rfl,K,hl,e1,h1 e2⟩))))))
theorem wp6(g:fA s.a T M N B)(hp:s.ph=6)(ht:t<T)(h1:fA (s.a.FX t 0) T M N B->Q 0 ⟨s.a.FX t 0,s.f,7⟩):wP k t b 0 s Q:=
 .inr (.inr (.inr (.inr (.inr (.inr (.inr (.inr (.inl ⟨hp,rfl,⟨g.rok,by rw[g.rt];exact ht⟩,h1 g.FX⟩))))))))
end
def fK(key v:ByteArray):ZFp:=⟨key,v,⟨#[]⟩,0,⟨#[]⟩,false,false,iO,-1,0,0,0,false,⟨#[]⟩,0⟩
def ZFp.st(f:ZFp)(k ph:Int)(b:AV):dB:= .cells 45 (.av (f.l k ph b))
def ZFp.ansV(f:ZFp):AV:=acy f.code f.found f.ans f.aep
structure ZRp where
 a:ZSto
 t:Nat
 key:ByteArray
 v:ByteArray
 b:ZBlk
 I:Nat->Nat->ZKs->Prop
 q:Nat->ZKs->Prop
structure ZRn where
 s:ZKs
 k:Nat
 m:Nat
def ZRp.okI(x:ZRp)(k:Int):Prop:=x.I 1 0 ⟨x.a,fK x.key x.v,0⟩/\ ∀j m s,x.I j m s->j<=400/\s.ph≠7/\wP k x.t x.b m s (λm' y=>(y.ph=7/\m'=0/\x.q j y)\/x.I (j+1) m' y)
noncomputable def runK(k:Int):Ctr:={X:=ZRp,args:=λx=>[.ptr 0 0,i64 x.t,ahD k x.key x.v],k:=1,os:=λx=>[.abs (ownM x.a.os)],pre:=λx=>Hd (x.okI k),outs:=[
 {Y:=ZRn,post:=λx y=>Hd (x.q y.k y.s),ret:=λ_ y=> .tup [y.s.f.ansV,i64 y.k,boo true],m:=1,os:=λ_ y=>[.abs (ownM y.s.a.os)]}]}
noncomputable def annK(k:Int)(x:ZRp):FuncId->pX:=λf=>bif Nat.beq f 35 then(λb _ h=>bif Nat.beq b 0 then [
 {σ:=ZRn,fr:=λs=>[(10,i64 s.k)],ob:=λs=>[(0,some (.abs (ownM s.s.a.os))),(3,some (s.s.f.st k s.s.ph gV))],inv:=λs=>Hd (1<=s.k/\x.I s.k 0 s.s),meas:=λs=>501-s.k,test:=λ_ h=> !byAt h}]else [])elseλ_ _ _=>[]
noncomputable def at7(x:ZRp):FuncId->pX:=λf=>bif Nat.beq f 35 then(λb _ h=>bif Nat.beq b 0 then [
 {σ:=ZRn,fr:=λs=>[(10,i64 s.k)],ob:=λs=>[(0,some (.abs (ownM s.s.a.os))),(3,some (s.s.f.st 1 s.s.ph gV))],inv:=λs=>Hd (1<=s.k/\x.I s.k 0 s.s),meas:=λs=>501-s.k,test:=λ_ h=> !byAt h},
 {σ:=ZRn,fr:=λs=>[(10,i64 s.k)],ob:=λs=>[(0,some (.abs (ownM s.s.a.os))),(3,some (s.s.f.st 1 2 (.slW h.next 0 1 (64*s.m)))),(h.next,some (SQ x.b.enc (64*s.m)))],nx:=1,inv:=λs=>Hd (1<=s.k/\s.m≠0/\s.s.ph=2/\x.I s.k s.m s.s),meas:=λs=>501-s.k,test:=λ_ h=>byAt h}]else [])elseλ_ _ _=>[]
noncomputable def ajG:WTr:=λargs h K=>match args with
 |[a,t,.agg l]=>(bif hasB l then ctrT aoO else ctrT (RZ 1)) [a,t,.agg l] h K
 |_=>False
theorem ajH(args:List AV)(h:Heap)(K:AV->Heap->Prop)(hq:ajG args h K):Sp Tryz.prog 34 args h K:=by
 unfold ajG at hq;split at hq
 ·exact ZX (P:=Tryz.prog) (f:=34) _ (bM ajE) (bM adD) _ _ _ hq
 ·exact hq.elim
noncomputable def aua(k:Int):jd:=[(17,ZY),(34,ctrT (aax k))]
noncomputable def aub:jd:=[(17,ZY),(34,ajG)]
theorem anG{k:Int}(h:bZ Tryz.prog 34 (aax k)):dX Tryz.prog (aua k):= .cons QM (.cons (bM h) .nil)
theorem anH:dX Tryz.prog aub:= .cons QM (.cons ajH .nil)
def jq:Prop:=Value.slice none 0 0=Value.slice none 0 0
def vT(a:ZFp)(b:ZFp):Prop:=a.code=b.code/\a.found=b.found/\a.ans=b.ans/\jq/\jq/\a.aep=b.aep/\True
def IK(a:ZKs)(b:ZKs):Prop:=a.f.key=b.f.key/\a.f.value=b.f.value/\a.f.to=b.f.to/\jq/\a.ph=b.ph/\a.f.epoch=b.f.epoch/\a.f.pos=b.f.pos/\a.f.past=b.f.past/\(0:Int)=0/\a.f.had=b.f.had/\a.f.old.key=b.f.old.key/\a.f.old.id=b.f.old.id/\a.f.old.ver=b.f.old.ver/\a.f.old.line=b.f.old.line/\a.f.old.cls=b.f.old.cls/\a.f.line=b.f.line/\a.f.cls=b.f.cls/\a.f.piece=b.f.piece/\jq/\(0:Int)=0/\jq/\vT a.f b.f
def sV:Prop:=(0:Int)=0/\false=false/\ByteArray.mk #[]=ByteArray.mk #[]/\jq/\jq/\(0:Int)=0/\True
def Nj(a:ZFp):Prop:=a.code=0/\a.found=false/\a.ans=ByteArray.mk #[]/\jq/\jq/\a.aep=0/\True
def Nk(a:ZKs)(b:ZRp):Prop:=a.f.key=b.key/\a.f.value=b.v/\a.f.to=ByteArray.mk #[]/\jq/\a.ph=0/\a.f.epoch=0/\a.f.pos=ByteArray.mk #[]/\a.f.past=false/\(0:Int)=0/\a.f.had=false/\a.f.old.key=ByteArray.mk #[]/\a.f.old.id=0/\a.f.old.ver=0/\a.f.old.line=0/\a.f.old.cls=0/\a.f.line=(-(1:Int))/\a.f.cls=0/\a.f.piece=0/\jq/\(0:Int)=0/\jq/\Nj a.f
def Nl(a:ZSto)(b:ZSto):Prop:=ownM a.os=ownM b.os
def lG(a:ZSto)(b:ZSto):Prop:=Nl a b/\True
def FB(a:ZRp)(b:ZSto):Prop:= ∃y:ZRn,Hd (a.q y.k y.s)/\(Nj y.s.f/\(y.k:Int)=0/\true=false/\True)/\lG y.s.a b
def sW(a:ZRp):Prop:=a.key=a.key/\a.v=a.v/\ByteArray.mk #[]=ByteArray.mk #[]/\jq/\True
def sZ(a:ZRn)(b:ZRp):Prop:=Hd (1<=a.k/\b.I a.k 0 a.s)
def Np(a:ZRp)(b:ZKs)(c:Nat):Prop:= ∃y_1:ZRn,Hd (a.q y_1.k y_1.s)/\(vT y_1.s.f b.f/\(y_1.k:Int)=(c:Int)/\true=true/\True)/\lG y_1.s.a b.a
def Ya(a:ZWk)(b:ZRp)(c:Nat):Prop:= ∀y:ZKs,Hd (a.q 0 y)->cP (BEq.beq y.ph (7:Int)) (Np b y c) (I64 ((c:Int)+1)/\ ∃s_1:ZRn,sZ s_1 b/\501-s_1.k<501-c/\((s_1.k:Int)=(c:Int)+1/\True)/\((1:Int)=1/\IK s_1.s y)/\sV/\((1:Int)=1/\sW b)/\lG s_1.s.a y.a)
def Nq(a:ZRn)(b:ZRp):Prop:=Hd (1<=a.k/\a.m≠0/\a.s.ph=2/\b.I a.k a.m a.s)
def Yb(x:ZRp):Prop:=
 (∃s:ZRn,sZ s x/\True/\((s.k:Int)=1/\True)/\((1:Int)=1/\Nk s.s x)/\sV/\((1:Int)=1/\sW x)/\lG s.s.a x.a)/\(∀s:ZRn,sZ s x->cP (decide ((s.k:Int)<=400)) (∃x_1:ZWk,Hd (x_1.n=0/\wP (1:Int) x_1.t x_1.b 0 x_1.s x_1.q)/\(0=0/\(x_1.t:Int)=(x.t:Int)/\((1:Int)=1/\IK x_1.s s.s)/\True)/\lG x_1.s.a s.s.a/\Ya x_1 x s.k/\ ∀y:ZKs,Hd (x_1.q 1 y/\y.ph=2/\(1:Int)=1)->I64 ((s.k:Int)+1)/\ ∃s_1:ZRn,Nq s_1 x/\501-s_1.k<501-s.k/\((s_1.k:Int)=(s.k:Int)+1/\True)/\(64*s_1.m=64/\ ∀q:Nat,q<64*s_1.m->[Value.int .u8 (x.b.enc q)]=[Value.int .u8 (x_1.b.enc q)])/\((1:Int)=1/\s_1.s.f.key=y.f.key/\s_1.s.f.value=y.f.value/\s_1.s.f.to=y.f.to/\jq/\(2:Int)=2/\s_1.s.f.epoch=y.f.epoch/\s_1.s.f.pos=y.f.pos/\s_1.s.f.past=y.f.past/\(0:Int)=0/\s_1.s.f.had=y.f.had/\s_1.s.f.old.key=y.f.old.key/\s_1.s.f.old.id=y.f.old.id/\s_1.s.f.old.ver=y.f.old.ver/\s_1.s.f.old.line=y.f.old.line/\s_1.s.f.old.cls=y.f.old.cls/\s_1.s.f.line=y.f.line/\s_1.s.f.cls=y.f.cls/\s_1.s.f.piece=y.f.piece/\(0=0/\64*s_1.m=64)/\(0:Int)=0/\jq/\vT s_1.s.f y.f)/\sV/\((1:Int)=1/\sW x)/\lG s_1.s.a y.a) (FB x s.s.a))/\(∀s:ZRn,Nq s x->cP (decide ((s.k:Int)<=400)) (∃x_1:ZWk,Hd (x_1.n≠0/\x_1.s.ph=2/\wP (1:Int) x_1.t x_1.b x_1.n x_1.s x_1.q)/\(0=0/\(x_1.t:Int)=(x.t:Int)/\((1:Int)=1/\x_1.s.f.key=s.s.f.key/\x_1.s.f.value=s.s.f.value/\x_1.s.f.to=s.s.f.to/\jq/\(2:Int)=2/\x_1.s.f.epoch=s.s.f.epoch/\x_1.s.f.pos=s.s.f.pos/\x_1.s.f.past=s.s.f.past/\(0:Int)=0/\x_1.s.f.had=s.s.f.had/\x_1.s.f.old.key=s.s.f.old.key/\
 x_1.s.f.old.id=s.s.f.old.id/\x_1.s.f.old.ver=s.s.f.old.ver/\x_1.s.f.old.line=s.s.f.old.line/\x_1.s.f.old.cls=s.s.f.old.cls/\x_1.s.f.line=s.s.f.line/\x_1.s.f.cls=s.s.f.cls/\x_1.s.f.piece=s.s.f.piece/\(0=0/\64*x_1.n=64*s.m)/\(0:Int)=0/\jq/\vT x_1.s.f s.s.f)/\True)/\(Nl x_1.s.a s.s.a/\(64*x_1.n=64*s.m/\ ∀q:Nat,q<64*x_1.n->[Value.int .u8 (x_1.b.enc q)]=[Value.int .u8 (x.b.enc q)])/\True)/\Ya x_1 x s.k/\ ∀y:ZKs,Hd (x_1.q (x_1.n+1) y/\y.ph=2)->I64 ((s.k:Int)+1)/\ ∃s_1:ZRn,Nq s_1 x/\501-s_1.k<501-s.k/\((s_1.k:Int)=(s.k:Int)+1/\True)/\(64*s_1.m=64*(x_1.n+1)/\ ∀q:Nat,q<64*s_1.m->[Value.int .u8 (x.b.enc q)]=[Value.int .u8 (x_1.b.enc q)])/\((1:Int)=1/\s_1.s.f.key=y.f.key/\s_1.s.f.value=y.f.value/\s_1.s.f.to=y.f.to/\jq/\(2:Int)=2/\s_1.s.f.epoch=y.f.epoch/\s_1.s.f.pos=y.f.pos/\s_1.s.f.past=y.f.past/\(0:Int)=0/\s_1.s.f.had=y.f.had/\s_1.s.f.old.key=y.f.old.key/\s_1.s.f.old.id=y.f.old.id/\s_1.s.f.old.ver=y.f.old.ver/\s_1.s.f.old.line=y.f.old.line/\s_1.s.f.old.cls=y.f.old.cls/\s_1.s.f.line=y.f.line/\s_1.s.f.cls=y.f.cls/\s_1.s.f.piece=y.f.piece/\(0=0/\64*s_1.m=64*(x_1.n+1))/\(0:Int)=0/\jq/\vT s_1.s.f y.f)/\sV/\((1:Int)=1/\sW x)/\lG s_1.s.a y.a) (FB x s.s.a))/\True
theorem adH(x:ZRp):Yb x=wpF Tryz.prog aub tt (at7 x) 200 6 35 ((runK 1).args x) (hO 1 ((runK 1).os x)) (λv h'=>eF 1 x v h' (runK 1).outs):=by kernel_rfl
def Yc(x:ZRp):Prop:=
 (∃s:ZRn,sZ s x/\True/\((s.k:Int)=1/\True)/\((2:Int)=2/\Nk s.s x)/\sV/\((2:Int)=2/\sW x)/\lG s.s.a x.a)/\(∀s:ZRn,sZ s x->cP (decide ((s.k:Int)<=400)) (∃x_1:ZWk,Hd (x_1.n=0/\wP (2:Int) x_1.t x_1.b 0 x_1.s x_1.q)/\(0=0/\(x_1.t:Int)=(x.t:Int)/\((2:Int)=2/\IK x_1.s s.s)/\True)/\lG x_1.s.a s.s.a/\ ∀y:ZKs,Hd (x_1.q 0 y)->cP (BEq.beq y.ph (7:Int)) (Np x y s.k) (I64 ((s.k:Int)+1)/\ ∃s_1:ZRn,sZ s_1 x/\501-s_1.k<501-s.k/\((s_1.k:Int)=(s.k:Int)+1/\True)/\((2:Int)=2/\IK s_1.s y)/\sV/\((2:Int)=2/\sW x)/\lG s_1.s.a y.a)) (FB x s.s.a))/\True
theorem adI(x:ZRp):Yc x=wpF Tryz.prog (aua 2) tt (annK 2 x) 200 6 35 ((runK 2).args x) (hO 1 ((runK 2).os x)) (λv h'=>eF 1 x v h' (runK 2).outs):=by kernel_rfl
set_option maxHeartbeats 1000000 in
theorem Sl(x:ZRp)(hx:x.okI 1):Yb x:=by
 obtain⟨h0,hI⟩:=hx;have end0: ∀(k:Nat) (y:ZKs),1<=k->k<=400->((y.ph=7/\(0:Nat)=0/\x.q k y)\/x.I (k+1) 0 y)->(y.ph=7->x.q k y)/\(y.ph≠7->x.I (k+1) 0 y):=λk y _ _ h=>by
  rcases h with ⟨h1,_,h2⟩|h
  ·exact⟨λ_=>h2,λh3=>absurd h1 h3⟩
  ·exact⟨λh3=>absurd h3 (hI _ _ _ h).2.1,λ_=>h⟩
 have ar6: ∀k:Nat,k<=400->I64 ((k:Int)+1):=λk hk=>by unfold I64;omega
 unfold Yb;simp only[sZ,Nk,sV,sW,lG,IK,Ya,Nq,jq,vT,FB,Nl,Nj,Np];simp only[aZ,aV,aU,aA,aI,bQ,bF,aO,aK,ay,aX,aW,bU,bG,bH,bI,bV,bC,bJ,bn,eG,aH,aN,ah,ak,aB,aF,aC,aG];refine⟨⟨⟨⟨x.a,fK x.key x.v,0⟩,1,0⟩,⟨aY _,h0⟩,rfl,by repeat' (first|exact rfl|refine And.intro ?_ ?_),rfl⟩,λs hs=> ?_,λs hs=> ?_⟩
 ·obtain⟨h1,h2⟩:=hs
  obtain⟨k50,h7,hw⟩:=hI _ _ _ h2;refine bf (λ_=>⟨⟨s.s,x.t,x.b,0,_⟩,⟨rfl,hw⟩,by repeat' (first|exact rfl|refine And.intro ?_ ?_),rfl,λy hy=> ?_,λy hy=> ?_⟩) λh=>absurd (aT h) (by omega)
  ·obtain⟨e1,e2⟩:=end0 s.k y h1 k50 hy
   refine bf (λh=>⟨⟨y,s.k,0⟩,e1 (beq_iff_eq.1 h),by repeat' (first|exact rfl|refine And.intro ?_ ?_),rfl⟩) λh=>⟨ar6 _ k50,⟨y,s.k+1,0⟩,⟨by show 1<=s.k+1;omega,e2 (by simpa using h)⟩,by show 501-(s.k+1)<_;omega,by show((s.k+1:Nat):Int)=_;omega,by repeat' (first|exact rfl|refine And.intro ?_ ?_),rfl⟩
  ·obtain⟨hy,hp⟩:=hy
   rcases hy with ⟨h3,_⟩|hy
   ·exact absurd (hp.symm.trans h3) (by decide)
   ·exact⟨ar6 _ k50,⟨y,s.k+1,1⟩,⟨by show 1<=s.k+1;omega,by show¬(1:Nat)=0;decide,hp,hy⟩,by show 501-(s.k+1)<_;omega,by show((s.k+1:Nat):Int)=_;omega,⟨rfl,λ_ _=>rfl⟩,by repeat' (first|exact rfl|refine And.intro ?_ ?_),rfl⟩
 ·obtain⟨h1,hm,hph,h2⟩:=hs
  obtain⟨k50,h7,hw⟩:=hI _ _ _ h2;refine bf (λ_=>⟨⟨s.s,x.t,x.b,s.m,_⟩,⟨hm,hph,hw⟩,by repeat' (first|exact rfl|refine And.intro ?_ ?_),⟨rfl,rfl,λ_ _=>rfl⟩,λy hy=> ?_,λy hy=> ?_⟩) λh=>absurd (aT h) (by omega)
  ·obtain⟨e1,e2⟩:=end0 s.k y h1 k50 hy
   refine bf (λh=>⟨⟨y,s.k,0⟩,e1 (beq_iff_eq.1 h),by repeat' (first|exact rfl|refine And.intro ?_ ?_),rfl⟩) λh=>⟨ar6 _ k50,⟨y,s.k+1,0⟩,⟨by show 1<=s.k+1;omega,e2 (by simpa using h)⟩,by show 501-(s.k+1)<_;omega,by show((s.k+1:Nat):Int)=_;omega,by repeat' (first|exact rfl|refine And.intro ?_ ?_),rfl⟩
  ·obtain⟨hy,hp⟩:=hy
   rcases hy with ⟨h3,_⟩|hy
   ·exact absurd (hp.symm.trans h3) (by decide)
   ·exact⟨ar6 _ k50,⟨y,s.k+1,s.m+1⟩,⟨by show 1<=s.k+1;omega,by show s.m+1≠0;omega,hp,hy⟩,by show 501-(s.k+1)<_;omega,by show((s.k+1:Nat):Int)=_;omega,⟨rfl,λ_ _=>rfl⟩,by repeat' (first|exact rfl|refine And.intro ?_ ?_),rfl⟩
theorem Sm(x:ZRp)(hx:x.okI 2):Yc x:=by
 obtain⟨h0,hI⟩:=hx;have ar6: ∀k:Nat,k<=400->I64 ((k:Int)+1):=λk hk=>by unfold I64;omega
 unfold Yc;simp only[sZ,Nk,sV,sW,lG,IK,Np,FB,Nj,jq,vT,Nl];simp only[aZ,aV,aU,aA,aI,bQ,bF,aO,aK,ay,aX,aW,bU,bG,bH,bI,bV,bC,bJ,bn,eG,aH,aN,ah,ak,aB,aF,aC,aG];refine⟨⟨⟨⟨x.a,fK x.key x.v,0⟩,1,0⟩,⟨aY _,h0⟩,rfl,by repeat' (first|exact rfl|refine And.intro ?_ ?_),rfl⟩,λs hs=> ?_⟩;obtain⟨h1,h2⟩:=hs;obtain⟨k50,h7,hw⟩:=hI _ _ _ h2;refine bf (λ_=>⟨⟨s.s,x.t,x.b,0,_⟩,⟨rfl,hw⟩,by repeat' (first|exact rfl|refine And.intro ?_ ?_),rfl,λy hy=> ?_⟩) λh=>absurd (aT h) (by omega)
 have e:(y.ph=7->x.q s.k y)/\(y.ph≠7->x.I (s.k+1) 0 y):=by
  rcases hy with ⟨h1,_,h2⟩|h
  ·exact⟨λ_=>h2,λh3=>absurd h1 h3⟩
  ·exact⟨λh3=>absurd h3 (hI _ _ _ h).2.1,λ_=>h⟩
 obtain⟨e1,e2⟩:=e;refine bf (λh=>⟨⟨y,s.k,0⟩,e1 (beq_iff_eq.1 h),by repeat' (first|exact rfl|refine And.intro ?_ ?_),rfl⟩) λh=>⟨ar6 _ k50,⟨y,s.k+1,0⟩,⟨by show 1<=s.k+1;omega,e2 (by simpa using h)⟩,by show 501-(s.k+1)<_;omega,by show((s.k+1:Nat):Int)=_;omega,by repeat' (first|exact rfl|refine And.intro ?_ ?_),rfl⟩
theorem anI:bZ Tryz.prog 35 (runK 1):=iZ dD mixed anH at7 200 6 (λ_=>rfl) (λ_=>⟨λ_=>rfl,trivial⟩) λx hx=>Eq.mp (adH x) (Sl x (aZ.1 hx))
theorem anJ:bZ Tryz.prog 35 (runK 2):=iZ dD mixed (anG adF) (annK 2) 200 6 (λ_=>rfl) (λ_=>⟨λ_=>rfl,trivial⟩) λx hx=>Eq.mp (adI x) (Sm x (aZ.1 hx))
def zBk:ZBlk:=⟨0,0,0,0,0,⟨#[]⟩,⟨#[]⟩⟩
structure ZWp where
 a:ZSto
 T:Nat
 M:Nat
 N:Nat
 B:ByteArray->ZBlk
 t:Nat
 key:ByteArray
 v:ByteArray
namespace ZWp
def ok(x:ZWp):Prop:=fA x.a x.T x.M x.N x.B/\x.t<x.T/\x.a.r.has x.t=0/\x.M<=900000/\x.N<=100
def a1(x:ZWp):ZSto:=x.a.FX x.t x.a.r.now
def a2(x:ZWp):ZSto:=x.a1.FX x.t 0
def c(x:ZWp):Int:=ned ((x.key.size+x.v.size:Nat):Int)
def sp(x:ZWp):Nat:=(spn x.c).toNat
def had(x:ZWp):Bool:=(gJ x.a.L x.key).isSome
noncomputable def far(x:ZWp):Nat:=(fl x.a.L (bkt x.key) ⟨#[]⟩ false x.key).length
end ZWp
structure PPut (x:ZWp) (R:ZRd) (a':ZSto) (B':ByteArray->ZBlk):Prop where
 base:fA a' x.T (x.M+400) (x.N+1) B'
 bk: ∃b,B'=updB x.B x.key b/\b.value=x.v/\b.key=x.key/\b.may
 L: ∃l,a'.L=jg x.a.L l/\l.key=x.key
 r:a'.r=R
 n:a'.n=x.a.n+1
 e: ∃E:ZEff,E.epoch=x.a.c.now/\ ∀i,a'.e i=if i=x.a.n then E else x.a.e i
 now:a'.c.now=x.a.c.now
 pool: ∃i j,x.a.p.takes x.c i j/\a'.p=x.a.p.take x.c i j
 bag: ∃e,a'.b=if x.had=true then x.a.b.put e else x.a.b
 note: ∃K:Nat,a'.c=x.a.c.notes x.t K x.sp
structure FP (x:ZWp) (f:ZFp):Prop where
 key:f.key=x.key
 value:f.value=x.v
 code:f.code=0
 found:f.found=false
 ans:f.ans=⟨#[]⟩
 ep:f.epoch=x.a.c.now
 aep:f.aep=0
def was(x:ZWp)(f:ZFp):Prop:=gJ x.a.L x.key=if f.had=true then some f.old else none
def ZWp.ap(x:ZWp)(i j:Nat)(d:DevM):ZSto:=(x.a1.Xd (x.a.p.take x.c i j)).Gy d
inductive Sr (x:ZWp):Nat->Nat->ZKs->Prop
 |enter:Sr x 1 0 ⟨x.a,fK x.key x.v,0⟩
 |arJ {j f} (h:FP x f) (hs:anF f) (hl:f.line= -1) (hj:j+(ZKs.mk x.a1 f 1).adW=2+x.far):Sr x j 0 ⟨x.a1,f,1⟩
 |take {f} (h:FP x f) (hl:f.line= -1) (hw:was x f):Sr x (3+x.far) 0 ⟨x.a1,f,3⟩
 |write {f i j K p d} (h:FP x f) (hw:was x f) (ht:x.a.p.takes x.c i j) (g:fA (x.ap i j d) x.T (x.M+20*p) x.N x.B) (hh:oN (x.ap i j d) K x.c) (hd:adV d K x.key x.v p) (hl:f.line=(K:Nat)) (hp:f.piece=(p:Nat)) (hc:f.cls=x.c) (hlt:p<x.sp):Sr x (4+x.far+p) 0 ⟨x.ap i j d,f,4⟩
 |pub {f i j K d} (h:FP x f) (hw:was x f) (ht:x.a.p.takes x.c i j) (g:fA (x.ap i j d) x.T (x.M+160) x.N x.B) (hh:oN (x.ap i j d) K x.c) (hd:adV d K x.key x.v x.sp) (hl:f.line=(K:Nat)) (hc:f.cls=x.c):Sr x (4+x.far+x.sp) 0 ⟨x.ap i j d,f,5⟩
 |leave {f a' B'} (hc:f.code=0) (hf:f.found=x.had) (ha:f.ans=⟨#[]⟩) (he:f.aep=x.a.c.now) (g:PPut x (x.a.r.put x.t x.a.r.now) a' B'):Sr x (5+x.far+x.sp) 0 ⟨a',f,6⟩
 |full {f} (hc:f.code=4) (hf:f.found=false) (ha:f.ans=⟨#[]⟩) (he:f.aep=0) (hfu: ∀i,i<x.a.p.n->x.a.p.cls i≠ -1/\x.a.p.full x.c i):Sr x (4+x.far) 0 ⟨x.a1,f,6⟩
inductive ar7 (x:ZWp):Nat->ZKs->Prop
 |bad {s} (h:goodP 2 x.key x.v≠0) (hs:s=⟨x.a,{fK x.key x.v with code:=goodP 2 x.key x.v},7⟩):ar7 x 1 s
 |full {f} (h:goodP 2 x.key x.v=0) (hc:f.code=4) (hf:f.found=false) (ha:f.ans=⟨#[]⟩) (he:f.aep=0) (hfu: ∀i,i<x.a.p.n->x.a.p.cls i≠ -1/\x.a.p.full x.c i):ar7 x (4+x.far) ⟨x.a2,f,7⟩
 |done {f a' B'} (h:goodP 2 x.key x.v=0) (hc:f.code=0) (hf:f.found=x.had) (ha:f.ans=⟨#[]⟩) (he:f.aep=x.a.c.now) (g:PPut x ((x.a.r.put x.t x.a.r.now).put x.t 0) a' B'):ar7 x (5+x.far+x.sp) ⟨a',f,7⟩
theorem aoR{L:Lks}{b:Nat}{pos s:ByteArray}{past:Bool}:(fl L b pos past s).length<=L.length:=List.length_filter_le _ _
theorem arK{x:ZWp}{f:ZFp}(h:was x f):f.had=x.had:=by
 unfold was at h;unfold ZWp.had;rw[h];cases f.had<;>rfl
theorem anK{x:ZWp}(hx:x.ok){j m:Nat}{s:ZKs}(h:Sr x j m s)(hg:s.ph≠0->goodP 2 x.key x.v=0):j<=400/\s.ph≠7/\wP 2 x.t zBk m s (λm' y=>(y.ph=7/\m'=0/\ar7 x j y)\/(Sr x (j+1) m' y/\(y.ph≠0->goodP 2 x.key x.v=0))):=by
 obtain⟨g,ht,hr,hM,hN⟩:=hx;have hfar:x.far<=100:=Nat.le_trans aoR (Nat.le_trans g.len hN);have hsp:x.sp<=8:=by have:=dR x.c;unfold ZWp.sp;omega
 have g1:fA x.a1 x.T x.M x.N x.B:=g.FX;cases h with
 |enter=>
  refine⟨by decide,by show¬(0:Int)=7;decide,wp0 g ht hr rfl (λe=> .inl ⟨rfl,rfl,.bad e rfl⟩) λe _=> .inr ⟨.arJ ⟨rfl,rfl,rfl,rfl,rfl,rfl,rfl⟩ ⟨(yG e).2.1,by show(0:Nat)<=16;decide,λh=>by cases h⟩ rfl ?_,λ_=>e⟩⟩;show 1+1+(fl x.a.L (bkt x.key) ⟨#[]⟩ false x.key).length=2+x.far;unfold ZWp.far;omega
 | @arJ j f hF hs hl hj=>
  have e:=hg (by show¬(1:Int)=0;decide);refine⟨by omega,by show¬(1:Int)=7;decide,Sj (k:=2) (t:=x.t) (b:=zBk) g1 rfl hs (λh=>by cases h) (λy hy hs' hgo=> .inr ⟨.arJ ⟨hF.key,hF.value,hF.code,hF.found,hF.ans,hF.ep,hF.aep⟩ hs' hl (by have hgo:(ZKs.mk x.a1 f 1).adW=(ZKs.mk x.a1 {f with pos:=y.key,past:=true} 1).adW+1:=hgo;show j+1+(ZKs.mk x.a1 {f with pos:=y.key,past:=true} 1).adW=2+x.far;omega),λ_=>e⟩) (λy hy h0=> ?_) λhy h0=> ?_⟩
  ·have e1:nx3 f 2 true=3:=by unfold nx3;rw[if_neg (by decide),if_neg (by decide),if_pos (by omega)]
   have ej:j+1=3+x.far:=by omega
   show(nx3 f 2 true=7/\_)\/(Sr x (j+1) 0 ⟨x.a1,_,nx3 f 2 true⟩/\_);rw[e1,ej];exact .inr ⟨.take ⟨hF.key,hF.value,hF.code,hF.found,hF.ans,hF.ep,hF.aep⟩ hl (by have hy:gJ x.a.L f.key=some y:=hy;rw[hF.key]at hy;exact hy),λ_=>e⟩
  ·have e1:nx3 f 2 false=3:=by unfold nx3;rw[if_neg (by decide),if_neg (by decide),if_pos (by omega)]
   have ej:j+1=3+x.far:=by omega
   show(nx3 f 2 false=7/\_)\/(Sr x (j+1) 0 ⟨x.a1,_,nx3 f 2 false⟩/\_);rw[e1,ej];exact .inr ⟨.take ⟨hF.key,hF.value,hF.code,hF.found,hF.ans,hF.ep,hF.aep⟩ hl (by have hy:gJ x.a.L f.key=none:=hy;rw[hF.key]at hy;exact hy),λ_=>e⟩
 | @take f hF hl hw=>
  have e:=hg (by show¬(3:Int)=0;decide);obtain⟨k0,k1,k2⟩:=yG e;have ec:ndK 2 f=x.c:=by unfold ndK ZWp.c;rw[if_pos rfl,hF.key,hF.value]
  refine⟨by omega,by show¬(3:Int)=7;decide,wp3 (k:=2) g1 (.inl rfl) rfl (by rw[hF.key];exact k1) (by rw[hF.value];exact k2 rfl) (λhfu=> ?_) λi j K h1 h2 h3 h4 _=> ?_⟩
  ·have hfu: ∀i,i<x.a.p.n->x.a.p.cls i≠ -1/\x.a.p.full (ndK 2 f) i:=hfu
   rw[ec]at hfu;have:=Sr.full (x:=x) (f:={f with cls:=ndK 2 f,code:=4}) rfl hF.found hF.ans hF.aep hfu;rw[show 3+x.far+1=4+x.far by omega];exact .inr ⟨this,λ_=>e⟩
  ·have h1:x.a.p.takes (ndK 2 f) i j:=h1
   have h3:fA (x.a1.Xd (x.a.p.take (ndK 2 f) i j)) x.T x.M x.N x.B:=h3;have h4:oN (x.a1.Xd (x.a.p.take (ndK 2 f) i j)) K (ndK 2 f):=h4;show(_/\_)\/(Sr x _ 0 ⟨x.a1.Xd (x.a.p.take (ndK 2 f) i j),{f with cls:=ndK 2 f,line:=K,piece:=0},4⟩/\_);rw[ec]at h1 h3 h4 ⊢;have s1:=dR x.c;have s2:=aoQ (k:=2) (f:=f) (by rw[hF.key];exact k1) (by rw[hF.value];exact k2 rfl);rw[ec]at s2;have hz:0<x.sp:=by unfold ZWp.sp;omega
   have:=Sr.write (x:=x) (f:={f with cls:=x.c,line:=K,piece:=0}) (i:=i) (j:=j) (K:=K) (p:=0) (d:=x.a.d) ⟨hF.key,hF.value,hF.code,hF.found,hF.ans,hF.ep,hF.aep⟩ hw h1 h3 h4 (λm r h1 h2 _=>absurd h2 (by omega)) rfl rfl rfl hz;rw[show 3+x.far+1=4+x.far+0 by omega];exact .inr ⟨this,λ_=>e⟩
 | @write f i j K p d hF hw htk g' hh hd hl hp hc hlt=>
  have e:=hg (by show¬(4:Int)=0;decide);obtain⟨k0,k1,k2⟩:=yG e;have s1:=dR x.c;have hsp2:(x.sp:Int)=spn x.c:=by unfold ZWp.sp;omega
  refine⟨by omega,by show¬(4:Int)=7;decide,wp4 (k:=2) g' (by omega) rfl (by rw[hF.key];exact k1) (by rw[hF.value];exact k2 rfl) (K:=K) (p:=p) (.inl rfl) hl hp (by show(p:Int)<spn f.cls;rw[hc];omega) (by show oN _ K f.cls;rw[hc];exact hh) (by rw[hF.key,hF.value];exact hd) (λd' hne gd hh' hd' _=> ?_) λd' heq gd hh' hd' _=> ?_⟩
  ·have hne:(p:Int)+1≠spn f.cls:=hne
   have hh':oN (x.ap i j d') K f.cls:=hh';have hd':adV d' K f.key f.value (p+1):=hd';rw[hc]at hne hh';rw[hF.key,hF.value]at hd';have:=Sr.write (x:=x) (f:={f with piece:=(p+1:Nat)}) (i:=i) (j:=j) (K:=K) (p:=p+1) (d:=d') ⟨hF.key,hF.value,hF.code,hF.found,hF.ans,hF.ep,hF.aep⟩ hw htk (by rw[show x.M+20*(p+1)=x.M+20*p+20 by omega];exact gd) hh' hd' hl rfl hc (by omega);rw[show 4+x.far+p+1=4+x.far+(p+1) by omega];exact .inr ⟨this,λ_=>e⟩
  ·have heq:(p:Int)+1=spn f.cls:=heq
   have hh':oN (x.ap i j d') K f.cls:=hh';have hd':adV d' K f.key f.value (spn f.cls).toNat:=hd';rw[hc]at heq hh' hd';rw[hF.key,hF.value]at hd';have:=Sr.pub (x:=x) (f:={f with piece:=0}) (i:=i) (j:=j) (K:=K) (d:=d') ⟨hF.key,hF.value,hF.code,hF.found,hF.ans,hF.ep,hF.aep⟩ hw htk (fA.up gd (by omega) (aY _)) hh' hd' hl hc;rw[show 4+x.far+p+1=4+x.far+x.sp by omega];exact .inr ⟨this,λ_=>e⟩
 | @pub f i j K d hF hw htk g' hh hd hl hc=>
  have e:=hg (by show¬(5:Int)=0;decide);obtain⟨k0,k1,k2⟩:=yG e;refine⟨by omega,by show¬(5:Int)=7;decide,wp5p (k:=2) g' (by omega) (by omega) rfl rfl (K:=K) ht hl (by show oN _ K f.cls;rw[hc];exact hh) (by rw[hF.key];exact k0) (by rw[hF.key];exact k1) (by rw[hF.value];exact k2 rfl) (by show f.cls=_;rw[hc,hF.key,hF.value];rfl) hF.ep (by show gJ x.a.L f.key=_;rw[hF.key];exact hw) (by show adV d K f.key f.value (spn f.cls).toNat;rw[hF.key,hF.value,hc];exact hd) λgr=> ?_⟩;have wh:=arK hw;rw[show 4+x.far+x.sp+1=5+x.far+x.sp by omega];refine .inr ⟨.leave (B':=updB x.B f.key (ar5 ⟨x.ap i j d,f,5⟩ x.t K)) hF.code (by show f.had=_;exact wh) hF.ans (by show f.epoch=_;exact hF.ep) ?_,λ_=>e⟩
  exact{base:=fA.up gr (by omega) (aY _)
        bk:=⟨_,by rw[hF.key],hF.value,hF.key,by
         obtain⟨ln,_,q2,_,_,_,q6,_⟩:=gr.q ((((ZPp.mk (x.ap i j d) f x.t K).pt 2).cg).lnk 2 f.had) ((gK g'.srt).2 (.inl rfl));have e0:updB x.B f.key (ar5 ⟨x.ap i j d,f,5⟩ x.t K) ((((ZPp.mk (x.ap i j d) f x.t K).pt 2).cg).lnk 2 f.had).key=ar5 ⟨x.ap i j d,f,5⟩ x.t K:=if_pos rfl;rw[e0]at q6
         exact q6.1⟩
        L:=⟨(((ZPp.mk (x.ap i j d) f x.t K).pt 2).cg).lnk 2 f.had,rfl,hF.key⟩
        r:=rfl
        n:=rfl
        e:=⟨(((ZPp.mk (x.ap i j d) f x.t K).pt 2).cg).eff 2 f.had,hF.ep,λi=>rfl⟩
        now:=qW _ _ _ _
        pool:=⟨i,j,htk,rfl⟩
        bag:=⟨(((ZPp.mk (x.ap i j d) f x.t K).pt 2).cg).ent 2,by
         rw[<-wh];show(if f.had=true/\(2:Int)≠4 then x.a.b.put _ else x.a.b)=_
         cases f.had<;>rfl⟩
        note:=⟨K,by
         show x.a.c.notes x.t (K:Int) (ar5 ⟨x.ap i j d,f,5⟩ x.t K).dJ=_;have:(ar5 ⟨x.ap i j d,f,5⟩ x.t K).dJ=x.sp:=by show(spn f.cls).toNat=_;rw[hc];rfl
         rw[this]⟩}
 | @leave f a' B' hc hf ha he gp=>
  have e:=hg (by show¬(6:Int)=0;decide);refine⟨by omega,by show¬(6:Int)=7;decide,wp6 gp.base rfl ht λgr=> .inl ⟨rfl,rfl,.done (B':=B') e hc hf ha he ?_⟩⟩;exact{base:=gr,bk:=gp.bk,L:=gp.L,r:=by show a'.r.put x.t 0=_;rw[gp.r],n:=gp.n,e:=gp.e,now:=gp.now,pool:=gp.pool,bag:=gp.bag,note:=gp.note}
 | @full f hc hf ha he hfu=>
  have e:=hg (by show¬(6:Int)=0;decide);exact⟨by omega,by show¬(6:Int)=7;decide,wp6 g1 rfl ht λ_=> .inl ⟨rfl,rfl,.full e hc hf ha he hfu⟩⟩
inductive anL (x:ZWp):Nat->Nat->ZKs->Prop
 |enter:anL x 1 0 ⟨x.a,fK x.key x.v,0⟩
 |arJ {j f} (h:FP x f) (hs:anF f) (hj:j+(ZKs.mk x.a1 f 1).adW=2+x.far):anL x j 0 ⟨x.a1,f,1⟩
 |read {f m y ln} (h:FP x f) (hh:f.had=true) (hw:gJ x.a.L x.key=some y) (hl:y.line=(ln:Nat)) (ho:f.old=y) (hp:f.piece=(m:Nat)) (hlt:(m:Int)<spn (x.B x.key).cls):anL x (3+x.far+m) m ⟨x.a1,f,2⟩
 |leave {j f} (hj:j<=200) (hc:f.code=0) (he:f.aep=0) (h:f.found=false/\f.ans=⟨#[]⟩/\gJ x.a.L x.key=none\/f.found=true/\f.ans=(x.B x.key).value/\ ∃y,gJ x.a.L x.key=some y):anL x j 0 ⟨x.a1,f,6⟩
inductive ar8 (x:ZWp):ZKs->Prop
 |bad {s} (h:goodP 1 x.key x.v≠0) (hs:s=⟨x.a,{fK x.key x.v with code:=goodP 1 x.key x.v},7⟩):ar8 x s
 |miss {f} (h:goodP 1 x.key x.v=0) (hc:f.code=0) (he:f.aep=0) (hf:f.found=false) (ha:f.ans=⟨#[]⟩) (hw:gJ x.a.L x.key=none):ar8 x ⟨x.a2,f,7⟩
 |hit {f y} (h:goodP 1 x.key x.v=0) (hc:f.code=0) (he:f.aep=0) (hf:f.found=true) (ha:f.ans=(x.B x.key).value) (hw:gJ x.a.L x.key=some y):ar8 x ⟨x.a2,f,7⟩
theorem anM{x:ZWp}(hx:x.ok){j m:Nat}{s:ZKs}(h:anL x j m s)(hg:s.ph≠0->goodP 1 x.key x.v=0):j<=400/\s.ph≠7/\wP 1 x.t (x.B x.key) m s (λm' y=>(y.ph=7/\m'=0/\ar8 x y)\/(anL x (j+1) m' y/\(y.ph≠0->goodP 1 x.key x.v=0))):=by
 obtain⟨g,ht,hr,hM,hN⟩:=hx;have hfar:x.far<=100:=Nat.le_trans aoR (Nat.le_trans g.len hN);have g1:fA x.a1 x.T x.M x.N x.B:=g.FX;cases h with
 |enter=>
  refine⟨by decide,by show¬(0:Int)=7;decide,wp0 g ht hr rfl (λe=> .inl ⟨rfl,rfl,.bad e rfl⟩) λe _=> .inr ⟨.arJ ⟨rfl,rfl,rfl,rfl,rfl,rfl,rfl⟩ ⟨(yG e).2.1,by show(0:Nat)<=16;decide,λh=>by cases h⟩ ?_,λ_=>e⟩⟩;show 1+1+(fl x.a.L (bkt x.key) ⟨#[]⟩ false x.key).length=2+x.far;unfold ZWp.far;omega
 | @arJ j f hF hs hj=>
  have e:=hg (by show¬(1:Int)=0;decide);refine⟨by omega,by show¬(1:Int)=7;decide,Sj (k:=1) (t:=x.t) (b:=x.B x.key) g1 rfl hs (λh=>by cases h) (λy hy hs' hgo=> .inr ⟨.arJ ⟨hF.key,hF.value,hF.code,hF.found,hF.ans,hF.ep,hF.aep⟩ hs' (by have hgo:(ZKs.mk x.a1 f 1).adW=(ZKs.mk x.a1 {f with pos:=y.key,past:=true} 1).adW+1:=hgo;show j+1+(ZKs.mk x.a1 {f with pos:=y.key,past:=true} 1).adW=2+x.far;omega),λ_=>e⟩) (λy hy h0=> ?_) λhy h0=> ?_⟩
  ·have hy:gJ x.a.L f.key=some y:=hy
   rw[hF.key]at hy;have hm:=og hy;obtain⟨ln,q1,k1,k2,k3,k4,q2,_⟩:=g.q y hm.1;have hsp:(0:Int)<spn (x.B x.key).cls:=by
    have h1:=q2.1.1;rw[hm.2]at h1;have:=dR (x.B x.key).cls;omega
   have:=anL.read (x:=x) (f:={f with had:=true,old:=y,piece:=0}) (m:=0) (y:=y) (ln:=ln) ⟨hF.key,hF.value,hF.code,hF.found,hF.ans,hF.ep,hF.aep⟩ rfl hy q1 rfl rfl hsp;rw[show j+1=3+x.far+0 by omega];exact .inr ⟨this,λ_=>e⟩
  ·have hy:gJ x.a.L f.key=none:=hy
   rw[hF.key]at hy;exact .inr ⟨.leave (by omega) hF.code hF.aep (.inl ⟨hF.found,hF.ans,hy⟩),λ_=>e⟩
 | @read f m y ln hF hh hw hl ho hp hlt=>
  have e:=hg (by show¬(2:Int)=0;decide);have hm:=og hw;obtain⟨ln',q1,k1,k2,k3,k4,q2,_⟩:=g.q y hm.1;have el:ln'=ln:=by have:=q1.symm.trans hl;omega
  subst el;have hsp:=dR (x.B x.key).cls;rw[hm.2]at k1 k2 k3 k4 q2;refine⟨by omega,by show¬(2:Int)=7;decide,wp2 (k:=1) rfl rfl g1.dok (ln:=ln') q2 hh ?_ hp hlt (λhne=> ?_) λheq=> ?_⟩
  ·show f.old=_
   rw[ho,k1,k2,k3,k4,<-q1,<-hm.2]
  ·have:=anL.read (x:=x) (f:={f with piece:=(m+1:Nat)}) (m:=m+1) (y:=y) (ln:=ln') ⟨hF.key,hF.value,hF.code,hF.found,hF.ans,hF.ep,hF.aep⟩ hh hw hl ho rfl (by omega)
   rw[show 3+x.far+m+1=3+x.far+(m+1) by omega];exact .inr ⟨this,λ_=>e⟩
  ·exact .inr ⟨.leave (by omega) hF.code hF.aep (.inr ⟨rfl,rfl,y,hw⟩),λ_=>e⟩
 | @leave j f hj hc he h=>
  have e:=hg (by show¬(6:Int)=0;decide);refine⟨by omega,by show¬(6:Int)=7;decide,wp6 g1 rfl ht λ_=> .inl ⟨rfl,rfl,?_⟩⟩;rcases h with ⟨h1,h2,h3⟩|⟨h1,h2,y,h3⟩
  ·exact .miss e hc he h1 h2 h3
  ·exact .hit e hc he h1 h2 h3
noncomputable def ajI:Ctr:={X:=ZWp,args:=λx=>[.ptr 0 0,i64 x.t,ahD 2 x.key x.v],k:=1,os:=λx=>[.abs (ownM x.a.os)],pre:=λx=>Hd x.ok,outs:=[
 {Y:=Unit,post:=λx _=>Hd (goodP 2 x.key x.v≠0),ret:=λx _=> .tup [acy (goodP 2 x.key x.v) false ⟨#[]⟩ 0,i64 1,boo true],m:=1,os:=λx _=>[.abs (ownM x.a.os)]},
 {Y:=Unit,post:=λx _=>Hd (goodP 2 x.key x.v=0/\ ∀i,i<x.a.p.n->x.a.p.cls i≠ -1/\x.a.p.full x.c i),ret:=λx _=> .tup [acy 4 false ⟨#[]⟩ 0,i64 (4+x.far:Nat),boo true],m:=1,os:=λx _=>[.abs (ownM x.a2.os)]},
 {Y:=ZSto,post:=λx y=>Hd (goodP 2 x.key x.v=0/\ ∃B',PPut x ((x.a.r.put x.t x.a.r.now).put x.t 0) y B'),ret:=λx _=> .tup [acy 0 x.had ⟨#[]⟩ x.a.c.now,i64 (5+x.far+x.sp:Nat),boo true],m:=1,os:=λ_ y=>[.abs (ownM y.os)]}]}
noncomputable def ajJ:Ctr:={X:=ZWp,args:=λx=>[.ptr 0 0,i64 x.t,ahD 1 x.key x.v],k:=1,os:=λx=>[.abs (ownM x.a.os)],pre:=λx=>Hd x.ok,outs:=[
 {Y:=Nat,post:=λx _=>Hd (goodP 1 x.key x.v≠0),ret:=λx n=> .tup [acy (goodP 1 x.key x.v) false ⟨#[]⟩ 0,i64 n,boo true],m:=1,os:=λx _=>[.abs (ownM x.a.os)]},
 {Y:=Nat,post:=λx _=>Hd (goodP 1 x.key x.v=0/\gJ x.a.L x.key=none),ret:=λx n=> .tup [acy 0 false ⟨#[]⟩ 0,i64 n,boo true],m:=1,os:=λx _=>[.abs (ownM x.a2.os)]},
 {Y:=Nat,post:=λx _=>Hd (goodP 1 x.key x.v=0/\ ∃y,gJ x.a.L x.key=some y),ret:=λx n=> .tup [acy 0 true (x.B x.key).value 0,i64 n,boo true],m:=1,os:=λx _=>[.abs (ownM x.a2.os)]}]}
theorem Sv{X:Type}{x:X}{v:AV}{h':Heap}{o p q:Out X}{r:List (Out X)}(h: ∃y,q.post x y/\v=q.ret x y/\h'=hO q.m (q.os x y)):kS x v h' (o::p::q::r):=by
 rw[dU,dU,dU];exact .inr (.inr (.inl h))
theorem Af:bZ Tryz.prog 35 ajI:=je λx hx=>by
 have hx:=aZ.1 hx;refine⟨_,anJ,rfl,⟨x.a,x.t,x.key,x.v,zBk,λj m s=>Sr x j m s/\(s.ph≠0->goodP 2 x.key x.v=0),ar7 x⟩,aZ.2 ⟨⟨.enter,λh=>absurd rfl h⟩,λj m s h=>anK hx h.1 h.2⟩,rfl,rfl,λv h' hh=> ?_⟩;obtain⟨⟨s,n,m⟩,h0,e1,e2⟩:=ku hh;have h0:ar7 x n s:=aZ.1 h0;cases h0 with
 |bad h hs=>
  subst hs;exact eP ⟨(),aZ.2 h,e1,e2⟩
 | @full f h hc hf ha he hfu=>
  refine AO ⟨(),aZ.2 ⟨h,hfu⟩,e1.trans ?_,e2⟩;show AV.tup [acy f.code f.found f.ans f.aep,_,_]=_;rw[hc,hf,ha,he]
  first|done|rfl
 | @done f a' B' h hc hf ha he g=>
  refine Sv ⟨a',aZ.2 ⟨h,B',g⟩,e1.trans ?_,e2⟩;show AV.tup [acy f.code f.found f.ans f.aep,_,_]=_;rw[hc,hf,ha,he]
  first|done|rfl
theorem adJ:bZ Tryz.prog 35 ajJ:=je λx hx=>by
 have hx:=aZ.1 hx;refine⟨_,anI,rfl,⟨x.a,x.t,x.key,x.v,x.B x.key,λj m s=>anL x j m s/\(s.ph≠0->goodP 1 x.key x.v=0),λ_=>ar8 x⟩,aZ.2 ⟨⟨.enter,λh=>absurd rfl h⟩,λj m s h=>anM hx h.1 h.2⟩,rfl,rfl,λv h' hh=> ?_⟩;obtain⟨⟨s,n,m⟩,h0,e1,e2⟩:=ku hh;have h0:ar8 x s:=aZ.1 h0;cases h0 with
 |bad h hs=>
  subst hs;exact eP ⟨n,aZ.2 h,e1,e2⟩
 | @miss f h hc he hf ha hw=>
  refine AO ⟨n,aZ.2 ⟨h,hw⟩,e1.trans ?_,e2⟩;show AV.tup [acy f.code f.found f.ans f.aep,_,_]=_;rw[hc,hf,ha,he]
  first|done|rfl
 | @hit f y h hc he hf ha hw=>
  refine Sv ⟨n,aZ.2 ⟨h,y,hw⟩,e1.trans ?_,e2⟩;show AV.tup [acy f.code f.found f.ans f.aep,_,_]=_;rw[hc,hf,ha,he]
  first|done|rfl
noncomputable def arL:WTr:=λargs h K=>match args with
 |[a,t,.agg l]=>(bif decide (intL l 0=2)then ctrT ajI else ctrT ajJ) [a,t,.agg l] h K
 |_=>False
theorem anN(args:List AV)(h:Heap)(K:AV->Heap->Prop)(hq:arL args h K):Sp Tryz.prog 35 args h K:=by
 unfold arL at hq;split at hq
 ·exact ZX (P:=Tryz.prog) (f:=35) _ (bM Af) (bM adJ) _ _ _ hq
 ·exact hq.elim
noncomputable def CG:Ctr:=det Unit (λ_=>[]) 0 (λ_=>[]) (λ_=>True) (λ_=>boo true) 0 (λ_=>[])
noncomputable def aoS:jd:=[(13,ctrT ada.ctr),(35,arL)]
theorem ajK:dX Tryz.prog aoS:= .cons (bM aiA) (.cons anN .nil)
def tq:Prop:= ∃y_3:Unit,True/\true=false/\True
def ajL:Prop:=ByteArray.mk #[]=ByteArray.mk #[]/\Value.slice none 0 0=Value.slice none 0 0/\True
def aaA(a:ZWp):Prop:=0=0/\(a.t:Int)=0/\((1:Int)=1/\a.key= @ByteArray.mk (@List.toArray UInt8 [(97:UInt8)])/\a.v=ByteArray.mk #[]/\ajL)/\True
def aaB(a:ZWp):Prop:=Hd (goodP (1:Int) a.key a.v=0/\ ∃y_3:ZLnk,gJ a.a.L a.key=some y_3)
def Nr(a:ZWp):Prop:=Hd (goodP (1:Int) a.key a.v=0/\gJ a.a.L a.key= @Option.none ZLnk)
def Ns(a:ZWp):Prop:=cP (BEq.beq ((4+a.far:Nat):Int) (6:Int)) tq tq
def Yd(a:ZWp):Prop:=cP (BEq.beq ((5+a.far+a.sp:Nat):Int) (6:Int)) (cP (BEq.beq a.a.c.now (1:Int)) tq tq) tq
def FC(x:Unit):Prop:=
 ∃x_1:ZNew,Hd (10<=x_1.n/\x_1.n<=258/\1<=x_1.t/\x_1.t<=4)/\((x_1.n:Int)=10/\(x_1.t:Int)=1/\True)/\True/\ ∀y:DevM,Hd (y.ok/\y.n=x_1.n/\y.st=2/\y.fl=2/\y.fe=1)-> ∃x_2:ZWp,Hd x_2.ok/\(0=0/\(x_2.t:Int)=0/\((2:Int)=2/\x_2.key= @ByteArray.mk (@List.toArray UInt8 [(97:UInt8)])/\x_2.v= @ByteArray.mk (@List.toArray UInt8 [(49:UInt8)])/\ajL)/\True)/\(ownM x_2.a.os=ownM (ZSto.os (newSto x_1.n x_1.t y))/\True)/\(∀y_1:Unit,Hd (goodP (2:Int) x_2.key x_2.v≠(0:Int))-> ∃x_3:ZWp,Hd x_3.ok/\aaA x_3/\(ownM x_3.a.os=ownM x_2.a.os/\True)/\(∀y_2:Nat,Hd (goodP (1:Int) x_3.key x_3.v≠(0:Int))->tq)/\(∀y_2:Nat,Nr x_3->tq)/\ ∀y_2:Nat,aaB x_3->tq)/\(∀y_1:Unit,Hd (goodP (2:Int) x_2.key x_2.v=0/\ ∀i:Nat,i<x_2.a.p.n->x_2.a.p.cls i≠(-(1:Int))/\x_2.a.p.full x_2.c i)-> ∃x_3:ZWp,Hd x_3.ok/\aaA x_3/\(ownM x_3.a.os=ownM x_2.a2.os/\True)/\(∀y_2:Nat,Hd (goodP (1:Int) x_3.key x_3.v≠(0:Int))->Ns x_2)/\(∀y_2:Nat,Nr x_3->Ns x_2)/\ ∀y_2:Nat,aaB x_3->Ns x_2)/\ ∀y_1:ZSto,Hd (goodP (2:Int) x_2.key x_2.v=0/\ ∃B': ∀a:ByteArray,ZBlk,PPut x_2 (ZRd.put (x_2.a.r.put x_2.t x_2.a.r.now) x_2.t (0:Int)) y_1 B')-> ∃x_3:ZWp,Hd x_3.ok/\aaA x_3/\(ownM x_3.a.os=ownM y_1.os/\True)/\(∀y_2:Nat,Hd (goodP (1:Int) x_3.key x_3.v≠(0:Int))->Yd x_2)/\(∀y_2:Nat,Nr x_3->Yd x_2)/\ ∀y_2:Nat,aaB x_3->cP (BEq.beq ((5+x_2.far+x_2.sp:Nat):Int) (6:Int)) (cP (BEq.beq x_2.a.c.now (1:Int)) (∃y_3:Unit,True/\true=BEq.beq (ByteArray.toList (ZBlk.value (x_3.B x_3.key))) (ByteArray.toList (@ByteArray.mk (@List.toArray UInt8 [(49:UInt8)])))/\
 True) tq) tq
theorem Sz(x:Unit):FC x=wpF Tryz.prog aoS tt (noA x) 200 6 32 (CG.args x) (hO 0 []) (λv h'=>eF 0 x v h' CG.outs):=by kernel_rfl
theorem SA{n:Nat}{c:Int}(hc:0<=c){i k:Nat}(h:(eX n n).takes c i k):i=0/\k=0:=by
 obtain⟨h1,h2,h3,h4⟩:=h;have h1:i<n:=h1;have cl: ∀j,j<n->(eX n n).cls j= -1:=λj hj=>if_pos hj
 rcases h4 with ⟨h4,_⟩|⟨h4,h5,_,h6⟩
 ·rw[cl i h1]at h4;omega
 ·refine⟨?_,h5⟩
  rcases Nat.eq_zero_or_pos i with h|h
  ·exact h
  ·exact absurd (cl 0 (by omega)) (h6 0 h)
theorem Ye{n:Nat}(hn:0<n){c:Int}: ¬ ∀i,i<(eX n n).n->(eX n n).cls i≠ -1/\(eX n n).full c i:=λh=>(h 0 hn).1 (if_pos hn)
theorem fA.new{n T:Nat}{d:DevM}(h:d.ok/\d.n=n/\d.st=2/\d.fl=2/\d.fe=1)(hn:10<=n/\n<=258)(hT:1<=T/\T<=4)(B:ByteArray->ZBlk):fA (newSto n T d) T 10 0 B:={
 dok:=h.1
 dst:=by show d.st<=_;omega
 dfl:=by show d.fl<=_;omega
 dfe:=by show d.fe<=_;omega
 rok:=⟨hT.1,hT.2,show(1:Int)<=1 by decide,show(1:Int)<4611686018427387904 by decide⟩
 rt:=rfl
 cok:=⟨hT.1,hT.2,⟨show(0:Int)<=0+1 by decide,show(0:Int)+1<4611686018427387904 by decide⟩,⟨Int.le_refl 0,show(0:Int)<4611686018427387904 by decide⟩,⟨Int.le_refl 0,show(0:Int)<4611686018427387904 by decide⟩,λ_=>⟨Int.le_refl 0,show(0:Int)<1099511627776 by decide⟩⟩
 ct:=rfl
 ph:=rfl
 Pz:=rfl
 pg:=by
  refine⟨⟨by show 1<=(n-2)/8;omega,by show(n-2)/8<=32;omega,λi hi=> ?_⟩,λi hi=> ?_⟩
  ·have hi:i<(n-2)/8:=hi
   show-1<=(if i<(n-2)/8 then(-1:Int)else 0)/\(if i<(n-2)/8 then(-1:Int)else 0)<=3/\(0:Int)<=0/\(0:Int)<=8;rw[if_pos hi];decide
  ·exact⟨λ_ _=>rfl,λk hk=>(nomatch hk),(congrArg Int.ofNat (QL (λ_=>rfl) 8)).symm⟩
 fit:=by show 2+(n-2)/8*8<=d.n;omega
 bok:=⟨Nat.zero_le _,λ_=>rfl⟩
 lok:=⟨show 0<1099511627776 by decide,aY 0,aY 0,λ_=>rfl,λh=>absurd rfl h⟩
 ln:=rfl
 srt:=List.Pairwise.nil
 len:=aY 0
 id0:=Int.le_refl 0
 id1:=show(0:Int)<=10 by decide
 v0:=Int.le_refl 0
 v1:=show(0:Int)<=10 by decide
 nn:=show 0<=10 by decide
 now0:=show(1:Int)<=0+1 by decide
 at6:=show(0:Int)+1<=10 by decide
 owed:=λ_=>show(0:Int)<=10 by decide
 used:=λK _ hu=>by
  rcases hu with ⟨y,hy,_⟩|⟨i,hi,_⟩
  ·cases hy
  ·exact absurd hi (Nat.not_lt_zero i)
 q:=λy hy=>by cases hy}
theorem Gz(u:Unit):FC u:=by
 unfold FC;simp only[ajL,aaA,tq,Nr,aaB,Ns,Yd];simp only[aZ,aV,aU,aA,aI,bQ,bF,aO,aK,ay,aX,aW,bU,bG,bH,bI,bV,bC,bJ,bn,eG,aH,aN,ah,ak,aB,aF,aC,aG];refine⟨⟨10,1⟩,by decide,⟨rfl,rfl⟩,λd hd=> ?_⟩;have g0:=fA.new (n:=10) (T:=1) hd (by decide) (by decide) (λ_=>zBk);refine⟨⟨newSto 10 1 d,1,10,0,λ_=>zBk,0,⟨#[97]⟩,⟨#[49]⟩⟩,⟨g0,by show 0<1;decide,rfl,by show 10<=900000;decide,by show 0<=100;decide⟩,⟨rfl,rfl,rfl⟩,rfl,λh=>absurd (show goodP 2 ⟨#[97]⟩ ⟨#[49]⟩=0 by decide) h,λh=>absurd h.2 (Ye (n:=1) (by decide)),λa' h=> ?_⟩;obtain⟨_,B',g⟩:=h;obtain⟨l,hl,hk⟩:=g.L;obtain⟨b,hb,hv,_⟩:=g.bk;refine⟨⟨a',1,410,1,B',0,⟨#[97]⟩,⟨#[]⟩⟩,⟨g.base,by show 0<1;decide,by show a'.r.has 0=0;rw[g.r];rfl,by show 410<=900000;decide,by show 1<=100;decide⟩,⟨rfl,rfl,rfl⟩,rfl,λ_ h=>absurd (show goodP 1 ⟨#[97]⟩ ⟨#[]⟩=0 by decide) h,λ_ h=> ?_,λ_ h=> ?_⟩
 ·exfalso
  have h:gJ a'.L ⟨#[97]⟩=none:=h.2;rw[hl]at h;have:=amh (l:=l) (s:=⟨#[97]⟩) (show srt (newSto 10 1 d).L from g0.srt);rw[if_pos (show(⟨#[97]⟩:ByteArray)=l.key from hk.symm)]at this;have h':=this.symm.trans h;cases h'
 ·have e0:B' ⟨#[97]⟩=b:=by rw[hb];exact if_pos rfl
  refine bf (λ_=>bf (λ_=> ?_) λh=> ?_) λh=> ?_
  ·show true=((B' ⟨#[97]⟩).value.toList==(⟨#[49]⟩:ByteArray).toList)
   rw[e0,hv];exact(beq_self_eq_true _).symm
  ·exact Bool.noConfusion (show true=false from h)
  ·exact Bool.noConfusion (show true=false from h)
theorem adK:bZ Tryz.prog 32 CG:=dM dD mixed ajK noA 200 6 (λ_=>rfl) (λ_=>rfl) λx _=>Eq.mp (Sz x) (Gz x)
namespace ZPool
def iD(p:ZPool)(i:Nat):Nat->Nat
 |0=>0
 |j+1=>iD p i j+if p.tk i j=true then 1 else 0
def Ag(p:ZPool)(i:Nat):Nat:=if spn (p.cls i)=0 then 0 else(8/spn (p.cls i)).toNat
def cntI(p:ZPool):Nat->Nat
 |0=>0
 |i+1=>cntI p i+iD p i (p.Ag i)
theorem Yf(p:ZPool)(i:Nat): ∀j,p.iD i j<=j
 |0=>aY 0
 |j+1=>by have:=Yf p i j;unfold iD;split<;>omega
theorem anO(p:ZPool)(i:Nat):p.Ag i<=8:=by
 unfold Ag;have:=dR (p.cls i);rcases this with h|h|h|h|h<;>obtain⟨_,h⟩:=h<;>(try obtain⟨h,_⟩:=h)<;>split<;>simp_all
theorem ajM(p:ZPool): ∀i,p.cntI i<=8*i
 |0=>aY 0
 |i+1=>by have:=ajM p i;have:=Yf p i (p.Ag i);have:=anO p i;unfold cntI;omega
end ZPool
structure iJ where
 i:Nat
 c:Nat
 z:Bool
 f:Nat->List Value
def iJ.row(s:iJ):dB:= .gY s.z 180 (.row 2 s.c s.f [])
noncomputable def aoT(p:ZPool):FuncId->pX:=λf=>bif Nat.beq f 40 then(λb fr h=>bif Nat.beq b 0 then [
 {σ:=iJ,fr:=λs=>[(11,i64 s.i),(3,.slV s.z h.next 2 s.c)],ob:=λs=>[(h.next,some s.row)],nx:=1,inv:=λs=>Hd (s.i<=p.n/\s.c=p.cntI s.i/\(s.z=true->s.c=0)),meas:=λs=>p.n-s.i}]else bif Nat.beq b 1010 then [
 {σ:=iJ,fr:=λs=>[(3,.slV s.z h.next 2 s.c)],ob:=λs=>[(uF (SE.look fr 3),none),(h.next,some s.row)],nx:=1,inv:=λs=>Hd (s.c=p.cntI (uF (SE.look fr 11))+p.iD (uF (SE.look fr 11)) (uF (SE.look fr 21)+1)/\(s.z=true->s.c=0)),meas:=λ_=>0}]else [])elseλ_ _ _=>[]
def ajN:Ctr:={X:=iH,args:=λx=>[i64 x.k,i64 x.c],k:=0,os:=λ_=>[],pre:=λx=>Hd (x.k<32/\ -1<=x.c/\x.c<=3),outs:=[
 {Y:=Unit,post:=λx _=>Hd (x.c= -1),ret:=λ_ _=>gV,m:=0,os:=λ_ _=>[]},
 {Y:=Unit,post:=λx _=>Hd (x.c=0),ret:=λ_ _=> .slW 0 0 1 8,m:=1,os:=λx _=>[.room 3 (y5 x 8)]},
 {Y:=Unit,post:=λx _=>Hd (x.c=1),ret:=λ_ _=> .slW 0 0 1 4,m:=1,os:=λx _=>[.room 3 (y5 x 4)]},
 {Y:=Unit,post:=λx _=>Hd (x.c=2),ret:=λ_ _=> .slW 0 0 1 2,m:=1,os:=λx _=>[.room 3 (y5 x 2)]},
 {Y:=Unit,post:=λx _=>Hd (x.c=3),ret:=λ_ _=> .slW 0 0 1 1,m:=1,os:=λx _=>[.room 3 (y5 x 1)]}]}
theorem ajO{X:Type}{x:X}{v:AV}{h':Heap}{o:Out X}{r:List (Out X)}(h:kS x v h' r):kS x v h' (o::r):=by
 rw[dU];exact .inr h
theorem adL:bZ Tryz.prog 73 ajN:=je λx hx=>by
 obtain⟨k,c⟩:=x;obtain⟨h1,h2,h3⟩:=aZ.1 hx;refine⟨_,PG,rfl,⟨k,c⟩,aZ.2 h1,rfl,rfl,λv h' hh=> ?_⟩;have hc:c= -1\/c=0\/c=1\/c=2\/c=3:=by have h2: -1<=c:=h2;have h3:c<=3:=h3;omega
 have z: ∀q:Int,(spn q=0)-> ¬(spn q≠0):=λ_ h h'=>h' h
 rcases hc with rfl|rfl|rfl|rfl|rfl<;>rcases pz hh with ⟨y,h0,h1,h2⟩|⟨y,h0,h1,h2⟩
 ·exact eP ⟨(),aZ.2 rfl,h1,h2⟩
 ·exact absurd (show spn (-1)=0 from rfl) (aZ.1 h0)
 ·exact absurd (aZ.1 h0) (show¬spn 0=0 by decide)
 ·exact AO ⟨(),aZ.2 rfl,h1,h2⟩
 ·exact absurd (aZ.1 h0) (show¬spn 1=0 by decide)
 ·exact Sv ⟨(),aZ.2 rfl,h1,h2⟩
 ·exact absurd (aZ.1 h0) (show¬spn 2=0 by decide)
 ·exact ajO (Sv ⟨(),aZ.2 rfl,h1,h2⟩)
 ·exact absurd (aZ.1 h0) (show¬spn 3=0 by decide)
 ·exact ajO (ajO (Sv ⟨(),aZ.2 rfl,h1,h2⟩))
noncomputable def SB:jw:={X:=ZPool,args:=λ_=>[.ptr 0 0],k:=1,l:=λp=>[.m p.osW],pre:=λp=>Hd p.ok,outs:=[
 {Y:=Bool×(Nat->List Value),post:=λp y=>Hd (y.1=true->p.cntI p.n=0),ret:=λp y=> .slV y.1 1 2 (p.cntI p.n),m:=2,l:=λp y=>[.m p.osW,.o (.gY y.1 180 (.row 2 (p.cntI p.n) y.2 []))]}]}
noncomputable def GH(r:Nat):jw:={X:=ZSto,args:=λ_=>[.ptr 0 0],k:=1,l:=λa=>[.m a.os],pre:=λ_=>Hd True,outs:=[{Y:=Unit,post:=λ_ _=>True,ret:=λ_ _=> .ptr r 0,m:=11,l:=λa _=>a.os.map PO.o}]}
def ajP(a:ZPool):Prop:= ∀q:Nat,q<a.n->[Value.int .i64 (a.cls q),Value.bool (a.tk q 0),Value.bool (a.tk q 1),Value.bool (a.tk q 2),Value.bool (a.tk q 3),Value.bool (a.tk q 4),Value.bool (a.tk q 5),Value.bool (a.tk q 6),Value.bool (a.tk q 7),Value.int .i64 (a.cnt q)]=[Value.int .i64 (a.cls q),Value.bool (a.tk q 0),Value.bool (a.tk q 1),Value.bool (a.tk q 2),Value.bool (a.tk q 3),Value.bool (a.tk q 4),Value.bool (a.tk q 5),Value.bool (a.tk q 6),Value.bool (a.tk q 7),Value.int .i64 (a.cnt q)]
def SC(a:ZPool):Prop:=(a.n=a.n/\ajP a)/\((0=0/\a.n=a.n/\a.n=a.n)/\True)/\True
def IL(a:ZPool)(b:Nat):Prop:=(a.cls (0+b)=a.cls (0+b)/\a.tk (0+b) 0=a.tk (0+b) 0/\a.tk (0+b) 1=a.tk (0+b) 1/\a.tk (0+b) 2=a.tk (0+b) 2/\a.tk (0+b) 3=a.tk (0+b) 3/\a.tk (0+b) 4=a.tk (0+b) 4/\a.tk (0+b) 5=a.tk (0+b) 5/\a.tk (0+b) 6=a.tk (0+b) 6/\a.tk (0+b) 7=a.tk (0+b) 7/\a.cnt (0+b)=a.cnt (0+b)/\True)/\SC a
def Ah(a:iH)(b:Nat):Prop:=[Value.int .i64 (2+(a.k:Int)*8+(b:Int)*spn a.c)]=[Value.int .i64 (2+(a.k:Int)*8+(b:Int)*spn a.c)]
def kU(a:iH)(b:ZPool)(c:Nat):Prop:=(8=8/\ ∀q:Nat,q<8->Ah a q)/\IL b c
def aaC(a:ZSto):Prop:= ∃y:Unit,True/\0=0/\(0=0/\0=0/\0=0/\0=0/\0=0/\0=0/\0=0/\0=0/\a.id=a.id/\a.ver=a.ver/\(Nat.beq a.n 0=Nat.beq a.n 0/\a.n=a.n)/\True)/\(0=0/\(1:Int)=1/\(0:Int)=0/\(0:Int)=0/\True)/\ownM a.d.os=ownM a.d.os/\ownM a.p.os=ownM a.p.os/\ownM a.r.os=ownM a.r.os/\ownM a.ck.os=ownM a.ck.os/\ownM a.b.os=ownM a.b.os/\tabA a.L=tabA a.L/\ordA a.L=ordA a.L/\ownM a.l.os=ownM a.l.os/\(Nat.beq a.n 0=Nat.beq a.n 0/\a.n=a.n/\ ∀q:Nat,q<a.n->[Value.int .i64 (ZEff.kind (a.e q)),Value.string (ZEff.key (a.e q)),Value.string (ZEff.value (a.e q)),Value.int .u64 (ZEff.id (a.e q)),Value.int .u64 (ZEff.ver (a.e q)),Value.int .u64 (ZEff.epoch (a.e q)),Value.int .i64 (ZEff.group (a.e q))]=[Value.int .i64 (ZEff.kind (a.e q)),Value.string (ZEff.key (a.e q)),Value.string (ZEff.value (a.e q)),Value.int .u64 (ZEff.id (a.e q)),Value.int .u64 (ZEff.ver (a.e q)),Value.int .u64 (ZEff.epoch (a.e q)),Value.int .i64 (ZEff.group (a.e q))])/\True
def kP(a:iJ)(b:ZPool)(c:Nat):Prop:=Hd (a.c=b.cntI (uF (AV.lit (Value.int .i64 (c:Int))))+b.iD (uF (AV.lit (Value.int .i64 (c:Int)))) (uF (AV.lit (Value.int .i64 0))+1)/\(a.z=true->a.c=0))
def iK(a:iJ)(b:iJ):Prop:=a.z=b.z/\a.c=b.c/\ ∀q:Nat,q<a.c->Cs.eff a.f [] q=Cs.eff b.f [] q
def oO(a:iJ)(b:ZPool)(c:Nat):Prop:=Hd (a.c=b.cntI (uF (AV.lit (Value.int .i64 (c:Int))))+b.iD (uF (AV.lit (Value.int .i64 (c:Int)))) (uF (AV.lit (Value.int .i64 1))+1)/\(a.z=true->a.c=0))
def qw(a:iH)(b:ZPool)(c:Nat):Prop:=(4=4/\ ∀q:Nat,q<4->Ah a q)/\IL b c
def FD(a:iJ)(b:iJ)(c:iH)(d:ZPool):Prop:=a.z=false/\a.c=b.c+List.length [List.take 2 [Value.int .i64 (2+(c.k:Int)*8+0*spn c.c),Value.int .i64 (d.cls (0+b.i))]]/\ ∀q:Nat,q<a.c->Cs.eff a.f [] q=Cs.eff b.f [(b.c,List.take 2 [Value.int .i64 (2+(c.k:Int)*8+0*spn c.c),Value.int .i64 (d.cls (0+b.i))])] q
def vU(a:iJ)(b:ZPool)(c:Nat):Prop:=Hd (a.c=b.cntI (uF (AV.lit (Value.int .i64 (c:Int))))+b.iD (uF (AV.lit (Value.int .i64 (c:Int)))) (uF (AV.lit (Value.int .i64 2))+1)/\(a.z=true->a.c=0))
def vV(a:iJ)(b:ZPool)(c:Nat):Prop:=Hd (a.c=b.cntI (uF (AV.lit (Value.int .i64 (c:Int))))+b.iD (uF (AV.lit (Value.int .i64 (c:Int)))) (uF (AV.lit (Value.int .i64 3))+1)/\(a.z=true->a.c=0))
def FH(a:iJ)(b:ZPool):Prop:=Hd (a.i<=b.n/\a.c=b.cntI a.i/\(a.z=true->a.c=0))
def iL(a:iJ)(b:iJ):Prop:=(a.z=b.z/\a.c=b.c)/\True
def FI(a:iJ)(b:ZPool)(c:Nat)(d:iJ):Prop:=FH a b/\b.n-a.i<b.n-c/\((a.i:Int)=(c:Int)+1/\iL a d)/\iK a d/\SC b
def FK(a:iH)(b:ZPool)(c:Nat):Prop:=List.all [List.take 2 [Value.int .i64 (2+(a.k:Int)*8+0*spn a.c),Value.int .i64 (b.cls (0+c))]] (λ(l:List Value)=>Nat.beq (List.length l) 2&&List.all l Value.oneCell')=true
def jm(a:Nat):Prop:=(2*(a+1)+1000)*16<=281474976710656
def jo(a:iJ)(b:Nat):Prop:=(a.z=false/\a.c=b+1)/\True
def Nu(a:iH)(b:ZPool)(c:Nat):Prop:=List.all [List.take 2 [Value.int .i64 (2+(a.k:Int)*8+1*spn a.c),Value.int .i64 (b.cls (0+c))]] (λ(l:List Value)=>Nat.beq (List.length l) 2&&List.all l Value.oneCell')=true
def Nv(a:iJ)(b:ZPool)(c:Nat):Prop:=Hd (a.c=b.cntI (uF (AV.lit (Value.int .i64 (c:Int))))+b.iD (uF (AV.lit (Value.int .i64 (c:Int)))) (uF (AV.lit (Value.int .i64 4))+1)/\(a.z=true->a.c=0))
def Nw(a:iJ)(b:ZPool)(c:Nat):Prop:=Hd (a.c=b.cntI (uF (AV.lit (Value.int .i64 (c:Int))))+b.iD (uF (AV.lit (Value.int .i64 (c:Int)))) (uF (AV.lit (Value.int .i64 5))+1)/\(a.z=true->a.c=0))
def Ny(a:iJ)(b:ZPool)(c:Nat):Prop:=Hd (a.c=b.cntI (uF (AV.lit (Value.int .i64 (c:Int))))+b.iD (uF (AV.lit (Value.int .i64 (c:Int)))) (uF (AV.lit (Value.int .i64 6))+1)/\(a.z=true->a.c=0))
def Nz(a:iJ)(b:ZPool)(c:Nat):Prop:=Hd (a.c=b.cntI (uF (AV.lit (Value.int .i64 (c:Int))))+b.iD (uF (AV.lit (Value.int .i64 (c:Int)))) (uF (AV.lit (Value.int .i64 7))+1)/\(a.z=true->a.c=0))
def Yg(a:iH)(b:ZPool)(c:Nat):Prop:=List.all [List.take 2 [Value.int .i64 (2+(a.k:Int)*8+2*spn a.c),Value.int .i64 (b.cls (0+c))]] (λ(l:List Value)=>Nat.beq (List.length l) 2&&List.all l Value.oneCell')=true
def Yh(a:iH)(b:ZPool)(c:Nat):Prop:=List.all [List.take 2 [Value.int .i64 (2+(a.k:Int)*8+3*spn a.c),Value.int .i64 (b.cls (0+c))]] (λ(l:List Value)=>Nat.beq (List.length l) 2&&List.all l Value.oneCell')=true
def Ai:Prop:=(0:Int)<=0/\(0:Int)<=7
def FM(a:iH)(b:ZPool)(c:Nat):Prop:=(2=2/\ ∀q:Nat,q<2->Ah a q)/\IL b c
def FN:Prop:=(0:Int)<=1/\(0:Int)<=6
def NC(p:ZPool):Prop:=
 (∃s:iJ,FH s p/\True/\((s.i:Int)=0/\(s.z=true/\s.c=0)/\True)/\(s.z=true/\s.c=0/\ ∀q:Nat,q<s.c->Cs.eff s.f [] q= @List.nil Value)/\SC p)/\(∀s:iJ,FH s p->cP (decide ((s.i:Int)<(p.n:Int))) ((0<=(s.i:Int)/\(s.i:Int)<(p.n:Int))/\0+s.i<p.n/\ ∃x:iH,Hd (x.k<32/\(-(1:Int))<=x.c/\x.c<=3)/\((x.k:Int)=(s.i:Int)/\x.c=p.cls (0+s.i)/\True)/\True/\(∀y:Unit,Hd (x.c=(-(1:Int)))->I64 ((s.i:Int)+1)/\ ∃s_1:iJ,FH s_1 p/\p.n-s_1.i<p.n-s.i/\((s_1.i:Int)=(s.i:Int)+1/\iL s_1 s)/\iK s_1 s/\SC p)/\(∀y:Unit,Hd (x.c=0)->(Ai/\0<8/\Ai/\cP (p.tk (0+s.i) 0) (s.z=s.z/\s.c=s.c/\FK x p s.i/\jm s.c/\ ∃s_1:iJ,kP s_1 p s.i/\True/\jo s_1 s.c/\FD s_1 s x p/\kU x p s.i) (∃s_1:iJ,kP s_1 p s.i/\True/\iL s_1 s/\iK s_1 s/\kU x p s.i))/\(∀s_1:iJ,kP s_1 p s.i->I64 (1:Int)/\(FN/\1<8/\FN/\cP (p.tk (0+s.i) 1) (s_1.z=s_1.z/\s_1.c=s_1.c/\Nu x p s.i/\jm s_1.c/\ ∃s_2:iJ,oO s_2 p s.i/\True/\jo s_2 s_1.c/\(s_2.z=false/\s_2.c=s_1.c+List.length [List.take 2 [Value.int .i64 (2+(x.k:Int)*8+1*spn x.c),Value.int .i64 (p.cls (0+s.i))]]/\ ∀q:Nat,q<s_2.c->Cs.eff s_2.f [] q=Cs.eff s_1.f [(s_1.c,List.take 2 [Value.int .i64 (2+(x.k:Int)*8+1*spn x.c),Value.int .i64 (p.cls (0+s.i))])] q)/\kU x p s.i) (∃s_2:iJ,oO s_2 p s.i/\True/\iL s_2 s_1/\iK s_2 s_1/\kU x p s.i))/\(∀s_2:iJ,oO s_2 p s.i->I64 (2:Int)/\(((0:Int)<=2/\(0:Int)<=5)/\2<8/\((0:Int)<=2/\(0:Int)<=5)/\cP (p.tk (0+s.i) 2) (s_2.z=s_2.z/\
 s_2.c=s_2.c/\Yg x p s.i/\jm s_2.c/\ ∃s_3:iJ,vU s_3 p s.i/\True/\jo s_3 s_2.c/\(s_3.z=false/\s_3.c=s_2.c+List.length [List.take 2 [Value.int .i64 (2+(x.k:Int)*8+2*spn x.c),Value.int .i64 (p.cls (0+s.i))]]/\ ∀q:Nat,q<s_3.c->Cs.eff s_3.f [] q=Cs.eff s_2.f [(s_2.c,List.take 2 [Value.int .i64 (2+(x.k:Int)*8+2*spn x.c),Value.int .i64 (p.cls (0+s.i))])] q)/\kU x p s.i) (∃s_3:iJ,vU s_3 p s.i/\True/\iL s_3 s_2/\iK s_3 s_2/\kU x p s.i))/\(∀s_3:iJ,vU s_3 p s.i->I64 (3:Int)/\(((0:Int)<=3/\(0:Int)<=4)/\3<8/\((0:Int)<=3/\(0:Int)<=4)/\cP (p.tk (0+s.i) 3) (s_3.z=s_3.z/\s_3.c=s_3.c/\Yh x p s.i/\jm s_3.c/\ ∃s_4:iJ,vV s_4 p s.i/\True/\jo s_4 s_3.c/\(s_4.z=false/\s_4.c=s_3.c+List.length [List.take 2 [Value.int .i64 (2+(x.k:Int)*8+3*spn x.c),Value.int .i64 (p.cls (0+s.i))]]/\ ∀q:Nat,q<s_4.c->Cs.eff s_4.f [] q=Cs.eff s_3.f [(s_3.c,List.take 2 [Value.int .i64 (2+(x.k:Int)*8+3*spn x.c),Value.int .i64 (p.cls (0+s.i))])] q)/\kU x p s.i) (∃s_4:iJ,vV s_4 p s.i/\True/\iL s_4 s_3/\iK s_4 s_3/\kU x p s.i))/\(∀s_4:iJ,vV s_4 p s.i->I64 (4:Int)/\(((0:Int)<=4/\(0:Int)<=3)/\4<8/\((0:Int)<=4/\(0:Int)<=3)/\cP (p.tk (0+s.i) 4) (s_4.z=s_4.z/\s_4.c=s_4.c/\List.all [List.take 2 [Value.int .i64 (2+(x.k:Int)*8+4*spn x.c),Value.int .i64 (p.cls (0+s.i))]] (λ(l:List Value)=>Nat.beq (List.length l) 2&&List.all l Value.oneCell')=true/\jm s_4.c/\ ∃s_5:iJ,Nv s_5 p s.i/\True/\jo s_5 s_4.c/\(s_5.z=false/\
 s_5.c=s_4.c+List.length [List.take 2 [Value.int .i64 (2+(x.k:Int)*8+4*spn x.c),Value.int .i64 (p.cls (0+s.i))]]/\ ∀q:Nat,q<s_5.c->Cs.eff s_5.f [] q=Cs.eff s_4.f [(s_4.c,List.take 2 [Value.int .i64 (2+(x.k:Int)*8+4*spn x.c),Value.int .i64 (p.cls (0+s.i))])] q)/\kU x p s.i) (∃s_5:iJ,Nv s_5 p s.i/\True/\iL s_5 s_4/\iK s_5 s_4/\kU x p s.i))/\(∀s_5:iJ,Nv s_5 p s.i->I64 (5:Int)/\(((0:Int)<=5/\(0:Int)<=2)/\5<8/\((0:Int)<=5/\(0:Int)<=2)/\cP (p.tk (0+s.i) 5) (s_5.z=s_5.z/\s_5.c=s_5.c/\List.all [List.take 2 [Value.int .i64 (2+(x.k:Int)*8+5*spn x.c),Value.int .i64 (p.cls (0+s.i))]] (λ(l:List Value)=>Nat.beq (List.length l) 2&&List.all l Value.oneCell')=true/\jm s_5.c/\ ∃s_6:iJ,Nw s_6 p s.i/\True/\jo s_6 s_5.c/\(s_6.z=false/\s_6.c=s_5.c+List.length [List.take 2 [Value.int .i64 (2+(x.k:Int)*8+5*spn x.c),Value.int .i64 (p.cls (0+s.i))]]/\ ∀q:Nat,q<s_6.c->Cs.eff s_6.f [] q=Cs.eff s_5.f [(s_5.c,List.take 2 [Value.int .i64 (2+(x.k:Int)*8+5*spn x.c),Value.int .i64 (p.cls (0+s.i))])] q)/\kU x p s.i) (∃s_6:iJ,Nw s_6 p s.i/\True/\iL s_6 s_5/\iK s_6 s_5/\kU x p s.i))/\(∀s_6:iJ,Nw s_6 p s.i->I64 (6:Int)/\(((0:Int)<=6/\(0:Int)<=1)/\6<8/\((0:Int)<=6/\(0:Int)<=1)/\cP (p.tk (0+s.i) 6) (s_6.z=s_6.z/\s_6.c=s_6.c/\List.all [List.take 2 [Value.int .i64 (2+(x.k:Int)*8+6*spn x.c),Value.int .i64 (p.cls (0+s.i))]] (λ(l:List Value)=>Nat.beq (List.length l) 2&&List.all l Value.oneCell')=true/\jm s_6.c/\ ∃s_7:iJ,Ny s_7 p s.i/\True/\jo s_7 s_6.c/\(s_7.z=false/\
 s_7.c=s_6.c+List.length [List.take 2 [Value.int .i64 (2+(x.k:Int)*8+6*spn x.c),Value.int .i64 (p.cls (0+s.i))]]/\ ∀q:Nat,q<s_7.c->Cs.eff s_7.f [] q=Cs.eff s_6.f [(s_6.c,List.take 2 [Value.int .i64 (2+(x.k:Int)*8+6*spn x.c),Value.int .i64 (p.cls (0+s.i))])] q)/\kU x p s.i) (∃s_7:iJ,Ny s_7 p s.i/\True/\iL s_7 s_6/\iK s_7 s_6/\kU x p s.i))/\(∀s_7:iJ,Ny s_7 p s.i->I64 (7:Int)/\(((0:Int)<=7/\(0:Int)<=0)/\7<8/\((0:Int)<=7/\(0:Int)<=0)/\cP (p.tk (0+s.i) 7) (s_7.z=s_7.z/\s_7.c=s_7.c/\List.all [List.take 2 [Value.int .i64 (2+(x.k:Int)*8+7*spn x.c),Value.int .i64 (p.cls (0+s.i))]] (λ(l:List Value)=>Nat.beq (List.length l) 2&&List.all l Value.oneCell')=true/\jm s_7.c/\ ∃s_8:iJ,Nz s_8 p s.i/\True/\jo s_8 s_7.c/\(s_8.z=false/\s_8.c=s_7.c+List.length [List.take 2 [Value.int .i64 (2+(x.k:Int)*8+7*spn x.c),Value.int .i64 (p.cls (0+s.i))]]/\ ∀q:Nat,q<s_8.c->Cs.eff s_8.f [] q=Cs.eff s_7.f [(s_7.c,List.take 2 [Value.int .i64 (2+(x.k:Int)*8+7*spn x.c),Value.int .i64 (p.cls (0+s.i))])] q)/\kU x p s.i) (∃s_8:iJ,Nz s_8 p s.i/\True/\iL s_8 s_7/\iK s_8 s_7/\kU x p s.i))/\(∀s_8:iJ,Nz s_8 p s.i->I64 (8:Int)/\I64 ((s.i:Int)+1)/\ ∃s_9:iJ,FI s_9 p s.i s_8)/\True)/\True)/\True)/\True)/\True)/\True)/\True)/\True)/\(∀y:Unit,Hd (x.c=1)->(((0:Int)<=0/\(0:Int)<=3)/\0<4/\Ai/\cP (p.tk (0+s.i) 0) (s.z=s.z/\s.c=s.c/\FK x p s.i/\jm s.c/\ ∃s_1:iJ,kP s_1 p s.i/\True/\jo s_1 s.c/\FD s_1 s x p/\qw x p s.i) (∃s_1:iJ,kP s_1 p s.i/\True/\iL s_1 s/\
 iK s_1 s/\qw x p s.i))/\(∀s_1:iJ,kP s_1 p s.i->I64 (1:Int)/\(((0:Int)<=1/\(0:Int)<=2)/\1<4/\FN/\cP (p.tk (0+s.i) 1) (s_1.z=s_1.z/\s_1.c=s_1.c/\Nu x p s.i/\jm s_1.c/\ ∃s_2:iJ,oO s_2 p s.i/\True/\jo s_2 s_1.c/\(s_2.z=false/\s_2.c=s_1.c+List.length [List.take 2 [Value.int .i64 (2+(x.k:Int)*8+1*spn x.c),Value.int .i64 (p.cls (0+s.i))]]/\ ∀q:Nat,q<s_2.c->Cs.eff s_2.f [] q=Cs.eff s_1.f [(s_1.c,List.take 2 [Value.int .i64 (2+(x.k:Int)*8+1*spn x.c),Value.int .i64 (p.cls (0+s.i))])] q)/\qw x p s.i) (∃s_2:iJ,oO s_2 p s.i/\True/\iL s_2 s_1/\iK s_2 s_1/\qw x p s.i))/\(∀s_2:iJ,oO s_2 p s.i->I64 (2:Int)/\(((0:Int)<=2/\(0:Int)<=1)/\2<4/\((0:Int)<=2/\(0:Int)<=5)/\cP (p.tk (0+s.i) 2) (s_2.z=s_2.z/\s_2.c=s_2.c/\Yg x p s.i/\jm s_2.c/\ ∃s_3:iJ,vU s_3 p s.i/\True/\jo s_3 s_2.c/\(s_3.z=false/\s_3.c=s_2.c+List.length [List.take 2 [Value.int .i64 (2+(x.k:Int)*8+2*spn x.c),Value.int .i64 (p.cls (0+s.i))]]/\ ∀q:Nat,q<s_3.c->Cs.eff s_3.f [] q=Cs.eff s_2.f [(s_2.c,List.take 2 [Value.int .i64 (2+(x.k:Int)*8+2*spn x.c),Value.int .i64 (p.cls (0+s.i))])] q)/\qw x p s.i) (∃s_3:iJ,vU s_3 p s.i/\True/\iL s_3 s_2/\iK s_3 s_2/\qw x p s.i))/\(∀s_3:iJ,vU s_3 p s.i->I64 (3:Int)/\(((0:Int)<=3/\(0:Int)<=0)/\3<4/\((0:Int)<=3/\(0:Int)<=4)/\cP (p.tk (0+s.i) 3) (s_3.z=s_3.z/\s_3.c=s_3.c/\Yh x p s.i/\jm s_3.c/\ ∃s_4:iJ,vV s_4 p s.i/\True/\jo s_4 s_3.c/\(s_4.z=false/\
 s_4.c=s_3.c+List.length [List.take 2 [Value.int .i64 (2+(x.k:Int)*8+3*spn x.c),Value.int .i64 (p.cls (0+s.i))]]/\ ∀q:Nat,q<s_4.c->Cs.eff s_4.f [] q=Cs.eff s_3.f [(s_3.c,List.take 2 [Value.int .i64 (2+(x.k:Int)*8+3*spn x.c),Value.int .i64 (p.cls (0+s.i))])] q)/\qw x p s.i) (∃s_4:iJ,vV s_4 p s.i/\True/\iL s_4 s_3/\iK s_4 s_3/\qw x p s.i))/\(∀s_4:iJ,vV s_4 p s.i->I64 (4:Int)/\I64 ((s.i:Int)+1)/\ ∃s_5:iJ,FI s_5 p s.i s_4)/\True)/\True)/\True)/\True)/\(∀y:Unit,Hd (x.c=2)->(((0:Int)<=0/\(0:Int)<=1)/\0<2/\Ai/\cP (p.tk (0+s.i) 0) (s.z=s.z/\s.c=s.c/\FK x p s.i/\jm s.c/\ ∃s_1:iJ,kP s_1 p s.i/\True/\jo s_1 s.c/\FD s_1 s x p/\FM x p s.i) (∃s_1:iJ,kP s_1 p s.i/\True/\iL s_1 s/\iK s_1 s/\FM x p s.i))/\(∀s_1:iJ,kP s_1 p s.i->I64 (1:Int)/\(((0:Int)<=1/\(0:Int)<=0)/\1<2/\FN/\cP (p.tk (0+s.i) 1) (s_1.z=s_1.z/\s_1.c=s_1.c/\Nu x p s.i/\jm s_1.c/\ ∃s_2:iJ,oO s_2 p s.i/\True/\jo s_2 s_1.c/\(s_2.z=false/\s_2.c=s_1.c+List.length [List.take 2 [Value.int .i64 (2+(x.k:Int)*8+1*spn x.c),Value.int .i64 (p.cls (0+s.i))]]/\ ∀q:Nat,q<s_2.c->Cs.eff s_2.f [] q=Cs.eff s_1.f [(s_1.c,List.take 2 [Value.int .i64 (2+(x.k:Int)*8+1*spn x.c),Value.int .i64 (p.cls (0+s.i))])] q)/\FM x p s.i) (∃s_2:iJ,oO s_2 p s.i/\True/\iL s_2 s_1/\iK s_2 s_1/\FM x p s.i))/\(∀s_2:iJ,oO s_2 p s.i->I64 (2:Int)/\I64 ((s.i:Int)+1)/\ ∃s_3:iJ,FI s_3 p s.i s_2)/\True)/\True)/\ ∀y:Unit,Hd (x.c=3)->(((0:Int)<=0/\(0:Int)<=0)/\
 0<1/\Ai/\cP (p.tk (0+s.i) 0) (s.z=s.z/\s.c=s.c/\FK x p s.i/\jm s.c/\ ∃s_1:iJ,kP s_1 p s.i/\True/\jo s_1 s.c/\FD s_1 s x p/\(1=1/\ ∀q:Nat,q<1->Ah x q)/\IL p s.i) (∃s_1:iJ,kP s_1 p s.i/\True/\iL s_1 s/\iK s_1 s/\(1=1/\ ∀q:Nat,q<1->Ah x q)/\IL p s.i))/\(∀s_1:iJ,kP s_1 p s.i->I64 (1:Int)/\I64 ((s.i:Int)+1)/\ ∃s_2:iJ,FI s_2 p s.i s_1)/\True) (∃y:Prod Bool (∀a:Nat,List Value),Hd (y.1=true->p.cntI p.n=0)/\(y.1=s.z/\p.cntI p.n=s.c)/\((0=0/\p.n=p.n/\p.n=p.n)/\True)/\(y.1=s.z/\p.cntI p.n=s.c/\ ∀q:Nat,q<p.cntI p.n->Cs.eff y.2 [] q=Cs.eff s.f [] q)/\(p.n=p.n/\ajP p)/\True))/\True
theorem Yi(p:ZPool):NC p=wpF Tryz.prog [(73,ctrT ajN)] tt (aoT p) 200 6 40 (SB.args p) (hO 2 (flatP 1 (SB.l p))) (λv h'=>endsPK 1 p v h' SB.outs):=by kernel_rfl
def ND(a:ZSto):Prop:=
 aaC a
theorem Yj(a:ZSto):ND a=wpF Tryz.prog [] tt (noA a) 200 6 39 ((GH 3).args a) (hO 11 (flatP 1 ((GH 3).l a))) (λv h'=>endsPK 1 a v h' (GH 3).outs):=by kernel_rfl
def NG(a:ZSto):Prop:=
 aaC a
theorem Yk(a:ZSto):NG a=wpF Tryz.prog [] tt (noA a) 200 6 27 ((GH 4).args a) (hO 11 (flatP 1 ((GH 4).l a))) (λv h'=>endsPK 1 a v h' (GH 4).outs):=by kernel_rfl
def aaD(a:ZSto):Prop:=
 aaC a
def aaE(a:ZSto):Prop:=
 aaC a
theorem NH(p:ZPool)(hp:p.ok):NC p:=by
 obtain⟨h1,h2,h3⟩:=hp;unfold NC;simp only[FH,SC,iL,iK,Ai,FK,jm,kP,jo,FD,kU,FN,Nu,oO,Yg,vU,Yh,vV,Nv,Nw,Ny,Nz,FI,qw,FM,Ah,IL,ajP];simp only[aZ,aV,aU,aA,aI,bQ,bF,aO,aK,ay,aX,aW,bU,bG,bH,bI,bV,bC,bJ,bn,eG,aH,aN,ah,ak,aB,aF,aC,aG];refine⟨⟨⟨0,0,true,λ_=>[]⟩,⟨Nat.zero_le _,rfl,λ_=>rfl⟩,⟨rfl,rfl,rfl⟩,rfl,rfl,λ_ _=>rfl⟩,λs hs=>bf (λh=> ?_) λh=> ?_⟩
 ·obtain⟨i1,i2,i3⟩:=hs
  have hi:s.i<p.n:=by have:=aS h;omega
  obtain⟨c1,c2,_⟩:=h3 s.i hi;have bi:=ZPool.ajM p s.i;have bd: ∀j,j<=8->p.cntI s.i+p.iD s.i j<=300:=λj hj=>by have:=ZPool.Yf p s.i j;omega
  have z0:=i3;have k0:s.c=p.cntI s.i+p.iD s.i 0:=i2;have done: ∀(t:iJ) (m:Nat),p.Ag s.i=m->t.c=p.cntI s.i+p.iD s.i m->t.c=p.cntI (s.i+1):=λt m e h=>by
   show t.c=p.cntI s.i+p.iD s.i (p.Ag s.i);rw[e];exact h
  refine⟨⟨by omega,by omega⟩,by omega,⟨s.i,p.cls s.i⟩,⟨by show s.i<32;omega,c1,c2⟩,⟨rfl,rfl⟩,λhc=> ?_,λhc=> ?_,λhc=> ?_,λhc=> ?_,λhc=> ?_⟩
  ·have hc:p.cls s.i= -1:=hc
   exact⟨by unfold I64;omega,⟨s.i+1,s.c,s.z,s.f⟩,⟨by show s.i+1<=p.n;omega,done s 0 (by unfold ZPool.Ag;rw[hc];rfl) k0,z0⟩,by show p.n-(s.i+1)<_;omega,⟨by show((s.i+1:Nat):Int)=_;omega,rfl,rfl⟩,rfl,rfl,λ_ _=>rfl⟩
  ·have hc:p.cls s.i=0:=hc
   refine⟨⟨by decide,by decide,by decide,bf (λh=>⟨rfl,by have:=bd 0 (by decide);omega,⟨0,s.c+1,false,_⟩,⟨?_,λh=>by cases h⟩,⟨rfl,rfl⟩,rfl,rfl,λ_ _=>rfl⟩) λh=>⟨⟨0,s.c,s.z,s.f⟩,⟨?_,z0⟩,⟨rfl,rfl⟩,rfl,rfl,λ_ _=>rfl⟩⟩,λt1 h1=>⟨by unfold I64;decide,?_⟩⟩
   ·show s.c+1=p.cntI s.i+(p.iD s.i 0+if p.tk s.i 0=true then 1 else 0)
    rw[if_pos h];omega
   ·show s.c=p.cntI s.i+(p.iD s.i 0+if p.tk s.i 0=true then 1 else 0)
    rw[h];show s.c=p.cntI s.i+(p.iD s.i 0+0);omega
   obtain⟨k1,z1⟩:=h1;have k1:t1.c=p.cntI s.i+p.iD s.i 1:=k1;refine⟨⟨by decide,by decide,by decide,bf (λh=>⟨rfl,by have:=bd 1 (by decide);omega,⟨0,t1.c+1,false,_⟩,⟨?_,λh=>by cases h⟩,⟨rfl,rfl⟩,rfl,rfl,λ_ _=>rfl⟩) λh=>⟨⟨0,t1.c,t1.z,t1.f⟩,⟨?_,z1⟩,⟨rfl,rfl⟩,rfl,rfl,λ_ _=>rfl⟩⟩,λt2 h2=>⟨by unfold I64;decide,?_⟩⟩
   ·show t1.c+1=p.cntI s.i+(p.iD s.i 1+if p.tk s.i 1=true then 1 else 0)
    rw[if_pos h];omega
   ·show t1.c=p.cntI s.i+(p.iD s.i 1+if p.tk s.i 1=true then 1 else 0)
    rw[h];show t1.c=p.cntI s.i+(p.iD s.i 1+0);omega
   obtain⟨k2,z2⟩:=h2;have k2:t2.c=p.cntI s.i+p.iD s.i 2:=k2;refine⟨⟨by decide,by decide,by decide,bf (λh=>⟨rfl,by have:=bd 2 (by decide);omega,⟨0,t2.c+1,false,_⟩,⟨?_,λh=>by cases h⟩,⟨rfl,rfl⟩,rfl,rfl,λ_ _=>rfl⟩) λh=>⟨⟨0,t2.c,t2.z,t2.f⟩,⟨?_,z2⟩,⟨rfl,rfl⟩,rfl,rfl,λ_ _=>rfl⟩⟩,λt3 h3=>⟨by unfold I64;decide,?_⟩⟩
   ·show t2.c+1=p.cntI s.i+(p.iD s.i 2+if p.tk s.i 2=true then 1 else 0)
    rw[if_pos h];omega
   ·show t2.c=p.cntI s.i+(p.iD s.i 2+if p.tk s.i 2=true then 1 else 0)
    rw[h];show t2.c=p.cntI s.i+(p.iD s.i 2+0);omega
   obtain⟨k3,z3⟩:=h3;have k3:t3.c=p.cntI s.i+p.iD s.i 3:=k3;refine⟨⟨by decide,by decide,by decide,bf (λh=>⟨rfl,by have:=bd 3 (by decide);omega,⟨0,t3.c+1,false,_⟩,⟨?_,λh=>by cases h⟩,⟨rfl,rfl⟩,rfl,rfl,λ_ _=>rfl⟩) λh=>⟨⟨0,t3.c,t3.z,t3.f⟩,⟨?_,z3⟩,⟨rfl,rfl⟩,rfl,rfl,λ_ _=>rfl⟩⟩,λt4 h4=>⟨by unfold I64;decide,?_⟩⟩
   ·show t3.c+1=p.cntI s.i+(p.iD s.i 3+if p.tk s.i 3=true then 1 else 0)
    rw[if_pos h];omega
   ·show t3.c=p.cntI s.i+(p.iD s.i 3+if p.tk s.i 3=true then 1 else 0)
    rw[h];show t3.c=p.cntI s.i+(p.iD s.i 3+0);omega
   obtain⟨k4,z4⟩:=h4;have k4:t4.c=p.cntI s.i+p.iD s.i 4:=k4;refine⟨⟨by decide,by decide,by decide,bf (λh=>⟨rfl,by have:=bd 4 (by decide);omega,⟨0,t4.c+1,false,_⟩,⟨?_,λh=>by cases h⟩,⟨rfl,rfl⟩,rfl,rfl,λ_ _=>rfl⟩) λh=>⟨⟨0,t4.c,t4.z,t4.f⟩,⟨?_,z4⟩,⟨rfl,rfl⟩,rfl,rfl,λ_ _=>rfl⟩⟩,λt5 h5=>⟨by unfold I64;decide,?_⟩⟩
   ·show t4.c+1=p.cntI s.i+(p.iD s.i 4+if p.tk s.i 4=true then 1 else 0)
    rw[if_pos h];omega
   ·show t4.c=p.cntI s.i+(p.iD s.i 4+if p.tk s.i 4=true then 1 else 0)
    rw[h];show t4.c=p.cntI s.i+(p.iD s.i 4+0);omega
   obtain⟨k5,z5⟩:=h5;have k5:t5.c=p.cntI s.i+p.iD s.i 5:=k5;refine⟨⟨by decide,by decide,by decide,bf (λh=>⟨rfl,by have:=bd 5 (by decide);omega,⟨0,t5.c+1,false,_⟩,⟨?_,λh=>by cases h⟩,⟨rfl,rfl⟩,rfl,rfl,λ_ _=>rfl⟩) λh=>⟨⟨0,t5.c,t5.z,t5.f⟩,⟨?_,z5⟩,⟨rfl,rfl⟩,rfl,rfl,λ_ _=>rfl⟩⟩,λt6 h6=>⟨by unfold I64;decide,?_⟩⟩
   ·show t5.c+1=p.cntI s.i+(p.iD s.i 5+if p.tk s.i 5=true then 1 else 0)
    rw[if_pos h];omega
   ·show t5.c=p.cntI s.i+(p.iD s.i 5+if p.tk s.i 5=true then 1 else 0)
    rw[h];show t5.c=p.cntI s.i+(p.iD s.i 5+0);omega
   obtain⟨k6,z6⟩:=h6;have k6:t6.c=p.cntI s.i+p.iD s.i 6:=k6;refine⟨⟨by decide,by decide,by decide,bf (λh=>⟨rfl,by have:=bd 6 (by decide);omega,⟨0,t6.c+1,false,_⟩,⟨?_,λh=>by cases h⟩,⟨rfl,rfl⟩,rfl,rfl,λ_ _=>rfl⟩) λh=>⟨⟨0,t6.c,t6.z,t6.f⟩,⟨?_,z6⟩,⟨rfl,rfl⟩,rfl,rfl,λ_ _=>rfl⟩⟩,λt7 h7=>⟨by unfold I64;decide,?_⟩⟩
   ·show t6.c+1=p.cntI s.i+(p.iD s.i 6+if p.tk s.i 6=true then 1 else 0)
    rw[if_pos h];omega
   ·show t6.c=p.cntI s.i+(p.iD s.i 6+if p.tk s.i 6=true then 1 else 0)
    rw[h];show t6.c=p.cntI s.i+(p.iD s.i 6+0);omega
   obtain⟨k7,z7⟩:=h7;have k7:t7.c=p.cntI s.i+p.iD s.i 7:=k7;refine⟨⟨by decide,by decide,by decide,bf (λh=>⟨rfl,by have:=bd 7 (by decide);omega,⟨0,t7.c+1,false,_⟩,⟨?_,λh=>by cases h⟩,⟨rfl,rfl⟩,rfl,rfl,λ_ _=>rfl⟩) λh=>⟨⟨0,t7.c,t7.z,t7.f⟩,⟨?_,z7⟩,⟨rfl,rfl⟩,rfl,rfl,λ_ _=>rfl⟩⟩,λt8 h8=>⟨by unfold I64;decide,?_⟩⟩
   ·show t7.c+1=p.cntI s.i+(p.iD s.i 7+if p.tk s.i 7=true then 1 else 0)
    rw[if_pos h];omega
   ·show t7.c=p.cntI s.i+(p.iD s.i 7+if p.tk s.i 7=true then 1 else 0)
    rw[h];show t7.c=p.cntI s.i+(p.iD s.i 7+0);omega
   obtain⟨k8,z8⟩:=h8;have k8:t8.c=p.cntI s.i+p.iD s.i 8:=k8;exact⟨by unfold I64;omega,⟨s.i+1,t8.c,t8.z,t8.f⟩,⟨by show s.i+1<=p.n;omega,done t8 8 (by unfold ZPool.Ag;rw[hc];rfl) k8,z8⟩,by show p.n-(s.i+1)<_;omega,⟨by show((s.i+1:Nat):Int)=_;omega,rfl,rfl⟩,rfl,rfl,λ_ _=>rfl⟩
  ·have hc:p.cls s.i=1:=hc
   refine⟨⟨by decide,by decide,by decide,bf (λh=>⟨rfl,by have:=bd 0 (by decide);omega,⟨0,s.c+1,false,_⟩,⟨?_,λh=>by cases h⟩,⟨rfl,rfl⟩,rfl,rfl,λ_ _=>rfl⟩) λh=>⟨⟨0,s.c,s.z,s.f⟩,⟨?_,z0⟩,⟨rfl,rfl⟩,rfl,rfl,λ_ _=>rfl⟩⟩,λt1 h1=>⟨by unfold I64;decide,?_⟩⟩
   ·show s.c+1=p.cntI s.i+(p.iD s.i 0+if p.tk s.i 0=true then 1 else 0)
    rw[if_pos h];omega
   ·show s.c=p.cntI s.i+(p.iD s.i 0+if p.tk s.i 0=true then 1 else 0)
    rw[h];show s.c=p.cntI s.i+(p.iD s.i 0+0);omega
   obtain⟨k1,z1⟩:=h1;have k1:t1.c=p.cntI s.i+p.iD s.i 1:=k1;refine⟨⟨by decide,by decide,by decide,bf (λh=>⟨rfl,by have:=bd 1 (by decide);omega,⟨0,t1.c+1,false,_⟩,⟨?_,λh=>by cases h⟩,⟨rfl,rfl⟩,rfl,rfl,λ_ _=>rfl⟩) λh=>⟨⟨0,t1.c,t1.z,t1.f⟩,⟨?_,z1⟩,⟨rfl,rfl⟩,rfl,rfl,λ_ _=>rfl⟩⟩,λt2 h2=>⟨by unfold I64;decide,?_⟩⟩
   ·show t1.c+1=p.cntI s.i+(p.iD s.i 1+if p.tk s.i 1=true then 1 else 0)
    rw[if_pos h];omega
   ·show t1.c=p.cntI s.i+(p.iD s.i 1+if p.tk s.i 1=true then 1 else 0)
    rw[h];show t1.c=p.cntI s.i+(p.iD s.i 1+0);omega
   obtain⟨k2,z2⟩:=h2;have k2:t2.c=p.cntI s.i+p.iD s.i 2:=k2;refine⟨⟨by decide,by decide,by decide,bf (λh=>⟨rfl,by have:=bd 2 (by decide);omega,⟨0,t2.c+1,false,_⟩,⟨?_,λh=>by cases h⟩,⟨rfl,rfl⟩,rfl,rfl,λ_ _=>rfl⟩) λh=>⟨⟨0,t2.c,t2.z,t2.f⟩,⟨?_,z2⟩,⟨rfl,rfl⟩,rfl,rfl,λ_ _=>rfl⟩⟩,λt3 h3=>⟨by unfold I64;decide,?_⟩⟩
   ·show t2.c+1=p.cntI s.i+(p.iD s.i 2+if p.tk s.i 2=true then 1 else 0)
    rw[if_pos h];omega
   ·show t2.c=p.cntI s.i+(p.iD s.i 2+if p.tk s.i 2=true then 1 else 0)
    rw[h];show t2.c=p.cntI s.i+(p.iD s.i 2+0);omega
   obtain⟨k3,z3⟩:=h3;have k3:t3.c=p.cntI s.i+p.iD s.i 3:=k3;refine⟨⟨by decide,by decide,by decide,bf (λh=>⟨rfl,by have:=bd 3 (by decide);omega,⟨0,t3.c+1,false,_⟩,⟨?_,λh=>by cases h⟩,⟨rfl,rfl⟩,rfl,rfl,λ_ _=>rfl⟩) λh=>⟨⟨0,t3.c,t3.z,t3.f⟩,⟨?_,z3⟩,⟨rfl,rfl⟩,rfl,rfl,λ_ _=>rfl⟩⟩,λt4 h4=>⟨by unfold I64;decide,?_⟩⟩
   ·show t3.c+1=p.cntI s.i+(p.iD s.i 3+if p.tk s.i 3=true then 1 else 0)
    rw[if_pos h];omega
   ·show t3.c=p.cntI s.i+(p.iD s.i 3+if p.tk s.i 3=true then 1 else 0)
    rw[h];show t3.c=p.cntI s.i+(p.iD s.i 3+0);omega
   obtain⟨k4,z4⟩:=h4;have k4:t4.c=p.cntI s.i+p.iD s.i 4:=k4;exact⟨by unfold I64;omega,⟨s.i+1,t4.c,t4.z,t4.f⟩,⟨by show s.i+1<=p.n;omega,done t4 4 (by unfold ZPool.Ag;rw[hc];rfl) k4,z4⟩,by show p.n-(s.i+1)<_;omega,⟨by show((s.i+1:Nat):Int)=_;omega,rfl,rfl⟩,rfl,rfl,λ_ _=>rfl⟩
  ·have hc:p.cls s.i=2:=hc
   refine⟨⟨by decide,by decide,by decide,bf (λh=>⟨rfl,by have:=bd 0 (by decide);omega,⟨0,s.c+1,false,_⟩,⟨?_,λh=>by cases h⟩,⟨rfl,rfl⟩,rfl,rfl,λ_ _=>rfl⟩) λh=>⟨⟨0,s.c,s.z,s.f⟩,⟨?_,z0⟩,⟨rfl,rfl⟩,rfl,rfl,λ_ _=>rfl⟩⟩,λt1 h1=>⟨by unfold I64;decide,?_⟩⟩
   ·show s.c+1=p.cntI s.i+(p.iD s.i 0+if p.tk s.i 0=true then 1 else 0)
    rw[if_pos h];omega
   ·show s.c=p.cntI s.i+(p.iD s.i 0+if p.tk s.i 0=true then 1 else 0)
    rw[h];show s.c=p.cntI s.i+(p.iD s.i 0+0);omega
   obtain⟨k1,z1⟩:=h1;have k1:t1.c=p.cntI s.i+p.iD s.i 1:=k1;refine⟨⟨by decide,by decide,by decide,bf (λh=>⟨rfl,by have:=bd 1 (by decide);omega,⟨0,t1.c+1,false,_⟩,⟨?_,λh=>by cases h⟩,⟨rfl,rfl⟩,rfl,rfl,λ_ _=>rfl⟩) λh=>⟨⟨0,t1.c,t1.z,t1.f⟩,⟨?_,z1⟩,⟨rfl,rfl⟩,rfl,rfl,λ_ _=>rfl⟩⟩,λt2 h2=>⟨by unfold I64;decide,?_⟩⟩
   ·show t1.c+1=p.cntI s.i+(p.iD s.i 1+if p.tk s.i 1=true then 1 else 0)
    rw[if_pos h];omega
   ·show t1.c=p.cntI s.i+(p.iD s.i 1+if p.tk s.i 1=true then 1 else 0)
    rw[h];show t1.c=p.cntI s.i+(p.iD s.i 1+0);omega
   obtain⟨k2,z2⟩:=h2;have k2:t2.c=p.cntI s.i+p.iD s.i 2:=k2;exact⟨by unfold I64;omega,⟨s.i+1,t2.c,t2.z,t2.f⟩,⟨by show s.i+1<=p.n;omega,done t2 2 (by unfold ZPool.Ag;rw[hc];rfl) k2,z2⟩,by show p.n-(s.i+1)<_;omega,⟨by show((s.i+1:Nat):Int)=_;omega,rfl,rfl⟩,rfl,rfl,λ_ _=>rfl⟩
  ·have hc:p.cls s.i=3:=hc
   refine⟨⟨by decide,by decide,by decide,bf (λh=>⟨rfl,by have:=bd 0 (by decide);omega,⟨0,s.c+1,false,_⟩,⟨?_,λh=>by cases h⟩,⟨rfl,rfl⟩,rfl,rfl,λ_ _=>rfl⟩) λh=>⟨⟨0,s.c,s.z,s.f⟩,⟨?_,z0⟩,⟨rfl,rfl⟩,rfl,rfl,λ_ _=>rfl⟩⟩,λt1 h1=>⟨by unfold I64;decide,?_⟩⟩
   ·show s.c+1=p.cntI s.i+(p.iD s.i 0+if p.tk s.i 0=true then 1 else 0)
    rw[if_pos h];omega
   ·show s.c=p.cntI s.i+(p.iD s.i 0+if p.tk s.i 0=true then 1 else 0)
    rw[h];show s.c=p.cntI s.i+(p.iD s.i 0+0);omega
   obtain⟨k1,z1⟩:=h1;have k1:t1.c=p.cntI s.i+p.iD s.i 1:=k1;exact⟨by unfold I64;omega,⟨s.i+1,t1.c,t1.z,t1.f⟩,⟨by show s.i+1<=p.n;omega,done t1 1 (by unfold ZPool.Ag;rw[hc];rfl) k1,z1⟩,by show p.n-(s.i+1)<_;omega,⟨by show((s.i+1:Nat):Int)=_;omega,rfl,rfl⟩,rfl,rfl,λ_ _=>rfl⟩
 ·obtain⟨i1,i2,i3⟩:=hs
  have hi:s.i=p.n:=by have:=aT h;omega
  have e:p.cntI p.n=s.c:=by rw[i2,hi]
  exact⟨(s.z,s.f),λh=>by rw[e];exact i3 h,⟨rfl,e⟩,rfl,e,λ_ _=>rfl⟩
theorem Bd(a:ZSto):ND a/\NG a/\aaD a/\aaE a:=by
 unfold ND NG aaD aaE;simp only[aZ,aV,aU,aA,aI,bQ,bF,aO,aK,ay,aX,aW,bU,bG,bH,bI,bV,bC,bJ,bn,eG,aH,aN,ah,ak,aB,aF,aC,aG]
 repeat' (first|exact trivial|exact rfl|exactλ_ _=>rfl|refine And.intro ?_ ?_|refine⟨(),?_⟩)
theorem ajQ:bZ Tryz.prog 40 SB.ctr:=cO dD mixed (.cons (bM adL) .nil) 2 aoT 200 6 (λ_=>⟨rfl,rfl,rfl,rfl⟩) λx hx=>Eq.mp (Yi x) (NH x (aZ.1 hx))
theorem ajR:bZ Tryz.prog 39 (GH 3).ctr:=cO dD mixed .nil 11 noA 200 6 (λ_=>⟨rfl,rfl,rfl,rfl⟩) λx _=>Eq.mp (Yj x) (Bd x).1
theorem ajS:bZ Tryz.prog 27 (GH 4).ctr:=cO dD mixed .nil 11 noA 200 6 (λ_=>⟨rfl,rfl,rfl,rfl⟩) λx _=>Eq.mp (Yk x) (Bd x).2.1

def ZBy.ok1(x:ZBy):Prop:=x.d.ok/\PBy x.d x.b x.ln
theorem ajT{x:ZBy}(h:x.ok1)(i:Nat)(hi:i<x.b.dJ)(q:Nat)(hq:q<64*(i+1)):x.b.enc q=bif Nat.blt q (64*i)then x.b.enc q else x.d.b ((x.ln+i)*193+(q-64*i)):=by
 by_cases hh:q<64*i
 ·rw[bg.2 hh];rfl
 ·rw[show Nat.blt q (64*i)=false by rw[bT];exact decide_eq_false hh,aQ,<-h.2.2.2.2 q (by omega),show q/64=i by omega,show q%64=q-64*i by omega]
noncomputable def aoU:Ctr:=det ZBy (λx=>[.ptr 0 0,i64 x.ln,i64 x.b.cls]) 3 (λx=>[ar0,aqK,.abs (ownM x.d.os)]) (λx=>Hd x.ok1) (λx=> .slW 3 0 1 (64*x.b.dJ)) 4 (λx=>[ar0,aqK,.abs (ownM x.d.os),SQ x.b.enc (64*x.b.dJ)])
theorem NI(x:ZBy)(hx:x.ok1):J7 x:=by
 obtain⟨o1,o2,o3,o4,o5⟩:=id hx;have hs:=vF x.b;have h1:=yx o2;have hn:=o1.1;unfold J7;simp only[ath,ZV,acv,acw,ahC,ZW,aqN];simp only[aZ,aV,aU,aA,aI,bQ,bF,aO,aK,ay,aX,aW,bU,bG,bH,bI,bV,bC,bJ,bn,eG,aH,aN,ah,ak,aB,aF,aC,aG];refine⟨bf (λ_=>⟨by unfold I64;omega,⟨x.d,x.ln⟩,⟨o1,by show x.ln<x.d.n;omega⟩,by show(x.ln:Int)=x.ln+0;omega,rfl,by decide,by decide,by unfold I64;omega,1,⟨aY 1,h1⟩,by omega,⟨rfl,rfl⟩,⟨rfl,λq hq=> ?_⟩,rfl⟩) λh=>absurd (aT h) (by omega),λs hs'=>bf (λh=> ?_) λh=> ?_⟩
 ·show x.b.enc q=x.d.b (x.ln*193+q)
  have:=ajT hx 0 (by omega) q (by omega);rwa [show Nat.blt q (64*0)=false by rw[bT];exact decide_eq_false (by omega),aQ,aI,Nat.mul_zero,aN]at this
 ·have h:=aS h
  refine⟨by unfold I64;omega,⟨x.d,x.ln+s⟩,⟨o1,by show x.ln+s<x.d.n;omega⟩,by show((x.ln+s:Nat):Int)=x.ln+s;omega,rfl,by decide,by omega,by unfold I64;omega,s+1,⟨by omega,by omega⟩,by omega,⟨by omega,by omega⟩,⟨by omega,λq hq=>ajT hx s (by omega) q hq⟩,rfl⟩
 ·have h:=aT h
  have:s=x.b.dJ:=by omega
  subst this
  first|rfl|exact⟨rfl,rfl⟩|trivial
theorem ajU:bZ Tryz.prog 122 aoU:=dM dD mixed amc annB 200 6 (λ_=>rfl) (λ_=>rfl) λx hx=>Eq.mp (VB x) (NI x (aZ.1 hx))
noncomputable def SG:Ctr:=det ZBy (λx=>[.ptr 0 0,.agg [.lit (.string x.b.key),u64 x.b.id,u64 x.b.ver,i64 x.ln,i64 x.b.cls],i64 1]) 3 (λx=>[ar0,aqK,.abs (ownM x.d.os)]) (λx=>Hd x.ok1) (λx=> .tup [.lit (.string x.b.value),boo true]) 3 (λx=>[ar0,aqK,.abs (ownM x.d.os)])
noncomputable def aoV:jd:=[(122,ctrT aoU),(121,ctrT arA)]
theorem ajV:dX Tryz.prog aoV:= .cons (bM ajU) (.cons (bM aiL) .nil)
structure ZShP where
 d:DevM
 l:ZLn
 L:Lks
 B:ByteArray->ZBlk
namespace ZShP
def ok(x:ZShP):Prop:=x.d.ok/\x.l.ok/\x.l.n=0/\x.L.length<=258/\ ∀y∈x.L,∃ln:Nat,y.line=ln/\(x.B y.key).key=y.key/\(x.B y.key).id=y.id/\(x.B y.key).ver=y.ver/\(x.B y.key).cls=y.cls/\PBy x.d (x.B y.key) ln
def arn:dB:=atT (.ptr 1 0) .any .any .any .any (.ptr 3 0) .any (.ptr 4 0) .any .any
noncomputable def os(x:ZShP):List dB:=[arn,aqK,.abs (ownM x.d.os),.abs (tabA x.L),.abs (ownM x.l.os)]
def pr(x:ZShP)(i:Nat):ByteArray×ByteArray:=((nthL x.L i).key,(x.B (nthL x.L i).key).value)
end ZShP
def Yl(z:Bool)(n:Nat)(g:Nat->ByteArray×ByteArray):dB:= .gY z 162 (.row 2 n (λi=>[.string (g i).1,.string (g i).2]) [])
noncomputable def shelfQ:Ctr:={X:=ZShP,args:=λ_=>[.ptr 0 0],k:=5,os:=ZShP.os,pre:=λx=>Hd x.ok,outs:=[
 {Y:=Bool,post:=λx z=>Hd (z=true->x.L=[]),ret:=λx z=> .agg [.slV z 5 2 x.L.length,gV],m:=6,os:=λx z=>x.os++[Yl z x.L.length x.pr]}]}
noncomputable def aaF:Ctr:=det ZLn (λ_=>[.ptr 0 0]) 1 (λl=>[.abs (ownM l.os)]) (λl=>Hd (l.ok/\l.n=0)) (λ_=>gV) 1 (λl=>[.abs (ownM l.os)])
structure ZSq where
 y:Bool
 z:Bool
 n:Nat
 m:Nat
 g:Nat->ByteArray×ByteArray
 h:Nat->ByteArray×ByteArray
noncomputable def ZSq.same(x:ZSq):Bool:=hide (@decide (x.n=x.m/\ ∀i,i<x.n->x.g i=x.h i) (Classical.propDecidable _))
theorem FQ{x:ZSq}:x.same=true↔x.n=x.m/\ ∀i,i<x.n->x.g i=x.h i:=by unfold ZSq.same;rw[gW];exact @decide_eq_true_iff _ (Classical.propDecidable _)
noncomputable def SH:Ctr:=det ZSq (λx=>[.slV x.y 0 2 x.n,.slV x.z 1 2 x.m]) 2 (λx=>[Yl x.y x.n x.g,Yl x.z x.m x.h]) (λx=>Hd (x.n<1099511627776)) (λx=>boo x.same) 2 (λx=>[Yl x.y x.n x.g,Yl x.z x.m x.h])
noncomputable def aoW(x:ZShP):FuncId->pX:=λf=>bif Nat.beq f 30 then(λb _ h=>bif Nat.beq b 0 then [
 {σ:=Bool×Nat,fr:=λs=>[(16,i64 s.2)],ob:=λs=>[(6,some (.cells 74 (.av [.slV s.1 h.next 2 s.2,gV]))),(h.next,some (Yl s.1 s.2 x.pr))],nx:=1,inv:=λs=>Hd (s.2<=x.L.length/\(s.1=true->s.2=0)),meas:=λs=>x.L.length-s.2}]else [])elseλ_ _ _=>[]
noncomputable def aoX:jd:=[(68,ctrT allT.C),(70,ctrT aaF),(69,ctrT SG)]
def auc(x:ZSq):FuncId->pX:=λf=>bif Nat.beq f 75 then(λb _ _=>bif Nat.beq b 0 then [
 {σ:=Nat,fr:=λi=>[(5,i64 i)],ob:=λ_=>[],inv:=λi=>Hd (i<=x.n/\x.n=x.m/\ ∀k,k<i->x.g k=x.h k),meas:=λi=>x.n-i}]else [])elseλ_ _ _=>[]
def aaG(a:ZSq):Prop:=a.m=a.m/\ ∀q:Nat,q<a.m->[Value.string (@Prod.fst ByteArray ByteArray (a.h q)),Value.string (@Prod.snd ByteArray ByteArray (a.h q))]=[Value.string (@Prod.fst ByteArray ByteArray (a.h q)),Value.string (@Prod.snd ByteArray ByteArray (a.h q))]
def aaH(a:ZSq):Prop:=a.n=a.n/\ ∀q:Nat,q<a.n->[Value.string (@Prod.fst ByteArray ByteArray (a.g q)),Value.string (@Prod.snd ByteArray ByteArray (a.g q))]=[Value.string (@Prod.fst ByteArray ByteArray (a.g q)),Value.string (@Prod.snd ByteArray ByteArray (a.g q))]
def aaI(a:ZSq):Prop:=(a.y=a.y/\aaH a)/\(a.z=a.z/\aaG a)/\True
def tu:Prop:=True/\True/\True/\True
def FT(a:DevM)(b:DevM):Prop:=(0=0/\True/\True/\True/\True/\True/\True/\True/\tu)/\(0=0/\tu)/\ownM a.os=ownM b.os/\True
def Ym(a:Bool)(b:Lks):Prop:=a=a/\List.length b=List.length b/\ ∀q:Nat,q<List.length b->[Value.string (ZLnk.key (nthL b q)),Value.int .u64 (ZLnk.id (nthL b q)),Value.int .u64 (ZLnk.ver (nthL b q)),Value.int .i64 (ZLnk.line (nthL b q)),Value.int .i64 (ZLnk.cls (nthL b q))]=[Value.string (ZLnk.key (nthL b q)),Value.int .u64 (ZLnk.id (nthL b q)),Value.int .u64 (ZLnk.ver (nthL b q)),Value.int .i64 (ZLnk.line (nthL b q)),Value.int .i64 (ZLnk.cls (nthL b q))]
def Yn:Prop:=Value.slice none 0 0=Value.slice none 0 0
def FU:Prop:=Yn/\True
def NJ:Prop:=0=0/\True/\True/\True/\True/\0=0/\True/\0=0/\tu
def Yo:Prop:=Yn/\FU
def NK(a:Nat)(b:ZSq):Prop:=Hd (a<=b.n/\b.n=b.m/\ ∀k:Nat,k<a->b.g k=b.h k)
def NM(x:ZBy):Prop:=
 ∃x_1:ZBy,Hd x_1.ok1/\(0=0/\(x_1.ln:Int)=(x.ln:Int)/\x_1.b.cls=x.b.cls/\True)/\FT x_1.d x.d/\ ∀y:Unit,True-> ∃x_2:ZDm,Hd (x_2.b.may/\x_2.key.size<1099511627776/\x_2.value.size<1099511627776/\ ∀k:Nat,k<64*x_2.b.dJ->x_2.g k=x_2.b.enc k)/\((0=0/\64*x_2.b.dJ=64*x_1.b.dJ)/\True)/\((64*x_2.b.dJ=64*x_1.b.dJ/\ ∀q:Nat,q<64*x_2.b.dJ->[Value.int .u8 (x_2.g q)]=[Value.int .u8 (x_1.b.enc q)])/\True)/\ ∀y_1:Unit,True->cP (BEq.beq x_2.id x.b.id) (cP (BEq.beq x_2.ver x.b.ver) (∃y_2:Unit,True/\(x.b.value=x_2.value/\true=BEq.beq (ByteArray.toList x_2.key) (ByteArray.toList x.b.key)/\True)/\FT x.d x_1.d) (∃y_2:Unit,True/\(x.b.value=x_2.value/\true=false/\True)/\FT x.d x_1.d)) (∃y_2:Unit,True/\(x.b.value=x_2.value/\true=false/\True)/\FT x.d x_1.d)
theorem Yp(x:ZBy):NM x=wpF Tryz.prog aoV tt (noA x) 200 6 69 (SG.args x) (hO 3 (SG.os x)) (λv h'=>eF 3 x v h' SG.outs):=by kernel_rfl
def NP(x:ZShP):Prop:=
 ∃x_1:ZLq,True/\(0=0/\True)/\(tabA x_1.L=tabA x.L/\True)/\ ∀y:Bool,Hd (y=true->x_1.L= @List.nil ZLnk)->(∃s:Prod Bool Nat,Hd (s.2<=List.length x.L/\(s.1=true->s.2=0))/\True/\((s.2:Int)=0/\True)/\(s.1=true/\s.2=0/\ ∀q:Nat,q<s.2->[Value.string (ZLnk.key (nthL x.L q)),Value.string (ZBlk.value (x.B (ZLnk.key (nthL x.L q))))]= @List.nil Value)/\Ym y x_1.L/\((s.1=true/\s.2=0)/\FU)/\Yo/\ownM x.l.os=ownM x.l.os/\tabA x_1.L=tabA x_1.L/\ownM x.d.os=ownM x.d.os/\(0=0/\tu)/\NJ/\True)/\(∀s:Prod Bool Nat,Hd (s.2<=List.length x.L/\(s.1=true->s.2=0))->cP (decide ((s.2:Int)<((List.length x_1.L:Nat):Int))) ((0<=(s.2:Int)/\(s.2:Int)<((List.length x_1.L:Nat):Int))/\0+s.2<List.length x_1.L/\ ∃x_2:ZBy,Hd x_2.ok1/\(0=0/\(x_2.b.key=ZLnk.key (nthL x_1.L (0+s.2))/\x_2.b.id=ZLnk.id (nthL x_1.L (0+s.2))/\x_2.b.ver=ZLnk.ver (nthL x_1.L (0+s.2))/\(x_2.ln:Int)=ZLnk.line (nthL x_1.L (0+s.2))/\x_2.b.cls=ZLnk.cls (nthL x_1.L (0+s.2))/\True)/\(1:Int)=1/\True)/\FT x_2.d x.d/\ ∀y_1:Unit,True->s.1=s.1/\s.2=s.2/\List.all [List.take 2 [Value.string (ZLnk.key (nthL x_1.L (0+s.2))),Value.string x_2.b.value]] (λ(l:List Value)=>Nat.beq (List.length l) 2&&List.all l Value.oneCell')=true/\(2*(s.2+1)+1000)*32<=281474976710656/\I64 ((s.2:Int)+1)/\ ∃s_1:Prod Bool Nat,Hd (s_1.2<=List.length x.L/\(s_1.1=true->s_1.2=0))/\List.length x.L-s_1.2<List.length x.L-s.2/\((s_1.2:Int)=(s.2:Int)+1/\True)/\(s_1.1=false/\s_1.2=s.2+List.length [List.take 2 [Value.string (ZLnk.key (nthL x_1.L (0+s.2))),Value.string x_2.b.value]]/\
 ∀q:Nat,q<s_1.2->[Value.string (ZLnk.key (nthL x.L q)),Value.string (ZBlk.value (x.B (ZLnk.key (nthL x.L q))))]=Cs.eff (λ(i:Nat)=>[Value.string (ZLnk.key (nthL x.L i)),Value.string (ZBlk.value (x.B (ZLnk.key (nthL x.L i))))]) [(s.2,List.take 2 [Value.string (ZLnk.key (nthL x_1.L (0+s.2))),Value.string x_2.b.value])] q)/\Ym y x_1.L/\((s_1.1=false/\s_1.2=s.2+1)/\FU)/\Yo/\ownM x.l.os=ownM x.l.os/\tabA x_1.L=tabA x_1.L/\ownM x.d.os=ownM x_2.d.os/\(0=0/\tu)/\NJ/\True) (∃x_2:ZLn,Hd (x_2.ok/\x_2.n=0)/\(0=0/\True)/\(ownM x_2.os=ownM x.l.os/\True)/\ ∀y_1:Unit,True-> ∃y_2:Bool,Hd (y_2=true->x.L= @List.nil ZLnk)/\((y_2=s.1/\List.length x.L=s.2)/\FU)/\NJ/\(0=0/\tu)/\ownM x.d.os=ownM x.d.os/\tabA x.L=tabA x_1.L/\ownM x.l.os=ownM x_2.os/\(y_2=s.1/\List.length x.L=s.2/\ ∀q:Nat,q<List.length x.L->[Value.string (ZLnk.key (nthL x.L q)),Value.string (ZBlk.value (x.B (ZLnk.key (nthL x.L q))))]=[Value.string (ZLnk.key (nthL x.L q)),Value.string (ZBlk.value (x.B (ZLnk.key (nthL x.L q))))])/\True))/\True
theorem Yq(x:ZShP):NP x=wpF Tryz.prog aoX tt (aoW x) 200 6 30 (shelfQ.args x) (hO 5 (shelfQ.os x)) (λv h'=>eF 5 x v h' shelfQ.outs):=by kernel_rfl
def NQ(x:ZSq):Prop:=
 cP (bne (x.n:Int) (x.m:Int)) (∃y:Unit,True/\x.same=false/\aaI x) ((∃s:Nat,NK s x/\True/\((s:Int)=0/\True)/\(x.z=x.z/\aaG x)/\(x.y=x.y/\aaH x)/\True)/\(∀s:Nat,NK s x->cP (decide ((s:Int)<(x.n:Int))) ((0<=(s:Int)/\(s:Int)<(x.n:Int))/\0+s<x.n/\(0<=(s:Int)/\(s:Int)<(x.m:Int))/\0+s<x.m/\cP (Bool.not (BEq.beq (ByteArray.toList (@Prod.fst ByteArray ByteArray (x.g (0+s)))) (ByteArray.toList (@Prod.fst ByteArray ByteArray (x.h (0+s))))&&(BEq.beq (ByteArray.toList (@Prod.snd ByteArray ByteArray (x.g (0+s)))) (ByteArray.toList (@Prod.snd ByteArray ByteArray (x.h (0+s))))&&true))) (∃y:Unit,True/\x.same=false/\aaI x) (I64 ((s:Int)+1)/\ ∃s_1:Nat,NK s_1 x/\x.n-s_1<x.n-s/\((s_1:Int)=(s:Int)+1/\True)/\(x.z=x.z/\aaG x)/\(x.y=x.y/\aaH x)/\True)) (∃y:Unit,True/\x.same=true/\aaI x))/\True)
theorem Yr(x:ZSq):NQ x=wpF Tryz.prog [] tt (auc x) 200 6 75 (SH.args x) (hO 2 (SH.os x)) (λv h'=>eF 2 x v h' SH.outs):=by kernel_rfl
noncomputable def arM:WTr:=λargs h K=>match args with
 |[.ptr i z]=>bif isAbs (h.get i)then ctrT (GH 3).ctr [.ptr i z] h K else wpF Tryz.prog [] tt al7 200 6 39 [.ptr i z] h K
 |_=>False
theorem anP(args:List AV)(h:Heap)(K:AV->Heap->Prop)(hq:arM args h K):Sp Tryz.prog 39 args h K:=by
 unfold arM at hq;split at hq
 ·rename_i i z
  cases ha:isAbs (h.get i)<;>rw[ha]at hq
  ·exact qN dD mixed .nil _ _ _ _ _ _ _ hq
  ·exact bM ajR _ _ _ hq
 ·exact hq.elim
theorem Yt:bZ Tryz.prog 70 aaF:=je λx hx=>by
 obtain⟨h1,h2⟩:=aZ.1 hx;refine⟨_,Il,rfl,x,aZ.2 h1,rfl,rfl,λv h' hh=> ?_⟩;rcases pz hh with ⟨y,h0,e1,e2⟩|⟨y,h0,e1,e2⟩
 ·exact eP ⟨(),trivial,e1,e2⟩
 ·exact absurd h2 (aZ.1 h0)
theorem NR(x:ZBy)(hx:x.ok1):NM x:=by
 obtain⟨o1,o2,o3,o4,o5⟩:=id hx;have hde:(ZDm.mk x.b.cls x.b.id x.b.ver x.b.epoch x.b.key x.b.value x.b.enc).b=x.b:=by
  have o3:x.b.kind=1:=o3;obtain⟨d,⟨c,k,i,v,e,s,w⟩,ln⟩:=x;have o3:k=1:=o3;subst o3;rfl
 have ks:x.b.key.size<1099511627776/\x.b.value.size<1099511627776:=by
  have o3:x.b.kind=1:=o3;rcases o2.2 with h|h|h|h
  ·exfalso;have:=h.1;omega
  ·obtain⟨_,h1,h2,h3,_⟩:=h
   omega
  ·exfalso;have:=h.1;omega
  ·exfalso;have:=h.1;omega
 unfold NM;simp only[FT,tu];simp only[aZ,aV,aU,aA,aI,bQ,bF,aO,aK,ay,aX,aW,bU,bG,bH,bI,bV,bC,bJ,bn,eG,aH,aN,ah,ak,aB,aF,aC,aG];refine⟨x,hx,⟨rfl,rfl⟩,rfl,⟨x.b.cls,x.b.id,x.b.ver,x.b.epoch,x.b.key,x.b.value,x.b.enc⟩,⟨by rw[hde];exact o2,ks.1,ks.2,λk _=>by rw[hde]⟩,by rw[hde],⟨by rw[hde],λq _=>rfl⟩,?_⟩;rw[beq_self_eq_true,beq_self_eq_true,jU,jU];exact⟨⟨rfl,(beq_self_eq_true _).symm⟩,rfl⟩
theorem ajW:bZ Tryz.prog 69 SG:=dM dD mixed ajV noA 200 6 (λ_=>rfl) (λ_=>rfl) λx hx=>Eq.mp (Yp x) (NR x (aZ.1 hx))
theorem ajX:dX Tryz.prog aoX:= .cons (bM aiu) (.cons (bM Yt) (.cons (bM ajW) .nil))
theorem NS(x:ZShP)(hx:x.ok):NP x:=by
 obtain⟨o1,o2,o3,o4,o5⟩:=hx;unfold NP;simp only[Ym,FU,Yo,tu,NJ,FT,Yn];simp only[aZ,aV,aU,aA,aI,bQ,bF,aO,aK,ay,aX,aW,bU,bG,bH,bI,bV,bC,bJ,bn,eG,aH,aN,ah,ak,aB,aF,aC,aG];refine⟨⟨x.L⟩,rfl,λy hy=>⟨⟨(true,0),⟨Nat.zero_le _,λ_=>rfl⟩,rfl,⟨rfl,rfl,λq hq=>absurd hq (Nat.not_lt_zero q)⟩,rfl,rfl⟩,λs hs=>bf (λh=> ?_) λh=> ?_⟩⟩
 ·have h:s.2<x.L.length:=by(have h:(s.2:Int)<(x.L.length:Nat):=aS h);omega
  obtain⟨ln,q1,k1,k2,k3,k4,q2⟩:=o5 _ (aaz h);refine⟨⟨by omega,by show(s.2:Int)<(x.L.length:Nat);omega⟩,h,⟨x.d,x.B (nthL x.L s.2).key,ln⟩,⟨o1,q2⟩,⟨k1,k2,k3,q1.symm,k4⟩,rfl,rfl,by omega,by unfold I64;omega,(false,s.2+1),⟨h,λe=>by cases e⟩,by show x.L.length-(s.2+1)<_;omega,by show((s.2+1:Nat):Int)=_;omega,⟨rfl,rfl,λq hq=> ?_⟩,⟨rfl,rfl⟩,rfl⟩;by_cases e:q=s.2
  ·subst e;show _=bif Nat.beq s.2 s.2 then _ else _;rw[Nat.beq_refl];rfl
  ·show _=bif Nat.beq q s.2 then _ else _;rw[dA,decide_eq_false e];rfl
 ·have h: ¬s.2<x.L.length:=by(have h: ¬(s.2:Int)<(x.L.length:Nat):=aT h);omega
  have hl:x.L.length=s.2:=by have:=hs.1;omega
  refine⟨x.l,⟨o2,o3⟩,rfl,s.1,λe=>List.length_eq_zero_iff.1 (by have:=hs.2 e;omega),⟨rfl,hl⟩,?_⟩
  repeat' (first|exact rfl|exact hl|exactλq hq=>rfl|refine And.intro ?_ ?_)
theorem SI:bZ Tryz.prog 30 shelfQ:=iZ dD mixed ajX aoW 200 6 (λ_=>rfl) (λ_=>⟨λ_=>rfl,trivial⟩) λx hx=>Eq.mp (Yq x) (NS x (aZ.1 hx))
theorem NT(x:ZSq)(hx:x.n<1099511627776):NQ x:=by
 have hF: ¬(x.n=x.m/\ ∀i,i<x.n->x.g i=x.h i)->x.same=false:=λh=>by
  cases hs:x.same with
  |true=>exact absurd (FQ.1 hs) h
  |false=>rfl
 unfold NQ;simp only[aaI,NK,aaG,aaH];simp only[aZ,aV,aU,aA,aI,bQ,bF,aO,aK,ay,aX,aW,bU,bG,bH,bI,bV,bC,bJ,bn,eG,aH,aN,ah,ak,aB,aF,aC,aG];refine bf (λh=>hF λhh=> ?_) λh=> ?_
 ·have:=bne_iff_ne.1 h;omega
 ·have hnm:x.n=x.m:=by have:=bne_eq_false_iff_eq.1 h;omega
  refine⟨⟨0,⟨Nat.zero_le _,hnm,λk hk=>absurd hk (Nat.not_lt_zero k)⟩,rfl⟩,λs hs=>bf (λh=> ?_) λh=> ?_⟩
  ·have h:=aS h
   refine⟨⟨by omega,by omega⟩,by omega,⟨by omega,by omega⟩,by omega,bf (λhe=>hF λhh=> ?_) λhe=>⟨by unfold I64;omega,s+1,⟨by omega,hnm,λk hk=> ?_⟩,by omega,by omega⟩⟩
   ·have e:=hh.2 s (by omega)
    rw[e,beq_self_eq_true,beq_self_eq_true]at he;cases he
   ·by_cases e:k=s
    ·subst e
     rw[Bool.not_eq_false',aJ,Bool.and_true]at he;exact Prod.ext ((Ej _ _).1 he.1) ((Ej _ _).1 he.2)
    ·exact hs.2.2 k (by omega)
  ·have h:=aT h
   exact FQ.2 ⟨hnm,λi hi=>hs.2.2 i (by omega)⟩
theorem ajY:bZ Tryz.prog 75 SH:=dM dD mixed .nil auc 200 6 (λ_=>rfl) (λ_=>rfl) λx hx=>Eq.mp (Yr x) (NT x (aZ.1 hx))


structure ZSm where
 n:Nat
 m:Nat
 g:Nat->ByteArray
 h:Nat->ByteArray
noncomputable def ZSm.same(x:ZSm):Bool:=hide (@decide (x.n=x.m/\ ∀i,i<x.n->x.g i=x.h i) (Classical.propDecidable _))
theorem same_iff{x:ZSm}:x.same=true↔x.n=x.m/\ ∀i,i<x.n->x.g i=x.h i:=by unfold ZSm.same;rw[gW];exact @decide_eq_true_iff _ (Classical.propDecidable _)
def rowT(n:Nat)(g:Nat->ByteArray):dB:= .ro (.row 1 n (λi=>[.string (g i)]) [])
noncomputable def ajZ:Ctr:=det ZSm (λx=>[.slR 0 0 1 x.n,.slR 1 0 1 x.m]) 2 (λx=>[rowT x.n x.g,rowT x.m x.h]) (λx=>Hd (x.n<1099511627776)) (λx=>boo x.same) 2 (λx=>[rowT x.n x.g,rowT x.m x.h])
def aud(x:ZSm):FuncId->pX:=λf=>bif Nat.beq f 31 then(λb _ _=>bif Nat.beq b 0 then [
 {σ:=Nat,fr:=λi=>[(5,i64 i)],ob:=λ_=>[],inv:=λi=>Hd (i<=x.n/\x.n=x.m/\ ∀k,k<i->x.g k=x.h k),meas:=λi=>x.n-i}]else [])elseλ_ _ _=>[]
def aaJ(a:ZSm):Prop:=Cs.row 1 a.m (λ(i:Nat)=>[Value.string (a.h i)]) (@List.nil (Prod Nat (List Value)))=Cs.row 1 a.m (λ(i:Nat)=>[Value.string (a.h i)]) (@List.nil (Prod Nat (List Value)))
def aaK(a:ZSm):Prop:=Cs.row 1 a.n (λ(i:Nat)=>[Value.string (a.g i)]) (@List.nil (Prod Nat (List Value)))=Cs.row 1 a.n (λ(i:Nat)=>[Value.string (a.g i)]) (@List.nil (Prod Nat (List Value)))
def aaL(a:ZSm):Prop:=(aaK a/\true=true)/\(aaJ a/\true=true)/\True
def aaM(a:Nat)(b:ZSm):Prop:=Hd (a<=b.n/\b.n=b.m/\ ∀k:Nat,k<a->b.g k=b.h k)
def Yu(x:ZSm):Prop:=
 cP (bne (x.n:Int) (x.m:Int)) (∃y:Unit,True/\x.same=false/\aaL x) ((∃s:Nat,aaM s x/\True/\((s:Int)=0/\True)/\(aaJ x/\true=true)/\(aaK x/\true=true)/\True)/\(∀s:Nat,aaM s x->cP (decide ((s:Int)<(x.n:Int))) ((0<=(s:Int)/\(s:Int)<(x.n:Int))/\0+s<x.n/\(0<=(s:Int)/\(s:Int)<(x.m:Int))/\0+s<x.m/\cP (Bool.not (BEq.beq (ByteArray.toList (x.g (0+s))) (ByteArray.toList (x.h (0+s))))) (∃y:Unit,True/\x.same=false/\aaL x) (I64 ((s:Int)+1)/\ ∃s_1:Nat,aaM s_1 x/\x.n-s_1<x.n-s/\((s_1:Int)=(s:Int)+1/\True)/\(aaJ x/\true=true)/\(aaK x/\true=true)/\True)) (∃y:Unit,True/\x.same=true/\aaL x))/\True)
theorem adM(x:ZSm):Yu x=wpF Tryz.prog [] tt (aud x) 200 6 31 (ajZ.args x) (hO 2 (ajZ.os x)) (λv h'=>eF 2 x v h' ajZ.outs):=by kernel_rfl
theorem SK(x:ZSm)(hx:x.n<1099511627776):Yu x:=by
 have hF: ¬(x.n=x.m/\ ∀i,i<x.n->x.g i=x.h i)->x.same=false:=λh=>by
  cases hs:x.same with
  |true=>exact absurd (same_iff.1 hs) h
  |false=>rfl
 unfold Yu;simp only[aaL,aaM,aaJ,aaK];simp only[aZ,aV,aU,aA,aI,bQ,bF,aO,aK,ay,aX,aW,bU,bG,bH,bI,bV,bC,bJ,bn,eG,aH,aN,ah,ak,aB,aF,aC,aG];refine bf (λh=>hF λhh=> ?_) λh=> ?_
 ·have:=bne_iff_ne.1 h;omega
 ·have hnm:x.n=x.m:=by have:=bne_eq_false_iff_eq.1 h;omega
  refine⟨⟨0,⟨Nat.zero_le _,hnm,λk hk=>absurd hk (Nat.not_lt_zero k)⟩,rfl⟩,λs hs=>bf (λh=> ?_) λh=> ?_⟩
  ·have h:=aS h
   refine⟨⟨by omega,by omega⟩,by omega,⟨by omega,by omega⟩,by omega,bf (λhe=>hF λhh=> ?_) λhe=>⟨by unfold I64;omega,s+1,⟨by omega,hnm,λk hk=> ?_⟩,by omega,by omega⟩⟩
   ·have:=(Ej _ _).2 (hh.2 s (by omega))
    rw[this]at he;cases he
   ·by_cases e:k=s
    ·subst e;exact(Ej _ _).1 (by simpa using he)
    ·exact hs.2.2 k (by omega)
  ·have h:=aT h
   exact same_iff.2 ⟨hnm,λi hi=>hs.2.2 i (by omega)⟩
theorem arN:bZ Tryz.prog 31 ajZ:=dM dD mixed .nil aud 200 6 (λ_=>rfl) (λ_=>rfl) λx hx=>Eq.mp (adM x) (SK x (aZ.1 hx))
noncomputable def arO:WTr:=λargs h K=>match args with
 |[.lit v,b]=>wpF Tryz.prog [] tt al7 200 6 31 [.lit v,b] h K
 |[a,.lit v]=>wpF Tryz.prog [] tt al7 200 6 31 [a,.lit v] h K
 |args=>ctrT ajZ args h K
theorem anQ(args:List AV)(h:Heap)(K:AV->Heap->Prop)(hq:arO args h K):Sp Tryz.prog 31 args h K:=by
 unfold arO at hq;split at hq
 ·exact qN dD mixed .nil _ _ _ _ _ _ _ hq
 ·exact qN dD mixed .nil _ _ _ _ _ _ _ hq
 ·exact bM arN _ _ _ hq
structure ZShM where
 a:ZSto
 B:ByteArray->ZBlk
def ZShM.q(x:ZShM):ZShP:=⟨x.a.d,x.a.l,x.a.L,x.B⟩
noncomputable def shelfM:jw:={X:=ZShM,args:=λ_=>[.ptr 0 0],k:=1,l:=λx=>[.m x.a.os],pre:=λx=>Hd x.q.ok,outs:=[
 {Y:=Bool,post:=λx z=>Hd (z=true->x.a.L=[]),ret:=λx z=> .agg [.slV z 1 2 x.a.L.length,gV],m:=2,l:=λx z=>[.m x.a.os,.o (Yl z x.a.L.length x.q.pr)]}]}
noncomputable def aj0:WTr:=λargs h K=>match args with
 |[.ptr i z]=>(bif isAbs (h.get i)then ctrT shelfM.ctr else ctrT shelfQ) [.ptr i z] h K
 |_=>False
noncomputable def aj1:Ctr:={X:=ZWp,args:=λx=>[.ptr 0 0,i64 x.t,ahD 2 x.key x.v],k:=1,os:=λx=>[.abs (ownM x.a.os)],pre:=λx=>Hd (x.ok/\goodP 2 x.key x.v=0/\ ∃i,i<x.a.p.n/\(x.a.p.cls i= -1\/ ¬x.a.p.full x.c i)),outs:=[
 {Y:=ZSto,post:=λx y=>Hd (∃B',PPut x ((x.a.r.put x.t x.a.r.now).put x.t 0) y B'),ret:=λx _=> .tup [acy 0 x.had ⟨#[]⟩ x.a.c.now,i64 (5+x.far+x.sp:Nat),boo true],m:=1,os:=λ_ y=>[.abs (ownM y.os)]}]}
noncomputable def aj2:Ctr:={X:=ZWp,args:=λx=>[.ptr 0 0,i64 x.t,ahD 2 x.key x.v],k:=1,os:=λx=>[.abs (ownM x.a.os)],pre:=λx=>Hd (x.ok/\goodP 2 x.key x.v=0/\ ∀i j,¬x.a.p.takes x.c i j),outs:=[
 {Y:=Unit,post:=λ_ _=>True,ret:=λx _=> .tup [acy 4 false ⟨#[]⟩ 0,i64 (4+x.far:Nat),boo true],m:=1,os:=λx _=>[.abs (ownM x.a2.os)]}]}
theorem adN:bZ Tryz.prog 35 aj1:=je λx hx=>by
 obtain⟨h0,h1,i,h2,h3⟩:=aZ.1 hx;refine⟨_,Af,rfl,x,aZ.2 h0,rfl,rfl,λv h' hh=> ?_⟩;rcases ajC hh with ⟨y,q,e1,e2⟩|⟨y,q,e1,e2⟩|⟨y,q,e1,e2⟩
 ·exact absurd h1 (aZ.1 q)
 ·have:=(aZ.1 q).2 i h2
  exact(h3.elim this.1 λh=>h this.2).elim
 ·exact eP ⟨y,aZ.2 (aZ.1 q).2,e1,e2⟩
theorem adO:bZ Tryz.prog 35 aj2:=je λx hx=>by
 obtain⟨h0,h1,h2⟩:=aZ.1 hx;refine⟨_,Af,rfl,x,aZ.2 h0,rfl,rfl,λv h' hh=> ?_⟩;rcases ajC hh with ⟨y,q,e1,e2⟩|⟨y,q,e1,e2⟩|⟨y,q,e1,e2⟩
 ·exact absurd h1 (aZ.1 q)
 ·exact eP ⟨(),trivial,e1,e2⟩
 ·obtain⟨_,B',P⟩:=aZ.1 q
  obtain⟨i,j,ht,_⟩:=P.pool;exact absurd ht (h2 i j)
noncomputable def aue:WTr:=λargs h K=>(bif Nat.ble h.next 4 then ctrT aj1 else ctrT aj2) args h K
theorem anR(args:List AV)(h:Heap)(K:AV->Heap->Prop)(hq:aue args h K):Sp Tryz.prog 35 args h K:=
 ZX (P:=Tryz.prog) (f:=35) _ (bM adN) (bM adO) _ _ _ hq
structure ZSpP where
 v:ByteArray
 small:Bool
noncomputable def tblSpP:jd:=[(13,ctrT ada.ctr),(35,aue),(32,ctrT CG),(27,ctrT (GH 4).ctr),(43,ctrT D6.ctr),(30,aj0),(75,ctrT SH),(31,arO),(39,arM),(40,ctrT SB.ctr)]
def FV:Prop:=True/\true=false/\True
def NU(a:ZShP)(b:ZSto):Prop:=(0=0/\True/\True/\True/\True/\0=0/\True/\0=0/\True/\True/\True/\True)/\(0=0/\True/\True/\True/\True)/\ownM a.d.os=ownM b.d.os/\tabA a.L=tabA b.L/\ownM a.l.os=ownM b.l.os/\True
def aj3(a0:ZWp)(b:ZShM)(c:Bool):Prop:=(ownM a0.a.os=ownM b.a.os/\True)/\ ∀y_4:Unit,True-> ∃x_6:ZSto,Hd True/\(0=0/\True)/\(ownM x_6.os=ownM a0.a2.os/\True)/\ ∀y_5:Unit,True-> ∃x_7:ZRdT,Hd (x_7.r.ok/\x_7.k<x_7.r.t)/\(0=0/\(x_7.k:Int)=0/\True)/\(ownM x_7.r.os=ownM x_6.r.os/\True)/\ ∀y_6:Unit,True-> ∃x_8:ZShP,Hd x_8.ok/\(0=0/\True)/\NU x_8 x_6/\ ∀y_7:Bool,Hd (y_7=true->x_8.L= @List.nil ZLnk)->(AV.agg [AV.slV c 3 2 (List.length b.a.L),AV.lit (Value.slice none 0 0)]=AV.agg [AV.slV c 3 2 (List.length b.a.L),AV.lit (Value.slice none 0 0)]/\True)/\ ∃x_9:ZSq,Hd (x_9.n<1099511627776)/\((x_9.y=y_7/\x_9.n=List.length x_8.L)/\(x_9.z=c/\x_9.m=List.length b.a.L)/\True)/\((x_9.y=y_7/\x_9.n=List.length x_8.L/\ ∀q:Nat,q<x_9.n->[Value.string (@Prod.fst ByteArray ByteArray (x_9.g q)),Value.string (@Prod.snd ByteArray ByteArray (x_9.g q))]=[Value.string (ZLnk.key (nthL x_8.L q)),Value.string (ZBlk.value (x_8.B (ZLnk.key (nthL x_8.L q))))])/\(x_9.z=c/\x_9.m=List.length b.a.L/\ ∀q:Nat,q<x_9.m->[Value.string (@Prod.fst ByteArray ByteArray (x_9.h q)),Value.string (@Prod.snd ByteArray ByteArray (x_9.h q))]=[Value.string (ZLnk.key (nthL b.a.L q)),Value.string (ZBlk.value (b.B (ZLnk.key (nthL b.a.L q))))])/\True)/\ ∀y_8:Unit,True->cP x_9.same (True/\cP (BEq.beq ((List.length b.a.L:Nat):Int) (2:Int)) (True/\ ∃x_10:ZPool,Hd x_10.ok/\(0=0/\True)/\(ownM x_10.osW=ownM x_6.p.os/\True)/\ ∀y_9:Prod Bool (∀a:Nat,List Value),Hd (y_9.1=true->x_10.cntI x_10.n=0)->True/\cP (BEq.beq ((x_10.cntI x_10.n:Nat):Int) (2:Int)) (cP (Bool.not (decide (x_7.r.has x_7.k≠(0:Int)))) (∃x_11:Unit,True/\True/\True/\ ∀y_10:Unit,True->True/\true=true/\
 True) FV) FV) (True/\True/\FV)) (True/\True/\True/\FV)
def NV:Prop:=Value.slice none 0 0=Value.slice none 0 0/\True
def aj6:Prop:=ByteArray.mk #[]=ByteArray.mk #[]/\NV
def NW(a:ByteArray)(b:ByteArray):Prop:=a=b/\aj6
def Yv(a:ZWp):Prop:=Hd (a.ok/\goodP (2:Int) a.key a.v=0/\ ∃i:Nat,i<a.a.p.n/\(a.a.p.cls i=(-(1:Int))\/Not (a.a.p.full a.c i)))
def Yw(a:ZWp):Prop:=Hd (a.ok/\goodP (2:Int) a.key a.v=0/\ ∀i:Nat,∀j:Nat,Not (a.a.p.takes a.c i j))
def Yx:Prop:= ∃x_1:Unit,True/\True/\True/\ ∀y:Unit,True->true=true/\True
def shelfMVC(x:ZShM):Prop:=
 ∃x_1:ZShP,Hd x_1.ok/\(0=0/\True)/\NU x_1 x.a/\ ∀y:Bool,Hd (y=true->x_1.L= @List.nil ZLnk)-> ∃y_1:Bool,Hd (y_1=true->x.a.L= @List.nil ZLnk)/\((y_1=y/\List.length x.a.L=List.length x_1.L)/\NV)/\(0=0/\0=0/\0=0/\0=0/\0=0/\0=0/\0=0/\0=0/\x.a.id=x.a.id/\x.a.ver=x.a.ver/\(Nat.beq x.a.n 0=Nat.beq x.a.n 0/\x.a.n=x.a.n)/\True)/\(y_1=y/\List.length x.a.L=List.length x_1.L/\ ∀q:Nat,q<List.length x.a.L->[Value.string (ZLnk.key (nthL x.a.L q)),Value.string (ZBlk.value (x.B (ZLnk.key (nthL x.a.L q))))]=[Value.string (ZLnk.key (nthL x_1.L q)),Value.string (ZBlk.value (x_1.B (ZLnk.key (nthL x_1.L q))))])/\(0=0/\(1:Int)=1/\(0:Int)=0/\(0:Int)=0/\True)/\ownM x.a.d.os=ownM x_1.d.os/\ownM x.a.p.os=ownM x.a.p.os/\ownM x.a.r.os=ownM x.a.r.os/\ownM x.a.ck.os=ownM x.a.ck.os/\ownM x.a.b.os=ownM x.a.b.os/\tabA x.a.L=tabA x_1.L/\ordA x.a.L=ordA x.a.L/\ownM x.a.l.os=ownM x_1.l.os/\(Nat.beq x.a.n 0=Nat.beq x.a.n 0/\x.a.n=x.a.n/\ ∀q:Nat,q<x.a.n->[Value.int .i64 (ZEff.kind (x.a.e q)),Value.string (ZEff.key (x.a.e q)),Value.string (ZEff.value (x.a.e q)),Value.int .u64 (ZEff.id (x.a.e q)),Value.int .u64 (ZEff.ver (x.a.e q)),Value.int .u64 (ZEff.epoch (x.a.e q)),Value.int .i64 (ZEff.group (x.a.e q))]=[Value.int .i64 (ZEff.kind (x.a.e q)),Value.string (ZEff.key (x.a.e q)),Value.string (ZEff.value (x.a.e q)),Value.int .u64 (ZEff.id (x.a.e q)),Value.int .u64 (ZEff.ver (x.a.e q)),Value.int .u64 (ZEff.epoch (x.a.e q)),Value.int .i64 (ZEff.group (x.a.e q))])/\True
theorem shelfMVC_ok(x:ZShM):shelfMVC x=ctrT shelfQ (shelfM.args x) (hO 11 (flatP 1 (shelfM.l x))) (λv h'=>endsPK 1 x v h' shelfM.outs):=by kernel_rfl
def pSpaceVC(x:ZSpP):Prop:=
 cP (decide ((x.v.size:Int)>(400:Int))) Yx (cP (decide ((x.v.size:Int)<300)) Yx (∃x_1:ZNew,Hd (10<=x_1.n/\x_1.n<=258/\1<=x_1.t/\x_1.t<=4)/\((x_1.n:Int)=18/\(x_1.t:Int)=1/\True)/\True/\ ∀y:DevM,Hd (y.ok/\y.n=x_1.n/\y.st=2/\y.fl=2/\y.fe=1)-> ∃x_2:ZWp,Yv x_2/\(0=0/\(x_2.t:Int)=0/\((2:Int)=2/\x_2.key= @ByteArray.mk (@List.toArray UInt8 [(97:UInt8)])/\NW x_2.v x.v)/\True)/\(ownM x_2.a.os=ownM (ZSto.os (newSto x_1.n x_1.t y))/\True)/\ ∀y_1:ZSto,Hd (∃B': ∀a:ByteArray,ZBlk,PPut x_2 (ZRd.put (x_2.a.r.put x_2.t x_2.a.r.now) x_2.t (0:Int)) y_1 B')-> ∃x_3:ZWp,Yv x_3/\(0=0/\(x_3.t:Int)=0/\((2:Int)=2/\x_3.key= @ByteArray.mk (@List.toArray UInt8 [(98:UInt8)])/\NW x_3.v x.v)/\True)/\(ownM x_3.a.os=ownM y_1.os/\True)/\ ∀y_2:ZSto,Hd (∃B': ∀a:ByteArray,ZBlk,PPut x_3 (ZRd.put (x_3.a.r.put x_3.t x_3.a.r.now) x_3.t (0:Int)) y_2 B')-> ∃x_4:ZShM,Hd x_4.q.ok/\(0=0/\True)/\(ownM x_4.a.os=ownM y_2.os/\True)/\ ∀y_3:Bool,Hd (y_3=true->x_4.a.L= @List.nil ZLnk)->cP x.small (∃x_5:ZWp,Yw x_5/\(0=0/\(x_5.t:Int)=0/\((2:Int)=2/\x_5.key= @ByteArray.mk (@List.toArray UInt8 [(97:UInt8)])/\x_5.v= @ByteArray.mk (@List.toArray UInt8 [(49:UInt8)])/\aj6)/\True)/\aj3 x_5 x_4 y_3) (∃x_5:ZWp,Yw x_5/\(0=0/\(x_5.t:Int)=0/\((2:Int)=2/\x_5.key= @ByteArray.mk (@List.toArray UInt8 [(99:UInt8)])/\NW x_5.v x.v)/\True)/\aj3 x_5 x_4 y_3)))
theorem pSpaceVC_ok(x:ZSpP):pSpaceVC x=wpF Tryz.prog tblSpP tt (noA x) 200 6 8 [.lit (.string x.v),boo x.small] (hO 0 []) (λv h'=>endP 0 (boo true) [] v h'):=by kernel_rfl
theorem NY(x:ZShM)(hx:x.q.ok):shelfMVC x:=by
 unfold shelfMVC;simp only[NU,NV];simp only[aZ,aV,aU,aA,aI,bQ,bF,aO,aK,ay,aX,aW,bU,bG,bH,bI,bV,bC,bJ,bn,eG,aH,aN,ah,ak,aB,aF,aC,aG];exact⟨x.q,hx,⟨rfl,rfl,rfl⟩,λy hy=>⟨y,hy,⟨rfl,rfl⟩,⟨rfl,rfl,λ_ _=>rfl⟩,rfl,rfl,rfl⟩⟩
theorem adP:bZ Tryz.prog 30 shelfM.ctr:=pG (bM SI) 11 (λ_=>⟨rfl,rfl,rfl,rfl⟩) λx hx=>Eq.mp (shelfMVC_ok x) (NY x (aZ.1 hx))
theorem aj7(args:List AV)(h:Heap)(K:AV->Heap->Prop)(hq:aj0 args h K):Sp Tryz.prog 30 args h K:=by
 unfold aj0 at hq;split at hq
 ·exact ZX (P:=Tryz.prog) (f:=30) _ (bM adP) (bM SI) _ _ _ hq
 ·exact hq.elim
theorem aj8:dX Tryz.prog tblSpP:= .cons (bM aiA) (.cons anR (.cons (bM adK) (.cons (bM ajS) (.cons (bM agz) (.cons aj7 (.cons (bM ajY) (.cons anQ (.cons anP (.cons (bM ajQ) .nil)))))))))
def vW:ZPool:=((eX 2 2).take 3 0 0).take 3 1 0
theorem anS(hp:vW.good){c:Int}{i j:Nat}(h:vW.takes c i j):False:=by
 obtain⟨h1,h2,h3,h4⟩:=kJ hp h;have h1:i<2:=h1;have e:i=0\/i=1:=by omega
 have hc:c=3:=by
  rcases e with rfl|rfl
  ·rcases h4 with h4|h4
   ·exact h4.symm
   ·exact absurd (show(3:Int)= -1 from h4) (by decide)
  ·rcases h4 with h4|h4
   ·exact h4.symm
   ·exact absurd (show(3:Int)= -1 from h4) (by decide)
 subst hc;have h2:j<1:=h2;obtain rfl:j=0:=by omega
 rcases e with rfl|rfl
 ·exact absurd (show true=false from h3) (by decide)
 ·exact absurd (show true=false from h3) (by decide)
theorem aj9(hp:((eX 2 2).take 3 0 0).good){i j:Nat}(h:((eX 2 2).take 3 0 0).takes 3 i j):i=1/\j=0:=by
 obtain⟨h1,h2,h3,h4⟩:=kJ hp h;have h1:i<2:=h1;have h2:j<1:=h2;obtain rfl:j=0:=by omega
 have e:i=0\/i=1:=by omega
 rcases e with rfl|rfl
 ·exact absurd (show true=false from h3) (by decide)
 ·exact⟨rfl,rfl⟩
theorem arP:vW.cntI 2=2:=by
 have m0:vW.Ag 0=1:=by
  show(if spn 3=0 then 0 else(8/spn 3).toNat)=1;decide
 have m1:vW.Ag 1=1:=by
  show(if spn 3=0 then 0 else(8/spn 3).toNat)=1;decide
 unfold ZPool.cntI ZPool.cntI ZPool.cntI;rw[m0,m1];rfl
theorem fA.shq{a:ZSto}{T M N:Nat}{B:ByteArray->ZBlk}(g:fA a T M N B)(hN:N<=258):(ZShM.mk a B).q.ok:=⟨g.dok,g.lok,g.ln,Nat.le_trans g.len hN,λy hy=>by
 obtain⟨ln,q1,k1,k2,k3,k4,q2,_⟩:=g.q y hy
 exact⟨ln,q1,k1,k2,k3,k4,q2⟩⟩
set_option maxRecDepth 20000 in
theorem NZ(x:ZSpP):pSpaceVC x:=by
 unfold pSpaceVC;simp only[Yx,Yv,NW,Yw,aj6,aj3,NU,FV,NV];simp only[aZ,aV,aU,aA,aI,bQ,bF,aO,aK,ay,aX,aW,bU,bG,bH,bI,bV,bC,bJ,bn,eG,aH,aN,ah,ak,aB,aF,aC,aG];refine bf (λ_=>trivial) λh4=>bf (λ_=>trivial) λh3=> ?_
 have h4:x.v.size<=400:=by have:=aT h4;omega
 have h3:300<=x.v.size:=by
  have h3: ¬((x.v.size:Nat):Int)<300:=aT h3;omega
 have c3:ned ((1+x.v.size:Nat):Int)=3:=by
  unfold ned;rw[if_neg (by omega),if_neg (by omega),if_neg (by omega),if_neg (by omega),if_pos (by omega)]
 have g2: ∀(k:ByteArray),k.size=1->goodP 2 k x.v=0:=λk hk=>by
  unfold goodP;rw[if_neg (by omega),if_neg (by omega)]
 refine⟨⟨18,1⟩,by decide,⟨rfl,rfl⟩,λd hd=> ?_⟩;let X1:ZWp:=⟨newSto 18 1 d,1,10,0,λ_=>zBk,0,⟨#[97]⟩,x.v⟩
 refine⟨X1,⟨⟨fA.new hd (by decide) (by decide) _,by show 0<1;decide,rfl,by show 10<=900000;decide,by show 0<=100;decide⟩,g2 _ rfl,0,by show 0<2;decide,.inl rfl⟩,⟨rfl,rfl,rfl⟩,rfl,λa1 h=> ?_⟩;obtain⟨B1,P1⟩:=h;have e1:X1.c=3:=c3;have p1:a1.p=(eX 2 2).take 3 0 0:=by
  obtain⟨i,j,ht,e⟩:=P1.pool;rw[e1]at ht e;obtain⟨rfl,rfl⟩:=SA (n:=2) (by decide) ht;exact e
 obtain⟨l1,hl1,k1⟩:=P1.L;have L1:a1.L=[l1]:=hl1;have k1:l1.key=⟨#[97]⟩:=k1;let X2:ZWp:=⟨a1,1,410,1,B1,0,⟨#[98]⟩,x.v⟩
 have e2:X2.c=3:=c3;refine⟨X2,⟨⟨P1.base,by show 0<1;decide,by show a1.r.has 0=0;rw[P1.r];rfl,by show 410<=900000;decide,by show 1<=100;decide⟩,g2 _ rfl,1,by show 1<a1.p.n;rw[p1];decide,.inl (by show a1.p.cls 1= -1;rw[p1];rfl)⟩,⟨rfl,rfl,rfl⟩,rfl,λa2 h=> ?_⟩;obtain⟨B2,P2⟩:=h;have p2:a2.p=vW:=by
  obtain⟨i,j,ht,e⟩:=P2.pool;rw[e2]at ht e;have ht:a1.p.takes 3 i j:=ht;have e:a2.p=a1.p.take 3 i j:=e;rw[p1]at ht e;obtain⟨rfl,rfl⟩:=aj9 (by rw[<-p1];exact P1.base.pg) ht;exact e
 obtain⟨l2,hl2,k2⟩:=P2.L;have k2:l2.key=⟨#[98]⟩:=k2;have L2:a2.L=[l1,l2]:=by
  rw[hl2];show jg a1.L l2=_;rw[L1];unfold jg;rw[if_neg (by rw[k1,k2];decide),if_neg (by rw[k1,k2,(atJ [98] [97]).trans (by decide:decide (([98]:List UInt8)<[97])=false)];decide)];rfl
 have N7:fA a2 1 810 2 B2:=P2.base;have no: ∀c i j,¬a2.p.takes c i j:=λc i j h=>by
  rw[p2]at h;exact anS (by rw[<-p2];exact N7.pg) h
 have ok5: ∀k v:ByteArray,(ZWp.mk a2 1 810 2 B2 0 k v).ok:=λk v=>⟨N7,by show 0<1;decide,by show a2.r.has 0=0;rw[P2.r];rfl,by show 810<=900000;decide,by show 2<=100;decide⟩
 have rt:0<a2.r.t:=by rw[N7.rt];decide
 refine⟨⟨a2,B2⟩,N7.shq (by decide),rfl,λz3 hz3=>bf (λ_=>⟨⟨a2,1,810,2,B2,0,⟨#[97]⟩,⟨#[49]⟩⟩,⟨ok5 _ _,rfl,λi j h=>no _ _ _ h⟩,⟨rfl,rfl,rfl⟩,rfl,(ZWp.mk a2 1 810 2 B2 0 ⟨#[97]⟩ ⟨#[49]⟩).a2,rfl,⟨(ZWp.mk a2 1 810 2 B2 0 ⟨#[97]⟩ ⟨#[49]⟩).a2.r,0⟩,⟨N7.rok,rt⟩,rfl,rfl,⟨a2.d,a2.l,a2.L,B2⟩,N7.shq (by decide),⟨rfl,rfl,rfl⟩,λz7 hz7=> ?_⟩) λ_=>⟨⟨a2,1,810,2,B2,0,⟨#[99]⟩,x.v⟩,⟨ok5 _ _,g2 _ rfl,λi j h=>no _ _ _ h⟩,⟨rfl,rfl,rfl⟩,rfl,(ZWp.mk a2 1 810 2 B2 0 ⟨#[99]⟩ x.v).a2,rfl,⟨(ZWp.mk a2 1 810 2 B2 0 ⟨#[99]⟩ x.v).a2.r,0⟩,⟨N7.rok,rt⟩,rfl,rfl,⟨a2.d,a2.l,a2.L,B2⟩,N7.shq (by decide),⟨rfl,rfl,rfl⟩,λz7 hz7=> ?_⟩⟩
 all_goals
  refine⟨⟨z7,z3,a2.L.length,a2.L.length,(ZShM.mk a2 B2).q.pr,(ZShM.mk a2 B2).q.pr⟩,by show a2.L.length<_;rw[L2];show(2:Nat)<_;decide,⟨⟨rfl,rfl⟩,rfl,rfl⟩,⟨⟨rfl,rfl,λ_ _=>rfl⟩,rfl,rfl,λ_ _=>rfl⟩,bf (λ_=>bf (λ_=>⟨a2.p,N7.pg.1,(ame _).symm,λ_ _=>bf (λ_=>bf (λ_=>trivial) λe=> ?_) λe=> ?_⟩) λe=> ?_) λe=> ?_⟩
  ·exact Bool.noConfusion (show true=false from e)
  ·have e:(((a2.p.cntI a2.p.n:Nat):Int)==2)=false:=e
   rw[p2,show vW.n=2 from rfl,arP]at e;cases e
  ·have e:(((a2.L.length:Nat):Int)==2)=false:=e
   rw[L2]at e;cases e
  ·exact absurd (FQ.2 ⟨rfl,λ_ _=>rfl⟩) (by rw[e];decide)
theorem akb(x:ZSpP):Sp Tryz.prog 8 [.lit (.string x.v),boo x.small] (hO 0 []) (λv _=>v=boo true):=
 (asL dD mixed aj8 (noA x) 200 6 (v0:=boo true) (os:=[]) (Eq.mp (pSpaceVC_ok x) (NZ x))).mono λ_ _ hh=>hh.1
end Go.Proofs.YtenfleoejgjklaaGreat
end
