import Derived.Test.YtenfleoejgjklaaGreatOa
import Derived.Test.YtenfleoejgjklaaGreatOb
import Derived.Test.YtenfleoejgjklaaGreatOc
import Derived.Test.YtenfleoejgjklaaGreatOd
import Derived.Test.YtenfleoejgjklaaGreatOe
import Derived.Test.YtenfleoejgjklaaGreatOf
import Derived.Test.YtenfleoejgjklaaGreatOg
import Derived.KernelRfl
set_option linter.unusedVariables false
set_option linter.unusedSimpArgs false
set_option linter.unnecessarySimpa false
section
namespace Go.Proofs.YtenfleoejgjklaaGreat
open Go SE
def qc(a:ZSto):Prop:=ownM a.b.os=ownM a.b.os/\tabA a.L=tabA a.L/\ordA a.L=ordA a.L/\ownM a.l.os=ownM a.l.os/\(Nat.beq a.n 0=Nat.beq a.n 0/\a.n=a.n/\ ∀q:Nat,q<a.n->[Value.int .i64 (ZEff.kind (a.e q)),Value.string (ZEff.key (a.e q)),Value.string (ZEff.value (a.e q)),Value.int .u64 (ZEff.id (a.e q)),Value.int .u64 (ZEff.ver (a.e q)),Value.int .u64 (ZEff.epoch (a.e q)),Value.int .i64 (ZEff.group (a.e q))]=[Value.int .i64 (ZEff.kind (a.e q)),Value.string (ZEff.key (a.e q)),Value.string (ZEff.value (a.e q)),Value.int .u64 (ZEff.id (a.e q)),Value.int .u64 (ZEff.ver (a.e q)),Value.int .u64 (ZEff.epoch (a.e q)),Value.int .i64 (ZEff.group (a.e q))])/\True
def dN:Prop:=Value.slice none 0 0=Value.slice none 0 0
def bP(a:Int):Prop:=a=a
def jl(a:ZSto):Prop:=0=0/\0=0/\0=0/\0=0/\0=0/\0=0/\0=0/\0=0/\bP a.id/\bP a.ver/\(Nat.beq a.n 0=Nat.beq a.n 0/\a.n=a.n)/\True
def bZ(a:ByteArray):Prop:=a=a
def gW(a:ZFp):Prop:=a.found=a.found/\bZ a.ans/\dN/\dN/\bP a.aep/\True
def jm:Prop:=0=0/\(1:Int)=1/\(0:Int)=0/\(0:Int)=0/\True
def wJ(a:ZFp):Prop:=dN/\(0:Int)=0/\dN/\bP a.code/\gW a
def AQ(a:ZFp):Prop:=bZ a.pos/\a.past=a.past/\(0:Int)=0/\a.had=a.had/\bZ a.old.key/\bP a.old.id/\bP a.old.ver/\bP a.old.line/\bP a.old.cls/\bP a.line/\bP a.cls/\bP a.piece/\wJ a
def NI(a:ZPs):Prop:=bZ a.f.key/\bZ a.f.value/\bZ a.f.to/\dN/\(1:Int)=7/\a.a.c.now=a.f.epoch/\bZ a.f.pos/\a.f.past=a.f.past/\(0:Int)=0/\a.f.had=a.f.had/\bZ a.f.old.key/\bP a.f.old.id/\bP a.f.old.ver/\bP a.f.old.line/\bP a.f.old.cls/\bP a.f.line/\bP a.f.cls/\bP a.f.piece/\dN/\(0:Int)=0/\dN/\a.f.code=5/\gW a.f
def nM(a:ZPool):Prop:=ownM a.os=ownM a.os
def jo(a:DevM):Prop:=ownM a.os=ownM a.os
def AU(a:ZPs):Prop:=jl a.a/\jm/\jo a.a.d/\nM a.a.p/\ownM (ZRd.os (a.a.r.put a.t a.a.r.now))=ownM a.a.r.os/\ownM (ZCk.os (ZSto.ck (a.a.GN a.t a.a.r.now)))=ownM a.a.ck.os/\qc a.a
def Gg(a:ZFp):Prop:=Hd (goodP (2:Int) a.key a.value=0)
def Gh(a:ZFp):Prop:=Hd (goodP (2:Int) a.key a.value≠(0:Int))
def AX(a:ZSto):Prop:=ownM a.r.os=ownM a.r.os/\ownM a.ck.os=ownM a.ck.os/\qc a
def AY(a:ZSto):Prop:=jl a/\jm/\jo a.d/\nM a.p/\AX a
def Yu(a:ZPs):Prop:=True/\((∃y:Unit,Gh a.f/\((2:Int)=2/\bZ a.f.key/\bZ a.f.value/\bZ a.f.to/\dN/\(7:Int)=7/\bP a.f.epoch/\bZ a.f.pos/\a.f.past=a.f.past/\(0:Int)=0/\a.f.had=a.f.had/\bZ a.f.old.key/\bP a.f.old.id/\bP a.f.old.ver/\bP a.f.old.line/\bP a.f.old.cls/\bP a.f.line/\bP a.f.cls/\bP a.f.piece/\dN/\(0:Int)=0/\dN/\goodP (2:Int) a.f.key a.f.value=5/\gW a.f)/\AY a.a)\/ ∃y:Unit,Gg a.f/\((2:Int)=2/\NI a)/\AU a)
def Gi(a:ZFp):Prop:=dN/\(0:Int)=0/\dN/\a.code=1/\gW a
def NJ(a:ZPs):Prop:=bZ a.f.key/\bZ a.f.value/\bZ a.f.to/\dN/\(1:Int)=7/\a.a.c.now=a.f.epoch/\bZ a.f.pos/\a.f.past=a.f.past/\(0:Int)=0/\a.f.had=a.f.had/\bZ a.f.old.key/\bP a.f.old.id/\bP a.f.old.ver/\bP a.f.old.line/\bP a.f.old.cls/\bP a.f.line/\bP a.f.cls/\bP a.f.piece/\Gi a.f
def NK(a:ZPs):Prop:=bZ a.f.key/\bZ a.f.value/\bZ a.f.to/\dN/\(1:Int)=7/\a.a.c.now=a.f.epoch/\bZ a.f.pos/\a.f.past=a.f.past/\(0:Int)=0/\a.f.had=a.f.had/\bZ a.f.old.key/\bP a.f.old.id/\bP a.f.old.ver/\bP a.f.old.line/\bP a.f.old.cls/\bP a.f.line/\bP a.f.cls/\bP a.f.piece/\dN/\(0:Int)=0/\dN/\a.f.code=7/\gW a.f
def NM(a:ZPs)(b:ZRdT):Prop:=jl a.a/\jm/\jo a.a.d/\nM a.a.p/\ownM (ZRd.os (a.a.r.put a.t (0:Int)))=ownM (ZRd.os (b.r.put b.k (0:Int)))/\ownM (ZCk.os (ZSto.ck (a.a.GN a.t (0:Int))))=ownM a.a.ck.os/\qc a.a
def NP(a:ZPs)(b:ZRdT)(c:ZCk):Prop:=jl a.a/\jm/\jo a.a.d/\nM a.a.p/\ownM (ZRd.os (a.a.r.put a.t a.a.r.now))=ownM (ZRd.os (b.r.put b.k b.r.now))/\ownM (ZCk.os (ZSto.ck (a.a.GN a.t a.a.r.now)))=ownM c.os/\qc a.a
def Yv(a:ZSto)(b:ZPool):Prop:=jl a/\jm/\jo a.d/\ownM a.p.os=ownM b.os/\AX a
def NQ(a:ZPs)(b:ZRd):Prop:=jl a.a/\jm/\jo a.a.d/\nM a.a.p/\ownM (ZRd.os (a.a.r.put a.t a.a.r.now))=ownM b.os/\ownM (ZCk.os (ZSto.ck (a.a.GN a.t a.a.r.now)))=ownM a.a.ck.os/\qc a.a
def NR(a:ZSto)(b:ZRdT)(c:ZCk):Prop:=jl a/\jm/\jo a.d/\nM a.p/\ownM a.r.os=ownM (ZRd.os (b.r.put b.k b.r.now))/\ownM a.ck.os=ownM c.os/\qc a
def wL(a:ZPs):Prop:=a.nd (2:Int)=ned ((a.f.key.size:Int)+(a.f.value.size:Int))
def NS(a:ZSto)(b:ZRd):Prop:=jl a/\jm/\jo a.d/\nM a.p/\ownM a.r.os=ownM b.os/\ownM a.ck.os=ownM a.ck.os/\qc a
def Yw(a:ZPs)(b:Prod Nat Nat):Prop:=ownM a.a.r.os=ownM a.a.r.os/\ownM (ZCk.os (ZSto.ck (a.a.X7 (a.a.p.take (a.nd (2:Int)) b.1 b.2))))=ownM a.a.ck.os/\qc a.a
def NT(a:ZFp):Prop:=bZ a.key/\bZ a.value/\bZ a.to/\dN/\(7:Int)=7/\bP a.epoch/\AQ a
def NU(a:ZPs)(b:Int):Prop:=bZ a.f.key/\bZ a.f.value/\bZ a.f.to/\dN/\(1:Int)=1/\a.a.c.now=b/\AQ a.f
def Yx(a:ZPs)(b:Prod Nat Nat)(c:ZPool):Prop:=jl a.a/\jm/\jo a.a.d/\ownM (ZPool.os (a.a.p.take (a.nd (2:Int)) b.1 b.2))=ownM c.os/\Yw a b
def NV(a:ZPs):Prop:=Hd (∀i:Nat,i<a.a.p.n->a.a.p.cls i≠(-(1:Int))/\a.a.p.full (a.nd (2:Int)) i)
def ug(a:Nat)(b:Nat):Prop:=0=0/\(a:Int)=(b:Int)/\True
def Gj(a:ZFp):Prop:=Hd (goodP (1:Int) a.key a.value≠(0:Int))
def uh(a:ZRdT):Prop:=Hd (a.r.ok/\a.k<a.r.t)
def ajZ(a:lT):Prop:=Hd (spn a.c≠(0:Int)/\ ∀i:Nat,i<a.p.n->a.p.cls i≠(-(1:Int))/\a.p.full a.c i)
def Gl(a:ZFp):Prop:=Hd (goodP (1:Int) a.key a.value=0)
def aj0(x:ZPs):Prop:=
 ((0:Int)<=0/\(0:Int)<=6)/\cP (BEq.beq (ByteArray.toList x.f.key) (ByteArray.toList (ByteArray.mk #[]))) (True/\((∃y:Unit,Gj x.f/\((1:Int)=1/\bZ x.f.key/\bZ x.f.value/\bZ x.f.to/\dN/\(7:Int)=7/\bP x.f.epoch/\bZ x.f.pos/\x.f.past=x.f.past/\(0:Int)=0/\x.f.had=x.f.had/\bZ x.f.old.key/\bP x.f.old.id/\bP x.f.old.ver/\bP x.f.old.line/\bP x.f.old.cls/\bP x.f.line/\bP x.f.cls/\bP x.f.piece/\dN/\(0:Int)=0/\dN/\goodP (1:Int) x.f.key x.f.value=1/\gW x.f)/\AY x.a)\/ ∃y:Unit,Gl x.f/\((1:Int)=1/\NJ x)/\AU x)) (cP (decide ((x.f.key.size:Int)>(16:Int))) (True/\((∃y:Unit,Gj x.f/\((1:Int)=1/\bZ x.f.key/\bZ x.f.value/\bZ x.f.to/\dN/\(7:Int)=7/\bP x.f.epoch/\bZ x.f.pos/\x.f.past=x.f.past/\(0:Int)=0/\x.f.had=x.f.had/\bZ x.f.old.key/\bP x.f.old.id/\bP x.f.old.ver/\bP x.f.old.line/\bP x.f.old.cls/\bP x.f.line/\bP x.f.cls/\bP x.f.piece/\dN/\(0:Int)=0/\dN/\goodP (1:Int) x.f.key x.f.value=5/\gW x.f)/\AY x.a)\/ ∃y:Unit,Gl x.f/\((1:Int)=1/\NI x)/\AU x)) (∃x_1:ZRdT,uh x_1/\ug x_1.k x.t/\(ownM x_1.r.os=ownM x.a.r.os/\True)/\(∀y:Unit,Hd (x_1.r.has x_1.k=0)-> ∃x_2:ZCk,Hd (x_2.ph<=4/\x_2.c.ok)/\(0=0/\True)/\(ownM x_2.os=ownM x.a.ck.os/\True)/\ ∀y_1:Unit,True->True/\((∃y_2:Unit,Gj x.f/\((1:Int)=1/\bZ x.f.key/\bZ x.f.value/\bZ x.f.to/\dN/\(7:Int)=1/\x.f.epoch=x_2.c.now/\bZ x.f.pos/\x.f.past=x.f.past/\(0:Int)=0/\x.f.had=x.f.had/\
 bZ x.f.old.key/\bP x.f.old.id/\bP x.f.old.ver/\bP x.f.old.line/\bP x.f.old.cls/\bP x.f.line/\bP x.f.cls/\bP x.f.piece/\dN/\(0:Int)=0/\dN/\goodP (1:Int) x.f.key x.f.value=x.f.code/\gW x.f)/\NR x.a x_1 x_2)\/ ∃y_2:Unit,Gl x.f/\((1:Int)=1/\NU x x_2.c.now)/\NP x x_1 x_2))/\ ∀y:Unit,Hd (x_1.r.has x_1.k≠(0:Int))->True/\((∃y_1:Unit,Gj x.f/\((1:Int)=1/\bZ x.f.key/\bZ x.f.value/\bZ x.f.to/\dN/\(7:Int)=7/\bP x.f.epoch/\bZ x.f.pos/\x.f.past=x.f.past/\(0:Int)=0/\x.f.had=x.f.had/\bZ x.f.old.key/\bP x.f.old.id/\bP x.f.old.ver/\bP x.f.old.line/\bP x.f.old.cls/\bP x.f.line/\bP x.f.cls/\bP x.f.piece/\dN/\(0:Int)=0/\dN/\goodP (1:Int) x.f.key x.f.value=7/\gW x.f)/\NS x.a x_1.r)\/ ∃y_1:Unit,Gl x.f/\((1:Int)=1/\NK x)/\NQ x x_1.r)))
theorem aj1(x:ZPs):aj0 x=wpF Tryz.prog asy tt (noA x) 200 6 34 ((qG 1).args x) (hO 11 (flatP 1 ((qG 1).l x))) (λv h'=>endsPK 1 x v h' (qG 1).outs):=by kernel_rfl
def aj2(x:ZPs):Prop:=
 ((0:Int)<=0/\(0:Int)<=6)/\cP (BEq.beq (ByteArray.toList x.f.key) (ByteArray.toList (ByteArray.mk #[]))) (True/\((∃y:Unit,Gh x.f/\((2:Int)=2/\bZ x.f.key/\bZ x.f.value/\bZ x.f.to/\dN/\(7:Int)=7/\bP x.f.epoch/\bZ x.f.pos/\x.f.past=x.f.past/\(0:Int)=0/\x.f.had=x.f.had/\bZ x.f.old.key/\bP x.f.old.id/\bP x.f.old.ver/\bP x.f.old.line/\bP x.f.old.cls/\bP x.f.line/\bP x.f.cls/\bP x.f.piece/\dN/\(0:Int)=0/\dN/\goodP (2:Int) x.f.key x.f.value=1/\gW x.f)/\AY x.a)\/ ∃y:Unit,Gg x.f/\((2:Int)=2/\NJ x)/\AU x)) (cP (decide ((x.f.key.size:Int)>(16:Int))) (Yu x) (cP (decide ((x.f.value.size:Int)>(400:Int))) (Yu x) (∃x_1:ZRdT,uh x_1/\ug x_1.k x.t/\(ownM x_1.r.os=ownM x.a.r.os/\True)/\(∀y:Unit,Hd (x_1.r.has x_1.k=0)-> ∃x_2:ZCk,Hd (x_2.ph<=4/\x_2.c.ok)/\(0=0/\True)/\(ownM x_2.os=ownM x.a.ck.os/\True)/\ ∀y_1:Unit,True->True/\((∃y_2:Unit,Gh x.f/\((2:Int)=2/\bZ x.f.key/\bZ x.f.value/\bZ x.f.to/\dN/\(7:Int)=1/\x.f.epoch=x_2.c.now/\bZ x.f.pos/\x.f.past=x.f.past/\(0:Int)=0/\x.f.had=x.f.had/\bZ x.f.old.key/\bP x.f.old.id/\bP x.f.old.ver/\bP x.f.old.line/\bP x.f.old.cls/\bP x.f.line/\bP x.f.cls/\bP x.f.piece/\dN/\(0:Int)=0/\dN/\goodP (2:Int) x.f.key x.f.value=x.f.code/\gW x.f)/\NR x.a x_1 x_2)\/ ∃y_2:Unit,Gg x.f/\((2:Int)=2/\NU x x_2.c.now)/\NP x x_1 x_2))/\ ∀y:Unit,Hd (x_1.r.has x_1.k≠(0:Int))->True/\((∃y_1:Unit,Gh x.f/\((2:Int)=2/\bZ x.f.key/\
 bZ x.f.value/\bZ x.f.to/\dN/\(7:Int)=7/\bP x.f.epoch/\bZ x.f.pos/\x.f.past=x.f.past/\(0:Int)=0/\x.f.had=x.f.had/\bZ x.f.old.key/\bP x.f.old.id/\bP x.f.old.ver/\bP x.f.old.line/\bP x.f.old.cls/\bP x.f.line/\bP x.f.cls/\bP x.f.piece/\dN/\(0:Int)=0/\dN/\goodP (2:Int) x.f.key x.f.value=7/\gW x.f)/\NS x.a x_1.r)\/ ∃y_1:Unit,Gg x.f/\((2:Int)=2/\NK x)/\NQ x x_1.r))))
theorem aj3(x:ZPs):aj2 x=wpF Tryz.prog asy tt (noA x) 200 6 34 ((qG 2).args x) (hO 11 (flatP 1 ((qG 2).l x))) (λv h'=>endsPK 1 x v h' (qG 2).outs):=by kernel_rfl
def aj6(x:ZPs):Prop:=
 ((0:Int)<=3/\(0:Int)<=3)/\I64 ((x.f.key.size:Int)+(x.f.value.size:Int))/\(AV.ptr 0 0=AV.ptr 0 0/\True)/\ ∃x_1:lT,Hd x_1.p.ok/\(0=0/\x_1.c=ned ((x.f.key.size:Int)+(x.f.value.size:Int))/\True)/\(ownM x_1.p.os=ownM x.a.p.os/\True)/\(∀y:Unit,Hd (spn x_1.c=0)->True/\((∃y_1:Unit,NV x/\((2:Int)=2/\bZ x.f.key/\bZ x.f.value/\bZ x.f.to/\dN/\(6:Int)=6/\bP x.f.epoch/\bZ x.f.pos/\x.f.past=x.f.past/\(0:Int)=0/\x.f.had=x.f.had/\bZ x.f.old.key/\bP x.f.old.id/\bP x.f.old.ver/\bP x.f.old.line/\bP x.f.old.cls/\bP x.f.line/\wL x/\bP x.f.piece/\dN/\(0:Int)=0/\dN/\(4:Int)=1/\gW x.f)/\Yv x.a x_1.p)\/ ∃y_1:Prod Nat Nat,Hd (x.a.p.takes (x.nd (2:Int)) y_1.1 y_1.2)/\((2:Int)=2/\bZ x.f.key/\bZ x.f.value/\bZ x.f.to/\dN/\(4:Int)=6/\bP x.f.epoch/\bZ x.f.pos/\x.f.past=x.f.past/\(0:Int)=0/\x.f.had=x.f.had/\bZ x.f.old.key/\bP x.f.old.id/\bP x.f.old.ver/\bP x.f.old.line/\bP x.f.old.cls/\2+(y_1.1:Int)*8+(y_1.2:Int)*spn (x.nd (2:Int))=x.f.line/\wL x/\0=x.f.piece/\Gi x.f)/\Yx x y_1 x_1.p))/\(∀y:Unit,ajZ x_1->True/\((∃y_1:Unit,NV x/\((2:Int)=2/\bZ x.f.key/\bZ x.f.value/\bZ x.f.to/\dN/\(6:Int)=6/\bP x.f.epoch/\bZ x.f.pos/\x.f.past=x.f.past/\(0:Int)=0/\x.f.had=x.f.had/\bZ x.f.old.key/\bP x.f.old.id/\bP x.f.old.ver/\bP x.f.old.line/\bP x.f.old.cls/\bP x.f.line/\wL x/\bP x.f.piece/\dN/\(0:Int)=0/\dN/\(4:Int)=4/\gW x.f)/\
 Yv x.a x_1.p)\/ ∃y_1:Prod Nat Nat,Hd (x.a.p.takes (x.nd (2:Int)) y_1.1 y_1.2)/\((2:Int)=2/\bZ x.f.key/\bZ x.f.value/\bZ x.f.to/\dN/\(4:Int)=6/\bP x.f.epoch/\bZ x.f.pos/\x.f.past=x.f.past/\(0:Int)=0/\x.f.had=x.f.had/\bZ x.f.old.key/\bP x.f.old.id/\bP x.f.old.ver/\bP x.f.old.line/\bP x.f.old.cls/\2+(y_1.1:Int)*8+(y_1.2:Int)*spn (x.nd (2:Int))=x.f.line/\wL x/\0=x.f.piece/\dN/\(0:Int)=0/\dN/\x.f.code=4/\gW x.f)/\Yx x y_1 x_1.p))/\ ∀y:Prod Nat Nat,Hd (spn x_1.c≠(0:Int)/\x_1.p.takes x_1.c y.1 y.2)->True/\((∃y_1:Unit,NV x/\((2:Int)=2/\bZ x.f.key/\bZ x.f.value/\bZ x.f.to/\dN/\(6:Int)=4/\bP x.f.epoch/\bZ x.f.pos/\x.f.past=x.f.past/\(0:Int)=0/\x.f.had=x.f.had/\bZ x.f.old.key/\bP x.f.old.id/\bP x.f.old.ver/\bP x.f.old.line/\bP x.f.old.cls/\x.f.line=2+(y.1:Int)*8+(y.2:Int)*spn x_1.c/\wL x/\x.f.piece=0/\dN/\(0:Int)=0/\dN/\4=x.f.code/\gW x.f)/\jl x.a/\jm/\jo x.a.d/\ownM x.a.p.os=ownM (ZPool.os (x_1.p.take x_1.c y.1 y.2))/\AX x.a)\/ ∃y_1:Prod Nat Nat,Hd (x.a.p.takes (x.nd (2:Int)) y_1.1 y_1.2)/\((2:Int)=2/\bZ x.f.key/\bZ x.f.value/\bZ x.f.to/\dN/\(4:Int)=4/\bP x.f.epoch/\bZ x.f.pos/\x.f.past=x.f.past/\(0:Int)=0/\x.f.had=x.f.had/\bZ x.f.old.key/\bP x.f.old.id/\bP x.f.old.ver/\bP x.f.old.line/\bP x.f.old.cls/\2+(y_1.1:Int)*8+(y_1.2:Int)*spn (x.nd (2:Int))=2+(y.1:Int)*8+(y.2:Int)*spn x_1.c/\wL x/\(0:Int)=0/\wJ x.f)/\
 jl x.a/\jm/\jo x.a.d/\ownM (ZPool.os (x.a.p.take (x.nd (2:Int)) y_1.1 y_1.2))=ownM (ZPool.os (x_1.p.take x_1.c y.1 y.2))/\Yw x y_1)
theorem aj7(x:ZPs):aj6 x=wpF Tryz.prog auV tt (noA x) 200 6 34 ((TB 2).args x) (hO 11 (flatP 1 ((TB 2).l x))) (λv h'=>endsPK 1 x v h' (TB 2).outs):=by kernel_rfl
def aj8(x:ZPs):Prop:=
 ((0:Int)<=6/\(0:Int)<=0)/\ ∃x_1:ZRdT,uh x_1/\ug x_1.k x.t/\(ownM x_1.r.os=ownM x.a.r.os/\True)/\ ∀y:Unit,True->True/\ ∃y_1:Unit,True/\((1:Int)=1/\NT x.f)/\NM x x_1
theorem aj9(x:ZPs):aj8 x=wpF Tryz.prog arJ tt (noA x) 200 6 34 ((qH 1).args x) (hO 11 (flatP 1 ((qH 1).l x))) (λv h'=>endsPK 1 x v h' (qH 1).outs):=by kernel_rfl
def akb(x:ZPs):Prop:=
 ((0:Int)<=6/\(0:Int)<=0)/\ ∃x_1:ZRdT,uh x_1/\ug x_1.k x.t/\(ownM x_1.r.os=ownM x.a.r.os/\True)/\ ∀y:Unit,True->True/\ ∃y_1:Unit,True/\((2:Int)=2/\NT x.f)/\NM x x_1
theorem akc(x:ZPs):akb x=wpF Tryz.prog arJ tt (noA x) 200 6 34 ((qH 2).args x) (hO 11 (flatP 1 ((qH 2).l x))) (λv h'=>endsPK 1 x v h' (qH 2).outs):=by kernel_rfl
theorem akd(k:ByteArray):(k.toList==(ByteArray.mk #[]).toList)=decide (k.size=0):=by
 rw[iG,iG];have hs:k.data.toList.length=k.size:=by simp
 cases h:k.data.toList with
 |nil=>rw[h]at hs;rw[decide_eq_true (by rw[<-hs];rfl)];rfl
 |cons a l=>rw[h]at hs;rw[decide_eq_false (by rw[<-hs];simp)];rfl
theorem apD{k:Int}{key v:ByteArray}(h:key.size=0):goodP k key v=1:=if_pos h
theorem ake{k:Int}{key v:ByteArray}(h0:key.size≠0)(h:16<key.size\/k=2/\400<v.size):goodP k key v=5:=by unfold goodP;rw[if_neg h0,if_pos h]
theorem akf{k:Int}{key v:ByteArray}(h0:key.size≠0)(h: ¬(16<key.size\/k=2/\400<v.size)):goodP k key v=0:=by unfold goodP;rw[if_neg h0,if_neg h]
theorem y7{k:Int}{key v:ByteArray}(h:goodP k key v=0):key.size≠0/\key.size<=16/\(k=2->v.size<=400):=by
 unfold goodP at h;split at h
 ·cases h
 ·split at h
  ·cases h
  ·rename_i h0 h1
   exact⟨h0,by omega,λhk=>by omega⟩
theorem Yy(x:ZPs)(hx:x.a.r.ok/\x.a.c.ok/\x.a.ph<=4/\x.t<x.a.r.t/\x.a.r.has x.t=0):aj0 x:=by
 obtain⟨h1,h2,h3,h4,h5⟩:=hx;unfold aj0;simp only[Gj,bZ,dN,bP,gW,AY,Gl,NJ,AU,NI,uh,ug,NR,NU,NP,NS,NK,NQ,jl,jm,jo,nM,qc,AQ,wJ,Gi,AX];simp only[aZ,aV,aU,aA,aI,bQ,bF,aO,aK,ay,aX,aW,bT,bG,bH,bI,bU,bC,bJ,bn,eH,aH,aN,ah,ak,aB,aF,aC,aG,akd];refine⟨by decide,bf (λh=> .inl ?_) λh=>bf (λhs=> .inl ?_) λhs=> ?_⟩
 ·have h:=aS h
  rw[apD h];exact⟨by decide,rfl⟩
 ·have h:=aT h
  have hs:=aS hs;rw[ake h (.inl (by omega))];exact⟨by decide,rfl⟩
 ·have h:=aT h
  have hs:=aT hs
  skip
  have hg:goodP 1 x.f.key x.f.value=0:=akf h (by omega);exact⟨⟨x.a.r,x.t⟩,⟨h1,h4⟩,rfl,rfl,λ_=>⟨x.a.ck,⟨by assumption,h2⟩,rfl,.inr ⟨hg,rfl,rfl,rfl⟩⟩,λhne=>absurd h5 hne⟩
theorem Yz(x:ZPs)(hx:x.a.r.ok/\x.a.c.ok/\x.a.ph<=4/\x.t<x.a.r.t/\x.a.r.has x.t=0):aj2 x:=by
 obtain⟨h1,h2,h3,h4,h5⟩:=hx;unfold aj2;simp only[Gh,bZ,dN,bP,gW,AY,Gg,NJ,AU,Yu,uh,ug,NR,NU,NP,NS,NK,NQ,jl,jm,jo,nM,qc,AQ,wJ,NI,Gi,AX];simp only[aZ,aV,aU,aA,aI,bQ,bF,aO,aK,ay,aX,aW,bT,bG,bH,bI,bU,bC,bJ,bn,eH,aH,aN,ah,ak,aB,aF,aC,aG,akd];refine⟨by decide,bf (λh=> .inl ?_) λh=>bf (λhs=> .inl ?_) λhs=>bf (λh3=> .inl ?_) λh3=> ?_⟩
 ·have h:=aS h
  rw[apD h];exact⟨by decide,rfl⟩
 ·have h:=aT h
  have hs:=aS hs;rw[ake h (.inl (by omega))];exact⟨by decide,rfl⟩
 ·have h:=aT h
  have hs:=aT hs;have h3:=aS h3;rw[ake h (.inr ⟨rfl,by omega⟩)];exact⟨by decide,rfl⟩
 ·have h:=aT h
  have hs:=aT hs;have h3':=aT h3;have hg:goodP 2 x.f.key x.f.value=0:=akf h (by omega);exact⟨⟨x.a.r,x.t⟩,⟨h1,h4⟩,rfl,rfl,λ_=>⟨x.a.ck,⟨by assumption,h2⟩,rfl,.inr ⟨hg,rfl,rfl,rfl⟩⟩,λhne=>absurd h5 hne⟩
theorem YA(x:ZPs)(hx:x.a.p.ok/\x.f.key.size<=16/\x.f.value.size<=400):aj6 x:=by
 obtain⟨h1,h2,h3⟩:=hx;have hnd:x.nd 2=ned ((x.f.key.size:Int)+x.f.value.size):=by unfold ZPs.nd;rw[if_pos rfl];congr 1
 have hz:spn (x.nd 2)≠0:=by
  rw[hnd];have:(x.f.key.size:Int)+x.f.value.size=((x.f.key.size+x.f.value.size:Nat):Int):=by omega
  rw[this];refine RS ?_;unfold ned;repeat' split
  all_goals omega
 unfold aj6;simp only[NV,bZ,dN,bP,wL,gW,Yv,Gi,Yx,ajZ,jl,jm,jo,AX,wJ,Yw,qc];simp only[aZ,aV,aU,aA,aI,bQ,bF,aO,aK,ay,aX,aW,bT,bG,bH,bI,bU,bC,bJ,bn,eH,aH,aN,ah,ak,aB,aF,aC,aG];have e0:ned 0=0:=rfl;rw[<-hnd];refine⟨by decide,by unfold I64;omega,⟨x.a.p,x.nd 2⟩,h1,rfl,rfl,λh=>absurd h hz,λh=> .inl ⟨h.2,rfl,rfl⟩,λy hy=> .inr ⟨y,hy.2,⟨rfl,rfl⟩,rfl,rfl⟩⟩
theorem YB(x:ZPs)(hx:x.a.r.ok/\x.t<x.a.r.t):aj8 x:=by
 unfold aj8;simp only[uh,ug,NT,NM,jl,jm,jo,nM,qc,bP,bZ,dN,AQ,wJ,gW];simp only[aZ,aV,aU,aA,aI,bQ,bF,aO,aK,ay,aX,aW,bT,bG,bH,bI,bU,bC,bJ,bn,eH,aH,aN,ah,ak,aB,aF,aC,aG];exact⟨by decide,⟨x.a.r,x.t⟩,hx,rfl,rfl,rfl,rfl⟩
theorem YC(x:ZPs)(hx:x.a.r.ok/\x.t<x.a.r.t):akb x:=by
 unfold akb;simp only[uh,ug,NT,NM,jl,jm,jo,nM,qc,bP,bZ,dN,AQ,wJ,gW];simp only[aZ,aV,aU,aA,aI,bQ,bF,aO,aK,ay,aX,aW,bT,bG,bH,bI,bU,bC,bJ,bn,eH,aH,aN,ah,ak,aB,aF,aC,aG];exact⟨by decide,⟨x.a.r,x.t⟩,hx,rfl,rfl,rfl,rfl⟩
theorem abp:dY Tryz.prog asy:= .append jD (.cons (bM amx) (.cons (bM uZ) .nil))
theorem aos:dY Tryz.prog auV:= .append jD (.cons am2 (.cons (bM aq4) .nil))
theorem aeo:bY Tryz.prog 34 (qG 1).ctr:=cO dD mixed abp 11 noA 200 6 (λ_=>⟨rfl,rfl,rfl,rfl⟩) λx hx=>Eq.mp (aj1 x) (Yy x (aZ.1 hx))
theorem aer:bY Tryz.prog 34 (qH 1).ctr:=cO dD mixed aaY 11 noA 200 6 (λ_=>⟨rfl,rfl,rfl,rfl⟩) λx hx=>Eq.mp (aj9 x) (YB x (aZ.1 hx))
theorem aes:bY Tryz.prog 34 (qG 2).ctr:=cO dD mixed abp 11 noA 200 6 (λ_=>⟨rfl,rfl,rfl,rfl⟩) λx hx=>Eq.mp (aj3 x) (Yz x (aZ.1 hx))
theorem aeu:bY Tryz.prog 34 (qH 2).ctr:=cO dD mixed aaY 11 noA 200 6 (λ_=>⟨rfl,rfl,rfl,rfl⟩) λx hx=>Eq.mp (akc x) (YC x (aZ.1 hx))
theorem akg:bY Tryz.prog 34 (TB 2).ctr:=cO dD mixed aos 11 noA 200 6 (λ_=>⟨rfl,rfl,rfl,rfl⟩) λx hx=>Eq.mp (aj7 x) (YA x (aZ.1 hx))
theorem YD{a b:ByteArray}(h:(a.toList==b.toList)=true):a=b:=by
 have h:=beq_iff_eq.1 h;rw[iG,iG]at h;exact ByteArray.ext (Array.toList_inj.1 h)
theorem YE{a b:ByteArray}(h:(a.toList==b.toList)=false):a≠b:=λe=>by subst e;simp at h
theorem Gm{x:ZPs}(h:nextL x.a.L (bkt x.f.key) x.f.pos x.f.past=none):x.miss:=λy hy=>by
 have hy:nextL x.a.L (bkt x.f.key) x.f.pos x.f.past=some y:=hy;rw[h]at hy;cases hy
theorem Gn{x:ZPs}{l:ZLnk}(h:nextL x.a.L (bkt x.f.key) x.f.pos x.f.past=some l)(h1:kl l.key x.f.key=false)(h2:l.key≠x.f.key):x.miss:=λy hy=>by
 have hy:nextL x.a.L (bkt x.f.key) x.f.pos x.f.past=some y:=hy;rw[h]at hy;cases hy;exact⟨h1,h2⟩
theorem nx_lt{f:ZFp}{k:Int}(hk:k=2\/k=3)(h:f.line<0):nx3 f k true=3:=by
 unfold nx3;rw[if_neg (by omega),if_neg (by simp),if_pos h]
theorem nx_ge{f:ZFp}{k:Int}(hk:k=2\/k=3)(h: ¬f.line<0):nx3 f k true=5:=by
 unfold nx3;rw[if_neg (by omega),if_neg (by simp),if_neg h]
theorem apE{f:ZFp}(h:f.line<0):nx3 f 2 false=3:=by
 unfold nx3;rw[if_neg (by decide),if_neg (by decide),if_pos h]
theorem apF{f:ZFp}(h: ¬f.line<0):nx3 f 2 false=5:=by
 unfold nx3;rw[if_neg (by decide),if_neg (by decide),if_neg h]
theorem YF(x:ZPs)(hx:x.f.key.size<1099511627776/\x.f.pos.size<1099511627776/\((1:Int)=3->x.miss->x.f.line<0)):ajV x:=by
 unfold ajV;simp only[AP,oV,qJ,wI,AB,AO,NH,AL,ajU,Yq,Yr,uf,NG,fC,cZ,eY,Yp,ND,Nz,tY,tZ,Gf,F9];simp only[aZ,aV,aU,aA,aI,bQ,bF,aO,aK,ay,aX,aW,bT,bG,bH,bI,bU,bC,bJ,bn,eH,aH,aN,ah,ak,aB,aF,aC,aG];refine⟨by decide,x.f.key,hx.1,rfl,⟨x.a.L,x.f.key,x.f.pos,x.f.past⟩,hx.2.1,⟨rfl,rfl,rfl⟩,rfl,λhn=> ?_,λl hl=>bf (λh=> .inl ⟨l,⟨hl,h⟩,rfl,rfl⟩) λh=>bf (λh2=> ?_) λh2=> ?_⟩
 ·exact .inr (.inr ⟨Gm hn,rfl,rfl⟩)
 ·exact .inr (.inl ⟨l,⟨hl,YD h2⟩,⟨rfl,rfl,rfl,rfl,rfl,rfl,rfl⟩,rfl⟩)
 ·exact .inr (.inr ⟨Gn hl h (YE h2),rfl,rfl⟩)
theorem YG(x:ZPs)(hx:x.f.key.size<1099511627776/\x.f.pos.size<1099511627776/\((2:Int)=3->x.miss->x.f.line<0)):ajX x:=by
 unfold ajX;simp only[AP,oV,qJ,wI,AB,AO,NC,AL,ajS,ajT,Yt,uf,NG,fC,cZ,eY,Ny,ND,Nz,Ym,Yn,Yo,tZ,tY,Gf,Yl,F9];simp only[aZ,aV,aU,aA,aI,bQ,bF,aO,aK,ay,aX,aW,bT,bG,bH,bI,bU,bC,bJ,bn,eH,aH,aN,ah,ak,aB,aF,aC,aG];refine⟨by decide,x.f.key,hx.1,rfl,⟨x.a.L,x.f.key,x.f.pos,x.f.past⟩,hx.2.1,⟨rfl,rfl,rfl⟩,rfl,λhn=> ?_,λl hl=>bf (λh=> .inl ⟨l,⟨hl,h⟩,rfl,rfl⟩) λh=>bf (λh2=> ?_) λh2=> ?_⟩
 ·exact bf (λg=> .inr (.inr ⟨Gm hn,apE (aS g),rfl⟩)) λg=> .inr (.inr ⟨Gm hn,apF (aT g),rfl⟩)
 ·exact bf (λg=> .inr (.inl ⟨l,⟨hl,YD h2⟩,⟨nx_lt (.inl rfl) (aS g),rfl,rfl,rfl,rfl,rfl,rfl⟩,rfl⟩)) λg=> .inr (.inl ⟨l,⟨hl,YD h2⟩,⟨nx_ge (.inl rfl) (aT g),rfl,rfl,rfl,rfl,rfl,rfl⟩,rfl⟩)
 ·exact bf (λg=> .inr (.inr ⟨Gn hl h (YE h2),apE (aS g),rfl⟩)) λg=> .inr (.inr ⟨Gn hl h (YE h2),apF (aT g),rfl⟩)
theorem abq:dY Tryz.prog asA:= .append jD (.cons (bM Sr) (.cons (bM anN) (.cons (bM aq5) .nil)))
theorem akh:bY Tryz.prog 34 (vJ 1):=jf dD mixed abq noA 200 6 (λ_=>rfl) (λ_=>⟨λ_=>rfl,λ_=>rfl,λ_=>rfl,trivial⟩) λx hx=>Eq.mp (ajW x) (YF x (aZ.1 hx))
theorem aev:bY Tryz.prog 34 (vJ 2):=jf dD mixed abq noA 200 6 (λ_=>rfl) (λ_=>⟨λ_=>rfl,λ_=>rfl,λ_=>rfl,trivial⟩) λx hx=>Eq.mp (ajY x) (YG x (aZ.1 hx))
theorem wp_d0{x:ZPw}(h:x.p=0)(N:Nat):x.d'=(⟨x.a.d,x.ln,0,⟨x.draft.jS (λ_=>0) (cpc x.c).toNat,0,64,N⟩⟩:lN).d.store x.ln 0 64 (λq=>x.draft.jS (λ_=>0) (cpc x.c).toNat (0+q)):=by
 unfold ZPw.d';rw[if_pos h,aaV]
theorem wp_d1{x:ZPw}(h:x.p≠0)(N:Nat):x.d'=(⟨x.a.d,x.ln+x.p,0,⟨λq=>x.blk.enc (64*x.p+q),0,64,N⟩⟩:lN).d.store (x.ln+x.p) 0 64 (λq=>(λq=>x.blk.enc (64*x.p+q)) (0+q)):=by
 unfold ZPw.d';rw[if_neg h];exact(aaV _ _ _ _ (λq=>x.blk.enc (64*x.p+q))).symm
theorem apG(x:ZPw){D:ByteArray}(hD:x.f.key++x.f.value=D){t q o B:Nat}(hq:q<64)(ho:o=min (28+63*t) D.size)(hB:(D.extract o D.size).size<=63/\B=1+(D.extract o D.size).size\/63<(D.extract o D.size).size/\B=64):[Value.int .u8 (x.blk.enc (64*(t+1)+q))]=bif Nat.ble 1 q&&Nat.blt q B then [Value.int .u8 (dZ (D.extract o D.size) (q-1))]else Cs.eff (λ_=>[Value.int .u8 0]) [(0,[Value.int .u8 2])] q:=by
 have hsz:(D.extract o D.size).size=D.size-o:=by rw[ByteArray.size_extract];omega
 rw[hsz]at hB;rw[KT _ _ _ hq];unfold ZBlk.dat
 rw[show x.blk.key++x.blk.value=D from hD];by_cases h0:q=0
 ·subst h0;rfl
 ·rw[if_neg h0]
  by_cases h1:28+63*t+(q-1)<D.size
  ·rw[if_pos h1,show(Nat.ble 1 q&&Nat.blt q B)=true by rw[bV,Nat.ble_eq_true_of_le (by omega)];simp;omega,aP,aiz (by omega),show o=28+63*t by omega]
  ·rw[if_neg h1,show(Nat.ble 1 q&&Nat.blt q B)=false by rw[bV,Nat.ble_eq_true_of_le (by omega)];simp;omega,aQ]
   show _=bif Nat.beq q 0 then _ else _;rw[dB,decide_eq_false h0];rfl
theorem YH(x:ZPw)(hx:x.ok/\x.p=0):ajI x:=by
 obtain⟨⟨o1,o2,o3,o4,o5,o6,o7,o8⟩,hp⟩:=hx;have hs:=dM x.c;have hw:ownM x.d'.os=ownM (DevM.os ((⟨x.a.d,x.ln,0,⟨x.draft.jS (λ_=>0) (cpc x.c).toNat,0,64,64⟩⟩:lN).d.store x.ln 0 64 (λq=>x.draft.jS (λ_=>0) (cpc x.c).toNat (0+q)))):=congrArg (λd=>ownM (DevM.os d)) (wp_d0 hp 64);unfold ajI;simp only[AA,Nu,Nq,ajH,tJ,F6,ajF,ajG,bW,dW,bK,fZ,jK,lG,jk,iW,qI,Jt,BU,F8];simp only[aZ,aV,aU,aA,aI,bQ,bF,aO,aK,ay,aX,aW,bT,bG,bH,bI,bU,bC,bJ,bn,eH,aH,aN,ah,ak,aB,aF,aC,aG];refine⟨by decide,x.c,⟨o2,o3⟩,rfl,⟨x.a.d,x.ln,0,⟨x.draft.jS (λ_=>0) (cpc x.c).toNat,0,64,64⟩⟩,⟨o1,by show x.ln<x.a.d.n;omega,⟨aY _,show 64<1099511627776 by decide,aaW ⟨o2,o3⟩⟩,aY _⟩,⟨rfl,rfl,rfl,rfl⟩,⟨rfl,rfl,λ_ _=>rfl⟩,by unfold I64;omega,by unfold I64;omega,bf (λh=> .inr ⟨beq_iff_eq.1 h,hw,rfl⟩) λh=> .inl ⟨beq_eq_false_iff_ne.1 h,by omega,hw,rfl⟩⟩
theorem aew(x:ZPw)(hx:x.ok/\x.p≠0):asC x:=by
 obtain⟨⟨o1,o2,o3,o4,o5,o6,o7,o8⟩,hp⟩:=hx;have hs:=dM x.c;obtain⟨t,ht⟩: ∃t,x.p=t+1:=⟨x.p-1,by omega⟩;have hn:=o1.1;generalize hD:x.f.key++x.f.value=D;have hDs:D.size=x.f.key.size+x.f.value.size:=by rw[<-hD];exact ByteArray.size_append
 have e1:(DI (imax (28+((x.p:Int)-1)*63) 0) D.size).toNat=min (28+63*t) D.size:=by unfold DI imax;omega
 have e0:0<=DI (imax (28+((x.p:Int)-1)*63) 0) D.size:=by unfold DI imax;omega
 have hw:ownM x.d'.os=ownM (DevM.os ((⟨x.a.d,x.ln+x.p,0,⟨λq=>x.blk.enc (64*x.p+q),0,64,64⟩⟩:lN).d.store (x.ln+x.p) 0 64 (λq=>(λq=>x.blk.enc (64*x.p+q)) (0+q)))):=congrArg (λd=>ownM (DevM.os d)) (wp_d1 hp 64);unfold asC;simp only[AA,Nu,Nq,X9,F6,tJ,X8,Ya,Yg,F8,Yb,bW,dW,bK,fZ,jK,lG,jk,tK,iW,qI,Jt,BU];simp only[aZ,aV,aU,aA,aI,bQ,bF,aO,aK,ay,aX,aW,bT,bG,bH,bI,bU,bC,bJ,bn,eH,aH,aN,ah,ak,aB,aF,aC,aG,hD,e1];refine⟨by decide,bf (λh=>absurd (beq_iff_eq.1 h) (by omega)) λ_=>⟨by decide,by decide,by decide,by omega,by unfold I64;omega,by unfold I64;omega,by unfold I64;omega,by decide,by decide,e0,⟨Nat.min_le_right _ _,aY _⟩,by decide,bf (λh=> ?_) λh=> ?_⟩⟩
 ·refine⟨by unfold I64;omega,⟨x.a.d,x.ln+x.p,0,⟨λq=>x.blk.enc (64*x.p+q),0,64,64⟩⟩,⟨o1,by show x.ln+x.p<x.a.d.n;omega,⟨aY _,show 64<1099511627776 by decide,λk=>aiA _ (by omega)⟩,aY _⟩,⟨rfl,rfl,rfl,rfl⟩,⟨rfl,rfl,λq hq=> ?_⟩,by unfold I64;omega,by unfold I64;omega,bf (λh=> .inr ⟨beq_iff_eq.1 h,hw,rfl⟩) λh=> .inl ⟨beq_eq_false_iff_ne.1 h,hw,rfl⟩⟩
  rw[ht];exact apG x hD hq rfl (.inl ⟨Nat.le_of_ble_eq_true h,rfl⟩)
 ·refine⟨by unfold I64;omega,⟨x.a.d,x.ln+x.p,0,⟨λq=>x.blk.enc (64*x.p+q),0,64,64⟩⟩,⟨o1,by show x.ln+x.p<x.a.d.n;omega,⟨aY _,show 64<1099511627776 by decide,λk=>aiA _ (by omega)⟩,aY _⟩,⟨rfl,rfl,rfl,rfl⟩,⟨rfl,rfl,λq hq=> ?_⟩,by unfold I64;omega,by unfold I64;omega,bf (λh=> .inr ⟨beq_iff_eq.1 h,hw,rfl⟩) λh=> .inl ⟨beq_eq_false_iff_ne.1 h,hw,rfl⟩⟩
  rw[ht];exact apG x hD hq rfl (.inr ⟨Nat.not_le.1 λhh=>(by rw[Nat.ble_eq_true_of_le hh]at h;cases h),rfl⟩)
theorem auW{b:ZBlk}(h:b.may)(hk:b.kind=1):b.key.size<=16/\b.value.size<=400:=by
 rcases h.2 with h|h|h|h<;>first|(exfalso;have:=h.1;omega)|exact⟨h.2.2.1,h.2.2.2.1⟩
noncomputable def ZPr.de(x:ZPr):ZDm:=⟨x.b.cls,x.b.id,x.b.ver,x.b.epoch,x.b.key,x.b.value,x.b.enc⟩
theorem auX{x:ZPr}(hk:x.b.kind=1):x.de.b=x.b:=by
 unfold ZPr.de ZDm.b;rw[<-hk]
theorem YI(x:ZPr)(hx:x.ok/\x.p=0):ajK x:=by
 obtain⟨⟨o1,o2,o3,o4,o5,o6⟩,hp⟩:=hx;have hs:=wB x.b;have h1:=Dw o2;have hde:=auX o3;have hv:=auW o2 o3;have hn:=o1.1;have by_: ∀q,q<64->x.b.enc q=x.a.d.b (x.ln*193+q):=λq hq=>by
  rw[<-o6 q (by omega),show q/64=0 by omega,show q%64=q by omega,aI]
 unfold ajK;simp only[lH,bW,dW,bK,fZ,lG,iW,nK,Aw,F7,Nv,Nk,jk,qI,Jt,BU];simp only[aZ,aV,aU,aA,aI,bQ,bF,aO,aK,ay,aX,aW,bT,bG,bH,bI,bU,bC,bJ,bn,eH,aH,aN,ah,ak,aB,aF,aC,aG];refine⟨by decide,by unfold I64;omega,⟨x.a.d,x.ln⟩,⟨o1,by show x.ln<x.a.d.n;omega⟩,by show(x.ln:Int)=x.ln+0;omega,rfl,by decide,by decide,by unfold I64;omega,bf (λh=> .inl ⟨by simpa using h,by_,rfl⟩) λh=> ?_⟩;have hc:1=spn x.b.cls:=by simpa using h
 have hsn:x.b.dK=1:=by omega
 have he:64*x.de.b.dK=64:=by rw[hde,hsn]
 refine⟨x.de,⟨by rw[hde];exact o2,by show x.b.key.size<_;omega,by show x.b.value.size<_;omega,λk _=>by rw[hde];rfl⟩,he,⟨he,λq hq=>by_ q (by omega)⟩,?_⟩;rw[show(x.de.id==x.b.id)=true from beq_self_eq_true _,show(x.de.ver==x.b.ver)=true from beq_self_eq_true _,show(x.de.key.toList==x.b.key.toList)=true from beq_self_eq_true _,kX,kX,Bool.not_true,iy];exact .inr ⟨hc,rfl,rfl⟩
theorem YJ(x:ZPr)(hx:x.ok/\x.p≠0):ajM x:=by
 obtain⟨⟨o1,o2,o3,o4,o5,o6⟩,hp⟩:=hx;have hs:=wB x.b;have h1:=Dw o2;have hde:=auX o3;have hv:=auW o2 o3;have hn:=o1.1;unfold ajM;simp only[lH,F5,bW,dW,bK,fZ,tK,lG,iW,Au,nK,Yf,F7,Nv,Yc,Nj,jk,Aw,qI,Jt,BU];simp only[aZ,aV,aU,aA,aI,bQ,bF,aO,aK,ay,aX,aW,bT,bG,bH,bI,bU,bC,bJ,bn,eH,aH,aN,ah,ak,aB,aF,aC,aG];have hb:Nat.beq (64*x.p) 0=false:=Bool.eq_false_iff.2 λh=>absurd (au h) (by omega)
 simp only[hb];refine⟨aY _,by omega,by omega,by unfold I64;omega,⟨x.a.d,x.ln+x.p⟩,⟨o1,by show x.ln+x.p<x.a.d.n;omega⟩,rfl,rfl,?_⟩;have row: ∀q,q<64*(x.p+1)->x.b.enc q=bif Nat.blt q (64*x.p)then x.b.enc q else x.a.d.b ((x.ln+x.p)*193+(q-64*x.p)):=λq hq=>by
  by_cases hh:q<64*x.p
  ·rw[bg.2 hh];rfl
  ·rw[show Nat.blt q (64*x.p)=false by rw[bV];exact decide_eq_false hh,aQ,<-o6 q (by omega),show q/64=x.p by omega,show q%64=q-64*x.p by omega]
 refine⟨by omega,by omega,by unfold I64;omega,bf (λh=> .inl ⟨by simpa using h,by omega,⟨by omega,row⟩,rfl⟩) λh=> ?_⟩;have hc:(x.p:Int)+1=spn x.b.cls:=by simpa using h
 have hsn:x.b.dK=x.p+1:=by omega
 have he:64*x.de.b.dK=64*x.p+64:=by rw[hde,hsn];omega
 refine⟨x.de,⟨by rw[hde];exact o2,by show x.b.key.size<_;omega,by show x.b.value.size<_;omega,λk _=>by rw[hde];rfl⟩,he,⟨he,λq hq=>row q (by omega)⟩,?_⟩;rw[show(x.de.id==x.b.id)=true from beq_self_eq_true _,show(x.de.ver==x.b.ver)=true from beq_self_eq_true _,show(x.de.key.toList==x.b.key.toList)=true from beq_self_eq_true _,kX,kX,Bool.not_true,iy];exact .inr ⟨hc,rfl,rfl⟩
theorem TG(x:ZPp)(hx:(x.pt 2).ok 2 false):Yh x:=by
 unfold Yh;simp only[tX,tN,tV,Nw,bW,dW,bK,jk,Az,lH];simp only[aZ,aV,aU,aA,aI,bQ,bF,aO,aK,ay,aX,aW,bT,bG,bH,bI,bU,bC,bJ,bn,eH,aH,aN,ah,ak,aB,aF,aC,aG];refine⟨by decide,x.pt 2,hx,⟨rfl,rfl⟩,⟨rfl,rfl,rfl,rfl,rfl,rfl,rfl,rfl,rfl,rfl⟩,?_⟩
 repeat' (first|exact rfl|decide|refine And.intro ?_ ?_)
theorem TJ(x:ZPp)(hx:(x.pt 2).bad false):Yi x:=by
 unfold Yi;simp only[tX,tN,tV,Nr,Nw,Nl,Ye,Yd,iW,qI,BU,bK,bW,dW,fZ,jK,lG,jk,Az,lH];simp only[aZ,aV,aU,aA,aI,bQ,bF,aO,aK,ay,aX,aW,bT,bG,bH,bI,bU,bC,bJ,bn,eH,aH,aN,ah,ak,aB,aF,aC,aG];refine⟨by decide,x.pt 2,hx,⟨rfl,rfl⟩,⟨rfl,rfl,rfl,rfl,rfl,rfl,rfl,rfl,rfl,rfl,rfl⟩,x.a.ck,⟨hx.2.1,hx.1⟩,?_⟩
 repeat' (first|exact rfl|decide|refine And.intro ?_ ?_)
theorem TK(x:ZPp)(hx:(x.pt 2).ok 2 true):Yj x:=by
 unfold Yj;simp only[tX,tN,tV,Ns,ajE,bW,dW,bK,jk,Az,lH];simp only[aZ,aV,aU,aA,aI,bQ,bF,aO,aK,ay,aX,aW,bT,bG,bH,bI,bU,bC,bJ,bn,eH,aH,aN,ah,ak,aB,aF,aC,aG];refine⟨by decide,x.pt 2,hx,⟨rfl,rfl⟩,⟨rfl,rfl,rfl,rfl,rfl,rfl,rfl,rfl,rfl,rfl⟩,?_⟩
 repeat' (first|exact rfl|decide|refine And.intro ?_ ?_)
theorem TL(x:ZPp)(hx:(x.pt 2).bad true):Yk x:=by
 unfold Yk;simp only[tX,tN,tV,Nr,Ns,Nl,Ye,Yd,iW,qI,BU,bK,bW,dW,fZ,jK,lG,jk,Az,lH];simp only[aZ,aV,aU,aA,aI,bQ,bF,aO,aK,ay,aX,aW,bT,bG,bH,bI,bU,bC,bJ,bn,eH,aH,aN,ah,ak,aB,aF,aC,aG];refine⟨by decide,x.pt 2,hx,⟨rfl,rfl⟩,⟨rfl,rfl,rfl,rfl,rfl,rfl,rfl,rfl,rfl,rfl,rfl⟩,x.a.ck,⟨hx.2.1,hx.1⟩,?_⟩
 repeat' (first|exact rfl|decide|refine And.intro ?_ ?_)
theorem YK(x:ZPs):ajO x:=by
 unfold ajO;simp only[Np,bW,dW,bK,jK,lG,jk]
 first|done|(simp only[aZ,aV,aU,aA,aI,bQ,bF,aO,aK,ay,aX,aW,bT,bG,bH,bI,bU,bC,bJ,bn,eH,aH,aN,ah,ak,aB,aF,aC,aG];done)|(simp only[aZ,aV,aU,aA,aI,bQ,bF,aO,aK,ay,aX,aW,bT,bG,bH,bI,bU,bC,bJ,bn,eH,aH,aN,ah,ak,aB,aF,aC,aG];decide)
theorem YL(x:ZPs):ajQ x:=by
 unfold ajQ;simp only[Np,bW,dW,bK,jK,lG,jk]
 first|done|(simp only[aZ,aV,aU,aA,aI,bQ,bF,aO,aK,ay,aX,aW,bT,bG,bH,bI,bU,bC,bJ,bn,eH,aH,aN,ah,ak,aB,aF,aC,aG];done)|(simp only[aZ,aV,aU,aA,aI,bQ,bF,aO,aK,ay,aX,aW,bT,bG,bH,bI,bU,bC,bJ,bn,eH,aH,aN,ah,ak,aB,aF,aC,aG];decide)
theorem abr:dY Tryz.prog asB:= .append jD (.cons Le (.cons (bM asx) (.cons (bM aq7) .nil)))
theorem YM:bY Tryz.prog 34 (FY 2).ctr:=cO dD mixed aaX 11 noA 200 6 (λ_=>⟨rfl,rfl,rfl,rfl⟩) λx hx=>Eq.mp (ajJ x) (YH x (aZ.1 hx))
theorem aex:bY Tryz.prog 34 FZ.ctr:=cO dD mixed aaX 11 noA 200 6 (λ_=>⟨rfl,rfl,rfl,rfl⟩) λx hx=>Eq.mp (aor x) (aew x (aZ.1 hx))
theorem aki:bY Tryz.prog 34 TF.ctr:=cO dD mixed abr 11 noA 200 6 (λ_=>⟨rfl,rfl,rfl,rfl⟩) λx hx=>Eq.mp (ajL x) (YI x (aZ.1 hx))
theorem akj:bY Tryz.prog 34 abo.ctr:=cO dD mixed abr 12 noA 200 6 (λ_=>⟨rfl,rfl,rfl,rfl⟩) λx hx=>Eq.mp (ajN x) (YJ x (aZ.1 hx))
theorem aey:dY Tryz.prog (aop 2 false):= .append jD (.cons (bM aok) .nil)
theorem aez:dY Tryz.prog (aoq 2 false):= .append jD (.cons (bM aom) (.cons (bM uZ) .nil))
theorem akk:bY Tryz.prog 34 (Nc 2 false):=dL dD mixed aey noA 200 6 (λ_=>rfl) (λ_=>rfl) λx hx=>Eq.mp (aek x) (TG x (aZ.1 hx))
theorem akl:bY Tryz.prog 34 (Nh 2 false).ctr:=cO dD mixed aez 11 noA 200 6 (λ_=>⟨rfl,rfl,rfl,rfl⟩) λx hx=>Eq.mp (ael x) (TJ x (aZ.1 hx))
theorem aeA:dY Tryz.prog (aop 2 true):= .append jD (.cons (bM aol) .nil)
theorem aeB:dY Tryz.prog (aoq 2 true):= .append jD (.cons (bM aon) (.cons (bM uZ) .nil))
theorem akm:bY Tryz.prog 34 (Nc 2 true):=dL dD mixed aeA noA 200 6 (λ_=>rfl) (λ_=>rfl) λx hx=>Eq.mp (aem x) (TK x (aZ.1 hx))
theorem akn:bY Tryz.prog 34 (Nh 2 true).ctr:=cO dD mixed aeB 11 noA 200 6 (λ_=>⟨rfl,rfl,rfl,rfl⟩) λx hx=>Eq.mp (aen x) (TL x (aZ.1 hx))
theorem ako:bY Tryz.prog 34 (y5 1):=dL dD mixed jD noA 200 6 (λ_=>rfl) (λ_=>rfl) λx _=>Eq.mp (ajP x) (YK x)
theorem akp:bY Tryz.prog 34 (y5 2):=dL dD mixed jD noA 200 6 (λ_=>rfl) (λ_=>rfl) λx _=>Eq.mp (ajR x) (YL x)
def akq(a:ZSto)(b:Lks):Prop:=ownM a.b.os=ownM a.b.os/\tabA a.L=tabA b/\ordA a.L=ordA a.L/\ownM a.l.os=ownM a.l.os/\(Nat.beq a.n 0=Nat.beq a.n 0/\a.n=a.n/\ ∀q:Nat,q<a.n->[Value.int .i64 (ZEff.kind (a.e q)),Value.string (ZEff.key (a.e q)),Value.string (ZEff.value (a.e q)),Value.int .u64 (ZEff.id (a.e q)),Value.int .u64 (ZEff.ver (a.e q)),Value.int .u64 (ZEff.epoch (a.e q)),Value.int .i64 (ZEff.group (a.e q))]=[Value.int .i64 (ZEff.kind (a.e q)),Value.string (ZEff.key (a.e q)),Value.string (ZEff.value (a.e q)),Value.int .u64 (ZEff.id (a.e q)),Value.int .u64 (ZEff.ver (a.e q)),Value.int .u64 (ZEff.epoch (a.e q)),Value.int .i64 (ZEff.group (a.e q))])/\True
def YN(a:ZSto):Prop:=0=0/\0=0/\0=0/\0=0/\0=0/\0=0/\0=0/\0=0/\a.id=a.id/\a.ver=a.ver/\(Nat.beq a.n 0=Nat.beq a.n 0/\a.n=a.n)/\True
def jQ(a:ZSto)(b:Lks):Prop:=YN a/\(0=0/\(1:Int)=1/\(0:Int)=0/\(0:Int)=0/\True)/\ownM a.d.os=ownM a.d.os/\ownM a.p.os=ownM a.p.os/\ownM a.r.os=ownM a.r.os/\ownM a.ck.os=ownM a.ck.os/\akq a b
def fJ:Prop:=Value.slice none 0 0=Value.slice none 0 0
def y8(a:ZFp)(b:ZFp):Prop:=fJ/\(0:Int)=0/\fJ/\a.code=b.code/\a.found=b.found/\a.ans=b.ans/\fJ/\fJ/\a.aep=b.aep/\True
def YO(a:ZFp)(b:ZFp):Prop:=a.cls=b.cls/\a.piece=b.piece/\y8 a b
def AZ(a:ZFp)(b:ZFp):Prop:=a.line=b.line/\YO a b
def NW(a:ZFp)(b:ZFp):Prop:=(0:Int)=0/\a.had=b.had/\a.old.key=b.old.key/\a.old.id=b.old.id/\a.old.ver=b.old.ver/\a.old.line=b.old.line/\a.old.cls=b.old.cls/\AZ a b
def NY(a:ZFp)(b:ZFp):Prop:=a.key=b.key/\a.value=b.value/\a.to=b.to/\fJ/\(1:Int)=1/\a.epoch=b.epoch/\a.pos=b.pos/\a.past=b.past/\NW a b
def NZ(a:ZFp)(b:ZFp)(c:ByteArray)(d:ByteArray):Prop:=a.key=b.key/\a.value=b.value/\a.to=b.to/\fJ/\(1:Int)=1/\a.epoch=b.epoch/\c=d/\true=true/\NW a b
def N7(a:ZFp)(b:ZFp):Prop:=a.epoch=b.epoch/\a.pos=b.pos/\a.past=b.past/\(0:Int)=0/\false=false/\ByteArray.mk #[]=ByteArray.mk #[]/\(0:Int)=0/\(0:Int)=0/\(0:Int)=0/\(0:Int)=0/\AZ a b
def N8(a:ZFp)(b:ZFp)(c:ByteArray):Prop:=a.epoch=b.epoch/\a.pos=c/\a.past=true/\(0:Int)=0/\false=b.had/\ByteArray.mk #[]=b.old.key/\0=b.old.id/\0=b.old.ver/\0=b.old.line/\0=b.old.cls/\AZ a b
def N9(a:ZFp)(b:ZFp)(c:ByteArray):Prop:=a.epoch=b.epoch/\c=b.pos/\true=b.past/\(0:Int)=0/\a.had=false/\a.old.key=ByteArray.mk #[]/\a.old.id=0/\a.old.ver=0/\a.old.line=0/\a.old.cls=0/\AZ a b
def YP:Prop:=True/\True/\True/\0=0/\True/\True/\True/\True/\True/\True
def Oa(a:Lks)(b:Lks):Prop:=(True/\True/\YP)/\tabA a=tabA b/\True
def YQ(a:ZFp)(b:ZFp):Prop:=a.line=b.line/\a.cls=b.cls/\ite ((1:Int)=1) (0:Int) a.piece=b.piece/\y8 a b
def YR(a:ZFp)(b:ZFp):Prop:=a.line=b.line/\a.cls=b.cls/\a.piece=ite ((1:Int)=1) (0:Int) b.piece/\y8 a b
def YS(a:ZFp)(b:ZFp):Prop:=a.line=b.line/\a.cls=b.cls/\ite ((2:Int)=1) (0:Int) a.piece=b.piece/\y8 a b
def YT(a:ZFp)(b:ZFp):Prop:=a.line=b.line/\a.cls=b.cls/\a.piece=ite ((2:Int)=1) (0:Int) b.piece/\y8 a b
def akr(x:ZPs):Prop:=
 ∃x_1:ZPs,Hd (x_1.f.key.size<1099511627776/\x_1.f.pos.size<1099511627776/\((1:Int)=3->x_1.miss->x_1.f.line<0))/\(0=0/\(x_1.t:Int)=(x.t:Int)/\((1:Int)=1/\NY x_1.f x.f)/\True)/\Oa x_1.a.L x.a.L/\(∀y:ZLnk,Hd (x_1.goes y)->(∃y_1:ZLnk,Hd (x.goes y_1)/\((1:Int)=1/\NZ x.f x_1.f y_1.key y.key)/\jQ x.a x_1.a.L)\/(∃y_1:ZLnk,Hd (x.hit y_1)/\((1:Int)=1/\x.f.key=x_1.f.key/\x.f.value=x_1.f.value/\x.f.to=x_1.f.to/\fJ/\nx3 x.f (1:Int) true=1/\x.f.epoch=x_1.f.epoch/\x.f.pos=y.key/\x.f.past=true/\(0:Int)=0/\true=x_1.f.had/\y_1.key=x_1.f.old.key/\y_1.id=x_1.f.old.id/\y_1.ver=x_1.f.old.ver/\y_1.line=x_1.f.old.line/\y_1.cls=x_1.f.old.cls/\YQ x.f x_1.f)/\jQ x.a x_1.a.L)\/ ∃y_1:Unit,Hd x.miss/\((1:Int)=1/\x.f.key=x_1.f.key/\x.f.value=x_1.f.value/\x.f.to=x_1.f.to/\fJ/\nx3 x.f (1:Int) false=1/\N8 x.f x_1.f y.key)/\jQ x.a x_1.a.L)/\(∀y:ZLnk,Hd (x_1.hit y)->(∃y_1:ZLnk,Hd (x.goes y_1)/\((1:Int)=1/\x.f.key=x_1.f.key/\x.f.value=x_1.f.value/\x.f.to=x_1.f.to/\fJ/\1=nx3 x_1.f (1:Int) true/\x.f.epoch=x_1.f.epoch/\y_1.key=x_1.f.pos/\true=x_1.f.past/\(0:Int)=0/\x.f.had=true/\x.f.old.key=y.key/\x.f.old.id=y.id/\x.f.old.ver=y.ver/\x.f.old.line=y.line/\x.f.old.cls=y.cls/\YR x.f x_1.f)/\jQ x.a x_1.a.L)\/(∃y_1:ZLnk,Hd (x.hit y_1)/\((1:Int)=1/\x.f.key=x_1.f.key/\x.f.value=x_1.f.value/\x.f.to=x_1.f.to/\fJ/\nx3 x.f (1:Int) true=nx3 x_1.f (1:Int) true/\x.f.epoch=x_1.f.epoch/\x.f.pos=x_1.f.pos/\x.f.past=x_1.f.past/\(0:Int)=0/\true=true/\y_1.key=y.key/\y_1.id=y.id/\y_1.ver=y.ver/\y_1.line=y.line/\
 y_1.cls=y.cls/\x.f.line=x_1.f.line/\x.f.cls=x_1.f.cls/\ite ((1:Int)=1) (0:Int) x.f.piece=ite ((1:Int)=1) (0:Int) x_1.f.piece/\y8 x.f x_1.f)/\jQ x.a x_1.a.L)\/ ∃y_1:Unit,Hd x.miss/\((1:Int)=1/\x.f.key=x_1.f.key/\x.f.value=x_1.f.value/\x.f.to=x_1.f.to/\fJ/\nx3 x.f (1:Int) false=nx3 x_1.f (1:Int) true/\x.f.epoch=x_1.f.epoch/\x.f.pos=x_1.f.pos/\x.f.past=x_1.f.past/\(0:Int)=0/\false=true/\ByteArray.mk #[]=y.key/\0=y.id/\0=y.ver/\0=y.line/\0=y.cls/\YR x.f x_1.f)/\jQ x.a x_1.a.L)/\ ∀y:Unit,Hd x_1.miss->(∃y_1:ZLnk,Hd (x.goes y_1)/\((1:Int)=1/\x.f.key=x_1.f.key/\x.f.value=x_1.f.value/\x.f.to=x_1.f.to/\fJ/\1=nx3 x_1.f (1:Int) false/\N9 x.f x_1.f y_1.key)/\jQ x.a x_1.a.L)\/(∃y_1:ZLnk,Hd (x.hit y_1)/\((1:Int)=1/\x.f.key=x_1.f.key/\x.f.value=x_1.f.value/\x.f.to=x_1.f.to/\fJ/\nx3 x.f (1:Int) true=nx3 x_1.f (1:Int) false/\x.f.epoch=x_1.f.epoch/\x.f.pos=x_1.f.pos/\x.f.past=x_1.f.past/\(0:Int)=0/\true=false/\y_1.key=ByteArray.mk #[]/\y_1.id=0/\y_1.ver=0/\y_1.line=0/\y_1.cls=0/\YQ x.f x_1.f)/\jQ x.a x_1.a.L)\/ ∃y_1:Unit,Hd x.miss/\((1:Int)=1/\x.f.key=x_1.f.key/\x.f.value=x_1.f.value/\x.f.to=x_1.f.to/\fJ/\nx3 x.f (1:Int) false=nx3 x_1.f (1:Int) false/\N7 x.f x_1.f)/\jQ x.a x_1.a.L
theorem aks(x:ZPs):akr x=ctrT (vJ 1) ((tH 1).args x) (hO 11 (flatP 1 ((tH 1).l x))) (λv h'=>endsPK 1 x v h' (tH 1).outs):=by kernel_rfl
def akt(x:ZPs):Prop:=
 ∃x_1:ZPs,Hd (x_1.f.key.size<1099511627776/\x_1.f.pos.size<1099511627776/\((2:Int)=3->x_1.miss->x_1.f.line<0))/\(0=0/\(x_1.t:Int)=(x.t:Int)/\((2:Int)=2/\NY x_1.f x.f)/\True)/\Oa x_1.a.L x.a.L/\(∀y:ZLnk,Hd (x_1.goes y)->(∃y_1:ZLnk,Hd (x.goes y_1)/\((2:Int)=2/\NZ x.f x_1.f y_1.key y.key)/\jQ x.a x_1.a.L)\/(∃y_1:ZLnk,Hd (x.hit y_1)/\((2:Int)=2/\x.f.key=x_1.f.key/\x.f.value=x_1.f.value/\x.f.to=x_1.f.to/\fJ/\nx3 x.f (2:Int) true=1/\x.f.epoch=x_1.f.epoch/\x.f.pos=y.key/\x.f.past=true/\(0:Int)=0/\true=x_1.f.had/\y_1.key=x_1.f.old.key/\y_1.id=x_1.f.old.id/\y_1.ver=x_1.f.old.ver/\y_1.line=x_1.f.old.line/\y_1.cls=x_1.f.old.cls/\YS x.f x_1.f)/\jQ x.a x_1.a.L)\/ ∃y_1:Unit,Hd x.miss/\((2:Int)=2/\x.f.key=x_1.f.key/\x.f.value=x_1.f.value/\x.f.to=x_1.f.to/\fJ/\nx3 x.f (2:Int) false=1/\N8 x.f x_1.f y.key)/\jQ x.a x_1.a.L)/\(∀y:ZLnk,Hd (x_1.hit y)->(∃y_1:ZLnk,Hd (x.goes y_1)/\((2:Int)=2/\x.f.key=x_1.f.key/\x.f.value=x_1.f.value/\x.f.to=x_1.f.to/\fJ/\1=nx3 x_1.f (2:Int) true/\x.f.epoch=x_1.f.epoch/\y_1.key=x_1.f.pos/\true=x_1.f.past/\(0:Int)=0/\x.f.had=true/\x.f.old.key=y.key/\x.f.old.id=y.id/\x.f.old.ver=y.ver/\x.f.old.line=y.line/\x.f.old.cls=y.cls/\YT x.f x_1.f)/\jQ x.a x_1.a.L)\/(∃y_1:ZLnk,Hd (x.hit y_1)/\((2:Int)=2/\x.f.key=x_1.f.key/\x.f.value=x_1.f.value/\x.f.to=x_1.f.to/\fJ/\nx3 x.f (2:Int) true=nx3 x_1.f (2:Int) true/\x.f.epoch=x_1.f.epoch/\x.f.pos=x_1.f.pos/\x.f.past=x_1.f.past/\(0:Int)=0/\true=true/\y_1.key=y.key/\y_1.id=y.id/\y_1.ver=y.ver/\y_1.line=y.line/\
 y_1.cls=y.cls/\x.f.line=x_1.f.line/\x.f.cls=x_1.f.cls/\ite ((2:Int)=1) (0:Int) x.f.piece=ite ((2:Int)=1) (0:Int) x_1.f.piece/\y8 x.f x_1.f)/\jQ x.a x_1.a.L)\/ ∃y_1:Unit,Hd x.miss/\((2:Int)=2/\x.f.key=x_1.f.key/\x.f.value=x_1.f.value/\x.f.to=x_1.f.to/\fJ/\nx3 x.f (2:Int) false=nx3 x_1.f (2:Int) true/\x.f.epoch=x_1.f.epoch/\x.f.pos=x_1.f.pos/\x.f.past=x_1.f.past/\(0:Int)=0/\false=true/\ByteArray.mk #[]=y.key/\0=y.id/\0=y.ver/\0=y.line/\0=y.cls/\YT x.f x_1.f)/\jQ x.a x_1.a.L)/\ ∀y:Unit,Hd x_1.miss->(∃y_1:ZLnk,Hd (x.goes y_1)/\((2:Int)=2/\x.f.key=x_1.f.key/\x.f.value=x_1.f.value/\x.f.to=x_1.f.to/\fJ/\1=nx3 x_1.f (2:Int) false/\N9 x.f x_1.f y_1.key)/\jQ x.a x_1.a.L)\/(∃y_1:ZLnk,Hd (x.hit y_1)/\((2:Int)=2/\x.f.key=x_1.f.key/\x.f.value=x_1.f.value/\x.f.to=x_1.f.to/\fJ/\nx3 x.f (2:Int) true=nx3 x_1.f (2:Int) false/\x.f.epoch=x_1.f.epoch/\x.f.pos=x_1.f.pos/\x.f.past=x_1.f.past/\(0:Int)=0/\true=false/\y_1.key=ByteArray.mk #[]/\y_1.id=0/\y_1.ver=0/\y_1.line=0/\y_1.cls=0/\YS x.f x_1.f)/\jQ x.a x_1.a.L)\/ ∃y_1:Unit,Hd x.miss/\((2:Int)=2/\x.f.key=x_1.f.key/\x.f.value=x_1.f.value/\x.f.to=x_1.f.to/\fJ/\nx3 x.f (2:Int) false=nx3 x_1.f (2:Int) false/\N7 x.f x_1.f)/\jQ x.a x_1.a.L
theorem aku(x:ZPs):akt x=ctrT (vJ 2) ((tH 2).args x) (hO 11 (flatP 1 ((tH 2).l x))) (λv h'=>endsPK 1 x v h' (tH 2).outs):=by kernel_rfl
theorem YU(x:ZPs)(hx:(tH 1).pre x):akr x:=by
 unfold akr;simp only[NY,Oa,NZ,jQ,fJ,YQ,N8,YR,y8,N9,N7,AZ,YO,YN,akq,NW,YP];simp only[aZ,aV,aU,aA,aI,bQ,bF,aO,aK,ay,aX,aW,bT,bG,bH,bI,bU,bC,bJ,bn,eH,aH,aN,ah,ak,aB,aF,aC,aG];refine⟨x,aZ.1 hx,?_,?_,?_,?_,?_⟩
 ·simp
 ·rfl
 ·exactλy h=> .inl ⟨y,h,by simp,by simp⟩
 ·exactλy h=> .inr (.inl ⟨y,h,by simp,by simp⟩)
 ·exactλh=> .inr (.inr ⟨h,by simp,by simp⟩)
theorem YV(x:ZPs)(hx:(tH 2).pre x):akt x:=by
 unfold akt;simp only[NY,Oa,NZ,jQ,fJ,YS,N8,YT,y8,N9,N7,AZ,YO,YN,akq,NW,YP];simp only[aZ,aV,aU,aA,aI,bQ,bF,aO,aK,ay,aX,aW,bT,bG,bH,bI,bU,bC,bJ,bn,eH,aH,aN,ah,ak,aB,aF,aC,aG];refine⟨x,aZ.1 hx,?_,?_,?_,?_,?_⟩
 ·simp
 ·rfl
 ·exactλy h=> .inl ⟨y,h,by simp,by simp⟩
 ·exactλy h=> .inr (.inl ⟨y,h,by simp,by simp⟩)
 ·exactλh=> .inr (.inr ⟨h,by simp,by simp⟩)
theorem akv:bY Tryz.prog 34 (tH 1).ctr:=jw (bM akh) 11 (λ_=>⟨rfl,rfl,rfl,rfl⟩) λx hx=>Eq.mp (aks x) (YU x hx)
theorem akw:bY Tryz.prog 34 (tH 2).ctr:=jw (bM aev) 11 (λ_=>⟨rfl,rfl,rfl,rfl⟩) λx hx=>Eq.mp (aku x) (YV x hx)
structure ZKs where
 a:ZSto
 f:ZFp
 ph:Int
namespace ZKs
def ps(s:ZKs)(t:Nat):ZPs:=⟨s.a,s.f,t⟩
def pp(s:ZKs)(t ln:Nat):ZPp:=⟨s.a,s.f,t,ln⟩
end ZKs
def wP(k:Int)(t:Nat)(b:ZBlk)(n:Nat)(s:ZKs)(Q:Nat->ZKs->Prop):Prop:=
 (s.ph=0/\n=0/\(s.a.r.ok/\s.a.c.ok/\s.a.ph<=4/\t<s.a.r.t/\s.a.r.has t=0)/\(goodP k s.f.key s.f.value≠0->Q 0 ⟨s.a,{s.f with code:=goodP k s.f.key s.f.value},7⟩)/\(goodP k s.f.key s.f.value=0->Q 0 ⟨s.a.GN t s.a.r.now,{s.f with epoch:=s.a.c.now},1⟩))\/
 (s.ph=1/\n=0/\(s.f.key.size<1099511627776/\s.f.pos.size<1099511627776/\(k=3->(s.ps t).miss->s.f.line<0))/\(∀y,(s.ps t).goes y->Q 0 ⟨s.a,{s.f with pos:=y.key,past:=true},1⟩)/\(∀y,(s.ps t).hit y->Q 0 ⟨s.a,{s.f with had:=true,old:=y,piece:=if k=1 then 0 else s.f.piece},nx3 s.f k true⟩)/\((s.ps t).miss->Q 0 ⟨s.a,{s.f with had:=false,old:=iT},nx3 s.f k false⟩))\/
 (s.ph=1/\n=0/\k=3/\ ∃i j,(s.f.key.size<1099511627776/\s.f.pos.size<1099511627776/\fM.ok ⟨s.a.p,i,j⟩/\(s.ps t).miss)/\s.f.line=fM.line ⟨s.a.p,i,j⟩/\Q 0 ⟨s.a.X7 (s.a.p.give i j),{s.f with had:=false,old:=iT,line:= -1},6⟩)\/
 (s.ph=2/\k=1/\ ∃ln:Nat,s.f=(ZPr.mk s.a s.f t b ln n).fr n/\(ZPr.mk s.a s.f t b ln n).ok/\(n+1≠spn b.cls->Q (n+1) ⟨s.a,{s.f with piece:=(n+1:Nat)},2⟩)/\(n+1=spn b.cls->Q 0 ⟨s.a,{s.f with piece:=(n+1:Nat),found:=true,ans:=b.value},6⟩))\/
 (s.ph=3/\n=0/\(k=2\/k=3)/\(s.a.p.ok/\s.f.key.size<=16/\s.f.value.size<=400)/\((∀i,i<s.a.p.n->s.a.p.cls i≠ -1/\s.a.p.full ((s.ps t).nd k) i)->Q 0 ⟨s.a,{s.f with cls:=(s.ps t).nd k,code:=4},6⟩)/\
  ∀i j:Nat,s.a.p.takes ((s.ps t).nd k) i j->Q 0 ⟨s.a.X7 (s.a.p.take ((s.ps t).nd k) i j),{s.f with cls:=(s.ps t).nd k,line:=2+i*8+j*spn ((s.ps t).nd k),piece:=0},4⟩)\/
 (s.ph=4/\n=0/\ ∃ln p:Nat,(k=2\/k=3/\p=0)/\s.f=(ZPw.mk s.a s.f t ln s.f.cls p).fr p/\(ZPw.mk s.a s.f t ln s.f.cls p).ok/\(p+1≠spn s.f.cls->Q 0 ⟨s.a.GR (ZPw.mk s.a s.f t ln s.f.cls p).d',{s.f with piece:=(p+1:Nat)},4⟩)/\(p+1=spn s.f.cls->Q 0 ⟨s.a.GR (ZPw.mk s.a s.f t ln s.f.cls p).d',{s.f with piece:=0},5⟩))\/
 (s.ph=5/\n=0/\(k=2\/k=3/\s.f.had=true)/\ ∃ln:Nat,s.f.line=ln/\((s.pp t ln).pt k).ok k s.f.had/\Q 0 ⟨((s.pp t ln).pt k).cg.res k s.f.had,{s.f with found:=s.f.had,aep:=s.f.epoch,line:= -1},6⟩)\/
 (s.ph=5/\n=0/\(k=2\/k=3/\s.f.had=true)/\ ∃ln:Nat,s.f.line=ln/\((s.pp t ln).pt k).bad s.f.had/\Q 0 ⟨s.a,{s.f with epoch:=s.a.c.now,pos:=emp,past:=false,had:=false,old:=iT},1⟩)\/
 (s.ph=6/\n=0/\(s.a.r.ok/\t<s.a.r.t)/\Q 0 ⟨s.a.GN t 0,s.f,7⟩)\/
 (s.ph=7/\n=0/\Q 0 s)
structure ZWk where
 s:ZKs
 t:Nat
 b:ZBlk
 n:Nat
 q:Nat->ZKs->Prop
noncomputable def TM(k:Int):Ctr:={X:=ZWk,args:=λx=>[.ptr 0 0,i64 x.t,x.s.f.av k x.s.ph ig],k:=1,os:=λx=>[.abs (ownM x.s.a.os)],pre:=λx=>Hd (x.n=0/\wP k x.t x.b 0 x.s x.q),outs:=[
 {Y:=ZKs,post:=λx y=>Hd (x.q 0 y),ret:=λ_ y=>y.f.av k y.ph ig,m:=1,os:=λ_ y=>[.abs (ownM y.a.os)]},
 {Y:=ZKs,post:=λx y=>Hd (x.q 1 y/\y.ph=2/\k=1),ret:=λ_ y=>y.f.av k 2 (.slW 1 0 1 64),m:=2,os:=λx y=>[.abs (ownM y.a.os),adv x.b.enc 64]}]}
noncomputable def TN(k:Int):Ctr:={X:=ZWk,args:=λx=>[.ptr 0 0,i64 x.t,x.s.f.av k x.s.ph ig],k:=1,os:=λx=>[.abs (ownM x.s.a.os)],pre:=λx=>Hd (x.n=0/\wP k x.t x.b 0 x.s x.q),outs:=[
 {Y:=ZKs,post:=λx y=>Hd (x.q 0 y),ret:=λ_ y=>y.f.av k y.ph ig,m:=1,os:=λ_ y=>[.abs (ownM y.a.os)]}]}
noncomputable def apH:Ctr:={X:=ZWk,args:=λx=>[.ptr 0 0,i64 x.t,x.s.f.av 1 2 (.slW 1 0 1 (64*x.n))],k:=2,os:=λx=>[.abs (ownM x.s.a.os),adv x.b.enc (64*x.n)],pre:=λx=>Hd (x.n≠0/\x.s.ph=2/\wP 1 x.t x.b x.n x.s x.q),outs:=[
 {Y:=ZKs,post:=λx y=>Hd (x.q 0 y),ret:=λ_ y=>y.f.av 1 y.ph ig,m:=2,os:=λx y=>[.abs (ownM y.a.os),adv x.b.enc (64*x.n)]},
 {Y:=ZKs,post:=λx y=>Hd (x.q (x.n+1) y/\y.ph=2),ret:=λx y=>y.f.av 1 2 (.slW 2 0 1 (64*(x.n+1))),m:=3,os:=λx y=>[.abs (ownM y.a.os),adv x.b.enc (64*x.n),adv x.b.enc (64*(x.n+1))]}]}
theorem auY{X:Type}{x:X}{v:AV}{h':Heap}{o p q:Out X}(h:kU x v h' [o,p,q]):(∃y,o.post x y/\v=o.ret x y/\h'=hO o.m (o.os x y))\/(∃y,p.post x y/\v=p.ret x y/\h'=hO p.m (p.os x y))\/ ∃y,q.post x y/\v=q.ret x y/\h'=hO q.m (q.os x y):=by
 rw[dU]at h;rcases h with h|h
 ·exact .inl h
 ·exact .inr (pR h)
theorem abt{k:Int}(hen:bY Tryz.prog 34 (qG k).ctr)(hfi:bY Tryz.prog 34 (tH k).ctr)(hgi:k=3->bY Tryz.prog 34 auT.ctr)(hre:k=1->bY Tryz.prog 34 TF.ctr)(hta:k=2\/k=3->bY Tryz.prog 34 (TB k).ctr)(hwr:k=2\/k=3->bY Tryz.prog 34 (FY k).ctr)(hw1:k=2->bY Tryz.prog 34 FZ.ctr)(hpu: ∀had,k=2\/k=3/\had=true->bY Tryz.prog 34 (Nc k had))(hrt: ∀had,k=2\/k=3/\had=true->bY Tryz.prog 34 (Nh k had).ctr)(hle:bY Tryz.prog 34 (qH k).ctr)(hdo:bY Tryz.prog 34 (y5 k)):bY Tryz.prog 34 (TM k):=jP λx hx=>by
 obtain⟨⟨a,f,ph⟩,t,b,n,q⟩:=x;obtain⟨hn,hx⟩:=aZ.1 hx;have hn:n=0:=hn;subst hn;rcases hx with ⟨hp,_,h,q1,q2⟩|⟨hp,_,h,q1,q2,q3⟩|⟨hp,_,h3,i,j,h,hl,q1⟩|⟨hp,h1,ln,hf,h,q1,q2⟩|⟨hp,_,h3,h,q1,q2⟩|⟨hp,_,ln,p,h3,hf,h,q1,q2⟩|⟨hp,_,h3,ln,hl,h,q1⟩|⟨hp,_,h3,ln,hl,h,q1⟩|⟨hp,_,h,q1⟩|⟨hp,_,q1⟩
 all_goals (have hp:ph=_:=hp;subst hp)
 ·refine⟨_,hen,rfl,⟨a,f,t⟩,aZ.2 h,rfl,rfl,λv h' hh=> ?_⟩
  rcases pR hh with ⟨y,h0,e1,e2⟩|⟨y,h0,e1,e2⟩
  ·exact eP ⟨⟨a,_,7⟩,aZ.2 (q1 (aZ.1 h0)),e1,e2⟩
  ·exact eP ⟨⟨a.GN t a.r.now,{f with epoch:=a.c.now},1⟩,aZ.2 (q2 (aZ.1 h0)),e1,e2⟩
 ·refine⟨_,hfi,rfl,⟨a,f,t⟩,aZ.2 h,rfl,rfl,λv h' hh=> ?_⟩
  rcases auY hh with ⟨y,h0,e1,e2⟩|⟨y,h0,e1,e2⟩|⟨y,h0,e1,e2⟩
  ·exact eP ⟨⟨a,{f with pos:=y.key,past:=true},1⟩,aZ.2 (q1 y (aZ.1 h0)),e1,e2⟩
  ·exact eP ⟨⟨a,_,_⟩,aZ.2 (q2 y (aZ.1 h0)),e1,e2⟩
  ·exact eP ⟨⟨a,_,_⟩,aZ.2 (q3 (aZ.1 h0)),e1,e2⟩
 ·subst h3
  have hl:f.line=fM.line ⟨a.p,i,j⟩:=hl;have hf:f={f with line:=fM.line ⟨a.p,i,j⟩}:=by rw[<-hl]
  refine⟨_,hgi rfl,rfl,⟨a,f,t,i,j⟩,aZ.2 h,by show [_,_,_]=[_,_,_];rw[hf];first|done|rfl,rfl,λv h' hh=> ?_⟩;obtain⟨y,h0,e1,e2⟩:=jh hh;exact eP ⟨⟨a.X7 (a.p.give i j),{f with had:=false,old:=iT,line:= -1},6⟩,aZ.2 q1,e1,e2⟩
 ·subst h1
  have hf:f=(ZPr.mk a f t b ln 0).fr 0:=hf;refine⟨_,hre rfl,rfl,⟨a,f,t,b,ln,0⟩,aZ.2 ⟨h,rfl⟩,by show [_,_,_]=[_,_,_];rw[hf];first|done|rfl,rfl,λv h' hh=> ?_⟩;rcases pR hh with ⟨y,h0,e1,e2⟩|⟨y,h0,e1,e2⟩
  ·exact BJ ⟨⟨a,{f with piece:=(1:Nat)},2⟩,aZ.2 ⟨q1 (aZ.1 h0),rfl,rfl⟩,e1.trans (by rw[hf];first|done|rfl),e2⟩
  ·exact eP ⟨⟨a,{f with piece:=(1:Nat),found:=true,ans:=b.value},6⟩,aZ.2 (q2 (aZ.1 h0)),e1.trans (by rw[hf];first|done|rfl),e2⟩
 ·refine⟨_,hta h3,rfl,⟨a,f,t⟩,aZ.2 h,rfl,rfl,λv h' hh=> ?_⟩
  rcases pR hh with ⟨y,h0,e1,e2⟩|⟨y,h0,e1,e2⟩
  ·exact eP ⟨⟨a,_,6⟩,aZ.2 (q1 (aZ.1 h0)),e1,e2⟩
  ·exact eP ⟨⟨_,_,4⟩,aZ.2 (q2 _ _ (aZ.1 h0)),e1,e2⟩
 ·have hf:f={f with line:=(ln:Int),cls:=f.cls,piece:=(p:Int)}:=hf
  by_cases h0:p=0
  ·subst h0
   refine⟨_,hwr (h3.imp id And.left),rfl,⟨a,f,t,ln,f.cls,0⟩,aZ.2 ⟨h,rfl⟩,by show [_,_,_]=[_,_,_];rw[hf];first|done|rfl,rfl,λv h' hh=> ?_⟩;rcases pR hh with ⟨y,h0,e1,e2⟩|⟨y,h0,e1,e2⟩
   ·exact eP ⟨⟨a.GR (ZPw.mk a f t ln f.cls 0).d',{f with piece:=(1:Nat)},4⟩,aZ.2 (q1 (aZ.1 h0)),e1.trans (by rw[hf];first|done|rfl),e2⟩
   ·exact eP ⟨⟨a.GR (ZPw.mk a f t ln f.cls 0).d',{f with piece:=0},5⟩,aZ.2 (q2 (aZ.1 h0)),e1.trans (by rw[hf];first|done|rfl),e2⟩
  ·have h2:k=2:=h3.resolve_right λh=>h0 h.2
   subst h2;refine⟨_,hw1 rfl,rfl,⟨a,f,t,ln,f.cls,p⟩,aZ.2 ⟨h,h0⟩,by show [_,_,_]=[_,_,_];rw[hf];first|done|rfl,rfl,λv h' hh=> ?_⟩;rcases pR hh with ⟨y,h0,e1,e2⟩|⟨y,h0,e1,e2⟩
   ·exact eP ⟨⟨a.GR (ZPw.mk a f t ln f.cls p).d',{f with piece:=(p+1:Nat)},4⟩,aZ.2 (q1 (aZ.1 h0)),e1.trans (by rw[hf];first|done|rfl),e2⟩
   ·exact eP ⟨⟨a.GR (ZPw.mk a f t ln f.cls p).d',{f with piece:=0},5⟩,aZ.2 (q2 (aZ.1 h0)),e1.trans (by rw[hf];first|done|rfl),e2⟩
 ·have hf:f={f with had:=f.had,line:=(ln:Int)}:=by
   have hl:f.line=ln:=hl;rw[<-hl]
  refine⟨_,hpu f.had h3,rfl,⟨a,f,t,ln⟩,aZ.2 h,by show [_,_,_]=[_,_,_];rw[hf];first|done|rfl,rfl,λv h' hh=> ?_⟩;obtain⟨y,h0,e1,e2⟩:=jh hh;exact eP ⟨⟨_,{f with found:=f.had,aep:=f.epoch,line:= -1},6⟩,aZ.2 q1,e1,e2⟩
 ·have hf:f={f with had:=f.had,line:=(ln:Int)}:=by
   have hl:f.line=ln:=hl;rw[<-hl]
  refine⟨_,hrt f.had h3,rfl,⟨a,f,t,ln⟩,aZ.2 h,by show [_,_,_]=[_,_,_];rw[hf];first|done|rfl,rfl,λv h' hh=> ?_⟩;obtain⟨y,h0,e1,e2⟩:=jh hh;exact eP ⟨⟨a,{f with epoch:=a.c.now,pos:=emp,past:=false,had:=false,old:=iT},1⟩,aZ.2 q1,e1.trans (by rw[hf];first|done|rfl),e2⟩
 ·refine⟨_,hle,rfl,⟨a,f,t⟩,aZ.2 h,rfl,rfl,λv h' hh=> ?_⟩
  obtain⟨y,h0,e1,e2⟩:=jh hh;exact eP ⟨⟨a.GN t 0,f,7⟩,aZ.2 q1,e1,e2⟩
 ·refine⟨_,hdo,rfl,⟨a,f,t⟩,aZ.2 trivial,rfl,rfl,λv h' hh=> ?_⟩
  obtain⟨y,h0,e1,e2⟩:=jh hh;exact eP ⟨⟨a,f,7⟩,aZ.2 q1,e1,e2⟩
theorem aeC:bY Tryz.prog 34 (TM 1):=abt aeo akv (λh=>by omega) (λ_=>aki) (λh=>by omega) (λh=>by omega) (λh=>by omega) (λ_ h=>by omega) (λ_ h=>by omega) aer ako
theorem aeD:bY Tryz.prog 34 (TM 2):=abt aes akw (λh=>by omega) (λh=>by omega) (λ_=>akg) (λ_=>YM) (λ_=>aex) (λhad _=>match had with
 |false=>akk
 |true=>akm) (λhad _=>match had with
 |false=>akl
 |true=>akn) aeu akp
theorem akx{k:Int}(hk:k=2\/k=3)(h0:bY Tryz.prog 34 (TM k)):bY Tryz.prog 34 (TN k):=jP λx hx=>by
 refine⟨_,h0,rfl,x,hx,rfl,rfl,λv h' hh=> ?_⟩;rcases pR hh with ⟨y,h0,e1,e2⟩|⟨y,h0,e1,e2⟩
 ·exact eP ⟨y,h0,e1,e2⟩
 ·have:=(aZ.1 h0).2.2
  omega
theorem Ju:bY Tryz.prog 34 (TN 2):=akx (.inl rfl) aeD
theorem aky:bY Tryz.prog 34 apH:=jP λx hx=>by
 obtain⟨⟨a,f,ph⟩,t,b,n,q⟩:=x;obtain⟨hn,hp,hx⟩:=aZ.1 hx;have hn:n≠0:=hn;have hp:ph=2:=hp;subst hp;rcases hx with ⟨hp,_⟩|⟨hp,_⟩|⟨hp,_⟩|⟨hp,_,ln,hf,h,q1,q2⟩|⟨hp,_⟩|⟨hp,_⟩|⟨hp,_⟩|⟨hp,_⟩|⟨hp,_⟩|⟨hp,_⟩
 all_goals try exact absurd hp (by show¬(2:Int)=_;decide)
 have hf:f=(ZPr.mk a f t b ln n).fr n:=hf;refine⟨_,akj,rfl,⟨a,f,t,b,ln,n⟩,aZ.2 ⟨h,hn⟩,by show [_,_,_]=[_,_,_];rw[hf];first|done|rfl,rfl,λv h' hh=> ?_⟩;rcases pR hh with ⟨y,h0,e1,e2⟩|⟨y,h0,e1,e2⟩
 ·exact BJ ⟨⟨a,{f with piece:=(n+1:Nat)},2⟩,aZ.2 ⟨q1 (aZ.1 h0),rfl⟩,e1.trans (by rw[hf];first|done|rfl),e2⟩
 ·exact eP ⟨⟨a,{f with piece:=(n+1:Nat),found:=true,ans:=b.value},6⟩,aZ.2 (q2 (aZ.1 h0)),e1.trans (by rw[hf];first|done|rfl),e2⟩
noncomputable def TP:jg:=ql eX (λ_=>[.ptr 0 0]) 1 (λc=>[.m (c.os 0)]) (λc=>Hd (c.ok/\c.jJ=0)) (λ_=>i64 0) 1 (λc=>[.m (c.start.os 1)])
structure ZCd where
 c:eX
 d:DevM
 ph:Nat
def ZCd.cd(x:ZCd):qj:=⟨x.c,x.d⟩
noncomputable def abu:jg:={X:=ZCd,args:=λ_=>[.ptr 0 0,.ptr 1 0],k:=2,l:=λx=>[.m (x.c.os 1),.m x.d.os],pre:=λx=>Hd x.cd.ok,outs:=[
 {Y:=Nat,post:=λx k=>Hd (k<258/\x.c.L k=true/\ ∀j,j<k->x.c.L j=false),ret:=λ_ _=>Hl 1,m:=2,l:=λx k=>[.m ((x.c.aak k).os 1),.m (x.d.flush k).os]},
 {Y:=Unit,post:=λx _=>Hd (∀j,j<258->x.c.L j=false),ret:=λ_ _=>Hl 2,m:=2,l:=λx _=>[.m (x.c.os 2),.m x.d.fence.os]}]}
noncomputable def abv:jg:=ql ZCd (λ_=>[.ptr 0 0,.ptr 1 0]) 2 (λx=>[.m (x.c.os 2),.m x.d.os]) (λx=>Hd x.cd.ok) (λ_=>Hl 3) 2 (λx=>[.m (x.c.os 3),.m (x.d.store 1 0 64 (iE x.c.jJ)).os])
noncomputable def abw:jg:=ql ZCd (λ_=>[.ptr 0 0,.ptr 1 0]) 2 (λx=>[.m (x.c.os 3),.m x.d.os]) (λx=>Hd x.cd.ok) (λ_=>Hl 1) 2 (λx=>[.m (x.c.os 4),.m (x.d.flush 1).os])
noncomputable def abx:jg:=ql ZCd (λ_=>[.ptr 0 0,.ptr 1 0]) 2 (λx=>[.m (x.c.os 4),.m x.d.os]) (λx=>Hd x.cd.ok) (λ_=>Hl 2) 2 (λx=>[.m (x.c.fin.os 0),.m x.d.fence.os])
noncomputable def aby:jg:=ql ZCd (λ_=>[.ptr 0 0,.ptr 1 0]) 2 (λx=>[.m (x.c.os 0),.m x.d.os]) (λx=>Hd (x.c.jJ=0)) (λ_=> .tup [i64 0,i64 12]) 2 (λx=>[.m (x.c.os 0),.m x.d.os])

theorem Ob{p:ZPool}(hp:p.good){L:Int}{i j:Nat}(h:p.at_ L i j):2<=L/\L+spn (p.cls i)<=2+p.n*8/\0<=p.cls i/\p.cls i<=3:=by
 obtain⟨h1,h2,h3,h4,h5⟩:=h;have h6:=(hp.1.2.2 i h1).2.1;refine⟨?_,?_,h2,h6⟩
 all_goals (rcases gG (p.cls i)with m|m|m|m|m<;>obtain⟨m1,m2,m3⟩:=m<;>rw[m2]at h5<;>(try rw[m2])<;>omega)
theorem TQ{p:ZPool}(hp:p.good){L L':Int}{i j i' j':Nat}(h:p.at_ L i j)(h':p.at_ L' i' j')(hne:L≠L'):L+spn (p.cls i)<=L'\/L'+spn (p.cls i')<=L:=by
 obtain⟨a1,a2,a3,a4,a5⟩:=h;obtain⟨b1,b2,b3,b4,b5⟩:=h';have a6:=(hp.1.2.2 i a1).2.1;have b6:=(hp.1.2.2 i' b1).2.1;by_cases e:i=i'
 ·subst e
  have hj:j≠j':=λe=>by subst e;exact hne (a5.trans b5.symm)
  rcases gG (p.cls i)with m|m|m|m|m<;>obtain⟨m1,m2,m3⟩:=m<;>rw[m2]at a5 b5 ⊢<;>omega
 ·rcases gG (p.cls i)with m|m|m|m|m<;>rcases gG (p.cls i')with m'|m'|m'|m'|m'<;>obtain⟨m1,m2,m3⟩:=m<;>obtain⟨m1',m2',m3'⟩:=m'<;>rw[m2]at a5<;>rw[m2']at b5<;>rw[m2,m2']<;>omega
section
variable{a:aiu}{T M:Nat}{b:Nat->ZBlk}
end
theorem akz{n:Nat}(h:n<=416):0<=ned n/\ned n<=3:=by
 unfold ned
 repeat' split
 all_goals omega
theorem aot{L:Lks}{i:Nat}(h:i<L.length):nthL L i∈L:=by
 unfold nthL;rw[List.getD_eq_getElem?_getD,List.getElem?_eq_getElem h];exact List.getElem_mem h
def PBy(d:DevM)(b:ZBlk)(ln:Nat):Prop:=b.may/\b.kind=1/\ln+spn b.cls<=d.n/\ ∀q,q<64*b.dK->d.b ((ln+q/64)*193+q%64)=b.enc q
structure eu (a:ZSto) (T M N:Nat) (B:ByteArray->ZBlk):Prop where
 dok:a.d.ok
 dst:a.d.st<=M
 dfl:a.d.fl<=M
 dfe:a.d.fe<=M
 rok:a.r.ok
 rt:a.r.t=T
 cok:a.c.ok
 ct:a.c.t=T
 ph:a.ph=0
 jJ:a.c.jJ=0
 pg:a.p.good
 fit:2+a.p.n*8<=a.d.n
 bok:a.b.ok
 lok:a.l.ok
 ln:a.l.n=0
 srt:srt a.L
 len:a.L.length<=N
 id0:0<=a.id
 id1:a.id<=M
 v0:0<=a.ver
 v1:a.ver<=M
 nn:a.n<=M
 asD:1<=a.c.now
 apI:a.c.now<=M
 owed: ∀k,a.c.o k<=M
 used: ∀K:Int,2<=K->((∃y∈a.L,y.line=K)\/arC.inB ⟨a.b,a.l,K⟩)->a.p.has K
 q: ∀y∈a.L,∃ln:Nat,y.line=ln/\(B y.key).key=y.key/\(B y.key).id=y.id/\(B y.key).ver=y.ver/\(B y.key).cls=y.cls/\PBy a.d (B y.key) ln/\ ∃i j,a.p.at_ ln i j/\a.p.cls i=y.cls
def lI(a:ZSto)(K:Nat)(c:Int):Prop:=(∃i j,a.p.at_ K i j/\a.p.cls i=c)/\(∀y∈a.L,y.line≠K)/\ ¬arC.inB ⟨a.b,a.l,K⟩
def TR(d:DevM)(ln:Nat)(key v:ByteArray)(n:Nat):Prop:= ∀m r:Nat,1<=m->m<n->r<64->d.b ((ln+m)*193+r)=(ZBlk.mk 0 1 0 0 0 key v).enc (64*m+r)
def updB(B:ByteArray->ZBlk)(s:ByteArray)(b:ZBlk):ByteArray->ZBlk:=λk=>if k=s then b else B k
section
variable{a:ZSto}{T M N:Nat}{B:ByteArray->ZBlk}
theorem eu.up(g:eu a T M N B){M' N':Nat}(h:M<=M')(hN:N<=N'):eu a T M' N' B:=
 {g with dst:=by have:=g.dst;omega,dfl:=by have:=g.dfl;omega,dfe:=by have:=g.dfe;omega,len:=Nat.le_trans g.len hN,id1:=by have:=g.id1;omega,v1:=by have:=g.v1;omega,nn:=by have:=g.nn;omega,apI:=by have:=g.apI;omega,owed:=λk=>by have:=g.owed k;omega}
theorem lI.fits{K:Nat}{c:Int}(h:lI a K c)(g:eu a T M N B):2<=K/\(K:Int)+spn c<=a.d.n/\0<=c/\c<=3/\K<258/\a.d.n<=258:=by
 obtain⟨⟨i,j,h1,rfl⟩,_⟩:=h;obtain⟨f1,f2,f3,f4⟩:=Ob g.pg h1;have:=g.fit;have:=g.dok.1;have s:=dM (a.p.cls i);refine⟨by omega,by omega,f3,f4,by omega,this⟩
theorem lI.apart{K:Nat}{c:Int}(h:lI a K c)(g:eu a T M N B){y:ZLnk}(hy:y∈a.L){ln:Nat}(hl:y.line=ln):ln+(B y.key).dK<=K\/K+(spn c).toNat<=ln:=by
 obtain⟨⟨i,j,h1,rfl⟩,h2,_⟩:=h;obtain⟨ln',q1,_,_,_,q5,_,i',j',q2,q3⟩:=g.q y hy;have e:(ln':Int)=ln:=by rw[<-hl,q1]
 have e:ln'=ln:=by omega
 subst e;have hne:(ln':Int)≠K:=λe=>h2 y hy (by rw[hl,e])
 have:=TQ g.pg q2 h1 hne;rw[q3,<-q5]at this;have s:=wB (B y.key);have s2:=dM (a.p.cls i);omega
theorem PBy.keep{d d':DevM}{b:ZBlk}{ln:Nat}(h:PBy d b ln)(h2:d'.n=d.n){L n:Nat}(h0:2<=ln)(hb: ∀m r:Nat,2<=m->r<64-> ¬(L<=m/\m<L+n)->d'.b (m*193+r)=d.b (m*193+r))(hs:ln+b.dK<=L\/L+n<=ln):PBy d' b ln:=by
 obtain⟨q3,q4,q5,q6⟩:=h;refine⟨q3,q4,by rw[h2];exact q5,λq hq=> ?_⟩;rw[hb _ _ (by omega) (by omega) (by omega)];exact q6 q hq
theorem eu.dev(g:eu a T M N B){d':DevM}{M':Nat}(hM:M<=M')(h1:d'.ok)(h2:d'.n=a.d.n)(h3:d'.st<=M')(h4:d'.fl<=M')(h5:d'.fe<=M'){L n:Nat}(hb: ∀m r:Nat,2<=m->r<64-> ¬(L<=m/\m<L+n)->d'.b (m*193+r)=a.d.b (m*193+r))
  (hs: ∀y∈a.L,∀ln:Nat,y.line=ln->ln+(B y.key).dK<=L\/L+n<=ln):eu (a.GR d') T M' N B:=by
 have g':=g.up hM (aY N);refine{g' with dok:=h1,dst:=h3,dfl:=h4,dfe:=h5,fit:=by show 2+a.p.n*8<=d'.n;rw[h2];exact g.fit,q:=λy hy=> ?_};obtain⟨ln,q1,k1,k2,k3,k4,q2,i',j',q7,q8⟩:=g.q y hy;have hf:=Ob g.pg q7;exact⟨ln,q1,k1,k2,k3,k4,q2.keep h2 (by omega) hb (hs y hy ln q1),i',j',q7,q8⟩
theorem eu.write(g:eu a T M N B)(hM:M<=1000000){K:Nat}{c:Int}(h:lI a K c){t:Nat}{f:ZFp}(hk:f.key.size<=16)(hv:f.value.size<=400){p:Nat}(hp:(p:Int)<spn c):
  (ZPw.mk a f t K c p).ok/\eu (a.GR (ZPw.mk a f t K c p).d') T (M+20) N B/\(TR a.d K f.key f.value p->TR (ZPw.mk a f t K c p).d' K f.key f.value (p+1))/\ ∀m r:Nat,r<64-> ¬(K<=m/\m<K+(spn c).toNat)->(ZPw.mk a f t K c p).d'.b (m*193+r)=a.d.b (m*193+r):=by
 obtain⟨f1,f2,f3,f4,f5,f6⟩:=h.fits g;have hs:=dM c;have d1:=g.dst;have d2:=g.dfl;have d3:=g.dfe;have hd:=g.dok;have w:(ZPw.mk a f t K c p).ok:=⟨hd,f3,f4,f2,hp,hk,hv,by show a.d.st+10<_;omega⟩;have key: ∃g0:Nat->Int,(∀q,0<=g0 q/\g0 q<256)/\(ZPw.mk a f t K c p).d'=a.d.store (K+p) 0 64 g0/\(1<=p-> ∀r,g0 r=(ZBlk.mk c 1 0 0 0 f.key f.value).enc (64*p+r)):=by
  unfold ZPw.d';by_cases e:p=0
  ·subst e
   rw[if_pos rfl];exact⟨_,aaW ⟨f3,f4⟩,rfl,λh=>absurd h (by decide)⟩
  ·rw[if_neg e]
   exact⟨_,λq=>aiA _ (by show 64<=64*p+q;omega),rfl,λ_ r=>rfl⟩
 obtain⟨g0,k1,k2,k3⟩:=key;have hb: ∀m r:Nat,r<64-> ¬(K<=m/\m<K+(spn c).toNat)->(a.d.store (K+p) 0 64 g0).b (m*193+r)=a.d.b (m*193+r):=λm r hr hm=>by
  rw[zS _ _ _ _ _ hr,if_neg (by omega)]
 rw[k2];refine⟨w,g.dev (by omega) (DevM.pV hd _ _ _ k1 (by omega)) rfl (by show a.d.st+1<=_;omega) (by show a.d.fl<=_;omega) (by show a.d.fe<=_;omega) (L:=K) (n:=(spn c).toNat) (λm r _ hr hm=>hb m r hr hm) (λy hy ln hl=>h.apart g hy hl),λhdat m r h1 h2 h3=> ?_,hb⟩;rw[zS _ _ _ _ _ h3];by_cases e:m=p
 ·subst e
  rw[if_pos rfl,k3 h1];exact aiG (x:=ZBlk.mk c 1 0 0 0 f.key f.value) (y:=ZBlk.mk 0 1 0 0 0 f.key f.value) rfl rfl (by omega)
 ·rw[if_neg (by omega)]
  exact hdat m r h1 (by omega) h3
theorem eu.take(g:eu a T M N B){c:Int}(hc:0<=c/\c<=3){i j:Nat}(h:a.p.takes c i j): ∃K:Nat,(K:Int)=2+i*8+j*spn c/\eu (a.X7 (a.p.take c i j)) T M N B/\lI (a.X7 (a.p.take c i j)) K c/\ ¬a.p.has K:=by
 obtain⟨l1,l2⟩:=adz g.pg hc h;obtain⟨n1,n2⟩:=at_new g.pg hc.1 h;have no:=am5 g.pg hc h;refine⟨2+i*8+j*(spn c).toNat,l1,?_,⟨⟨i,j,by rw[l1];exact n1,n2⟩,λy hy e=> ?_,λhu=> ?_⟩,by rw[l1];exact no⟩
 ·refine{g with pg:=aiE g.pg hc h,used:=λL hL hu=>am6 (take_at g.pg h) (g.used L hL hu),q:=λy hy=> ?_}
  obtain⟨ln,q1,k1,k2,k3,k4,q2,i',j',q7,q8⟩:=g.q y hy;obtain⟨q9,q10⟩:=take_at g.pg h _ _ _ q7;exact⟨ln,q1,k1,k2,k3,k4,q2,i',j',q9,q10.trans q8⟩
 ·exact no (l1▸g.used _ (by omega) (.inl ⟨y,hy,e⟩))
 ·exact no (l1▸g.used _ (by omega) (.inr hu))
theorem eu.GN(g:eu a T M N B){t:Nat}{v:Int}:eu (a.GN t v) T M N B:={g with rok:=g.rok,rt:=g.rt}
end
section
variable{a:ZSto}{T M N:Nat}{B:ByteArray->ZBlk}
theorem asE{b:ZBlk}(h:b.may)(hk:b.kind=1):1<=b.id/\b.id<=2305843009213693952:=by
 rcases h.2 with h|h|h|h
 ·exfalso;have:=h.1;omega
 ·exact h.2.2.2.2.2.1
 ·exfalso;have:=h.1;omega
 ·exfalso;have:=h.1;omega
theorem eu.old(g:eu a T M N B){y:ZLnk}(hy:y∈a.L):(1<=y.id/\y.id<=2305843009213693952)/\2<=y.line/\y.line<258/\0<=y.cls/\y.cls<=3/\ ∃i j,a.p.at_ y.line i j:=by
 obtain⟨ln,q1,k1,k2,k3,k4,q2,i,j,q7,q8⟩:=g.q y hy;obtain⟨g1,g2,g3,g4⟩:=Ob g.pg q7;have hfit:=g.fit;have:=g.dok.1;have hs:=dM (a.p.cls i);have hn:=asE q2.1 q2.2.1;refine⟨by rw[<-k2];exact hn,by omega,by omega,by omega,by omega,i,j,by rw[q1];exact q7⟩
theorem aou{x:ZPt}{K:Nat}(h:lI x.a K x.x.cls)(hk:x.ln=K): ∃i j,x.inP i j/\x.a.p.cls i=x.x.cls:=by
 obtain⟨⟨i,j,⟨a1,a2,a3,a4,a5⟩,h2⟩,_⟩:=h;exact⟨i,j,⟨a1,a2,a3,a4,by rw[hk];exact a5⟩,h2⟩
theorem asF{x:ZPt}{K:Nat}(hk:x.ln=K)(hl:x.a.l.n=0)(h:lI x.a K x.x.cls): ¬x.us.used:=by
 subst hk
 rintro (⟨i,hi,h1⟩|⟨i,hi,_⟩|h1)
 ·exact h.2.1 _ (aot hi) h1
 ·have hi:i<x.a.l.n:=hi
  omega
 ·exact h.2.2 h1
theorem Jv(c:eX)(t:Nat)(L:Int): ∀n,(c.notes t L n).jJ=c.jJ
 |0=>rfl
 |n+1=>Jv c t L n
theorem eu.put(g:eu a T M N B)(hM:M<=1000000)(hN:N<=200){t K:Nat}(ht:t<T){f:ZFp}{had:Bool}(h:lI a K f.cls)(hk0:f.key.size≠0)(hk:f.key.size<=16)(hv:f.value.size<=400)(hc:f.cls=ned ((f.key.size+f.value.size:Nat):Int))(he:f.epoch=a.c.now)
  (hw:gI a.L f.key=if had=true then some f.old else none) (hd:TR a.d K f.key f.value (spn f.cls).toNat):
  ((ZPp.mk a f t K).pt 2).ok 2 had/\eu (((ZPp.mk a f t K).pt 2).cg.res 2 had) T (M+20) (N+1) (updB B f.key (((ZPp.mk a f t K).pt 2).cg.blk 2 had)):=by
 obtain⟨f1,f2,f3,f4,f5,f6⟩:=h.fits g;have hs:=dM f.cls;have e1:=g.id0;have e2:=g.id1;have e3:=g.v0;have e4:=g.v1;have e5:=g.nn;have e6:=g.asD;have e7:=g.apI;have e8:=g.dst;have e9:=g.dfl;have e10:=g.dfe;have e11:=g.len;have ho:=g.owed;generalize hP:(ZPp.mk a f t K).pt 2=P;subst hP;let C:ZCg:=((ZPp.mk a f t K).pt 2).cg
 let b:ZBlk:=C.blk 2 had
 have hb:b=⟨f.cls,1,C.idP had,a.ver+1,f.epoch,f.key,f.value⟩:=if_pos rfl;let l:ZLnk:=C.lnk 2 had
 have hl:l=⟨f.key,C.idP had,a.ver+1,K,f.cls⟩:=by show ZLnk.mk b.key b.id (a.ver+1) K b.cls=_;rw[hb]
 have hold:had=true->f.old∈a.L/\f.old.key=f.key:=λe=>by
  rw[if_pos e]at hw;exact oG hw
 have hid:1<=C.idP had/\C.idP had<=2305843009213693952:=by
  show 1<=(bif had then f.old.id else a.id+1)/\_;cases had
  ·show 1<=a.id+1/\a.id+1<=_;omega
  ·exact(g.old (hold rfl).1).1
 have hbm:b.may:=by
  rw[hb];refine⟨RS ⟨f3,f4⟩,.inr (.inl ⟨rfl,by show 1<=f.key.size;omega,hk,hv,hc.symm,hid,?_,?_⟩)⟩
  ·show 1<=a.ver+1/\a.ver+1<=2305843009213693952;omega
  ·show 1<=f.epoch/\f.epoch<=2305843009213693952;omega
 have hsl:(jy a.L l).length<=a.L.length+1:=aa3;have hbs:b.dK=(spn f.cls).toNat:=by rw[hb];rfl
 have hent:had=true->(C.ent 2).may:=λe=>by
  obtain⟨_,o1,o2,o3,o4,_⟩:=g.old (hold e).1;exact⟨o1,o2,o3,o4,by show(-1:Int)<= -1;decide,by show(-1:Int)<258;decide⟩
 refine⟨⟨⟨g.dok,g.cok,by show a.ph<=4;rw[g.ph];decide,by show t<a.c.t;rw[g.ct];exact ht,by show K<a.d.n;omega,f6,hbm,by show f.key.size<_;omega,by show f.value.size<_;omega,e3,by show a.ver<_;omega,e1,by show a.id<_;omega,Int.le_refl 0,show(0:Int)<1152921504606846977 by decide,by show a.n<_;omega,λk=>by have:=ho k;show a.c.o k+8<_;omega,λe=>⟨g.bok,g.rok,hent e⟩,λ_=>by show(jy a.L l).length<=258;omega,λe=>absurd e (by decide)⟩,
  hw,he.symm,g.pg.1,g.bok,g.lok,by show a.l.n<_;rw[g.ln];decide,by show a.L.length<=300;omega,aou (x:=(ZPp.mk a f t K).pt 2) h rfl,asF (x:=(ZPp.mk a f t K).pt 2) rfl g.ln h,λe=>absurd rfl e⟩,?_⟩
 let D:DevM:=a.d.store K 0 64 b.enc
 have hDb: ∀m r:Nat,r<64-> ¬(K<=m/\m<K+(spn f.cls).toNat)->D.b (m*193+r)=a.d.b (m*193+r):=λm r hr hm=>by
  show(a.d.store K 0 64 b.enc).b (m*193+r)=_;rw[zS _ _ _ _ _ hr,if_neg (by omega)]
 have hDok:D.ok:=DevM.pV g.dok _ _ _ (yR hbm) (by omega);have gD:eu (a.GR D) T (M+20) N B:=g.dev (by omega) hDok rfl (by show a.d.st+1<=_;omega) (by show a.d.fl<=_;omega) (by show a.d.fe<=_;omega) (L:=K) (n:=(spn f.cls).toNat) (λm r _ hr hm=>hDb m r hr hm) (λy hy ln hl=>h.apart g hy hl);have hnew:PBy D b K:=by
  refine⟨hbm,by rw[hb],by rw[hb];exact f2,λq hq=> ?_⟩;show(a.d.store K 0 64 b.enc).b ((K+q/64)*193+q%64)=b.enc q;rw[zS _ _ _ _ _ (by omega)];by_cases e:q/64=0
  ·rw[if_pos (by omega),show q%64=q by omega]
  ·rw[if_neg (by omega),hd (q/64) (q%64) (by omega) (by rw[hbs]at hq;omega) (by omega),show 64*(q/64)+q%64=q by omega]
   exact aiG (by rw[hb]) (by rw[hb]) (by omega)
 have hno:=WM a.c t (K:Int) (λk=>(g.cok.2.2.2.2.2 k).1);have hs8:=(wB b).1;have hR:C.res 2 had={a with d:=D,c:=a.c.notes t (K:Int) b.dK,b:=if had=true then a.b.put (C.ent 2)else a.b,L:=jy a.L l,id:=if had=false then a.id+1 else a.id,ver:=a.ver+1,n:=a.n+1,e:=λi=>if i=a.n then C.eff 2 had else a.e i}:=by
  cases had<;>rfl
 show eu (C.res 2 had) T (M+20) (N+1) (updB B f.key b);rw[hR];obtain⟨⟨i0,j0,hi0,hc0⟩,_⟩:=h;have hup:=gD.up (aY _) (Nat.le_succ N)
 exact{hup with
  cok:=yS g.cok (λk=>by have:=ho k;omega) _ _ hs8
  ct:=(rU _ _ _ _).trans g.ct
  jJ:=(Jv _ _ _ _).trans g.jJ
  bok:=by
   show iF.ok (if had=true then a.b.put (C.ent 2)else a.b);split
   ·exact aum g.bok _
   ·exact g.bok
  srt:=uX g.srt
  len:=by show(jy a.L l).length<=N+1;omega
  id0:=by show 0<=(if had=false then a.id+1 else a.id);split<;>omega
  id1:=by show(if had=false then a.id+1 else a.id)<=((M+20:Nat):Int);split<;>omega
  v0:=by show 0<=a.ver+1;omega
  v1:=by show a.ver+1<=((M+20:Nat):Int);omega
  nn:=by show a.n+1<=M+20;omega
  asD:=by show 1<=(a.c.notes t (K:Int) b.dK).now;rw[pW];exact g.asD
  apI:=by show(a.c.notes t (K:Int) b.dK).now<=_;rw[pW];omega
  owed:=λk=>by show(a.c.notes t (K:Int) b.dK).o k<=_;have:=(hno b.dK k).2;have:=ho k;omega
  used:=λX hX hu=>by
   rcases hu with ⟨y,hy,hh⟩|hu
   ·rcases (gU g.srt).1 hy with rfl|⟨hy,_⟩
    ·rw[hl]at hh
     have hh:(K:Int)=X:=hh;exact⟨i0,j0,by rw[<-hh];exact hi0⟩
    ·exact g.used X hX (.inl ⟨y,hy,hh⟩)
   ·have hu:arC.inB ⟨if had=true then a.b.put (C.ent 2)else a.b,a.l,X⟩:=hu
    by_cases e:had=true
    ·rw[if_pos e]at hu
     rcases arN hu with hu|hu|hu
     ·exact g.used X hX (.inr hu)
     ·have hu:f.old.line=X:=hu
      obtain⟨_,_,_,_,_,i,j,hat⟩:=g.old (hold e).1;exact⟨i,j,by rw[<-hu];exact hat⟩
     ·have hu:(-1:Int)=X:=hu
      omega
    ·rw[if_neg e]at hu
     exact g.used X hX (.inr hu)
  q:=λy hy=>by
   rcases (gU g.srt).1 hy with rfl|⟨hy,hne⟩
   ·have e0:updB B f.key b l.key=b:=if_pos (by rw[hl])
    rw[e0];refine⟨K,by rw[hl],by rw[hl,hb],by rw[hl,hb],by rw[hl,hb],by rw[hl,hb],hnew,i0,j0,hi0,by rw[hl];exact hc0⟩
   ·have e0:updB B f.key b y.key=B y.key:=if_neg λe=>hne (by rw[hl];exact e)
    rw[e0]
    exact gD.q y hy}
end
noncomputable def fl(L:Lks)(b:Nat)(pos:ByteArray)(past:Bool)(s:ByteArray):Lks:=L.filter λl=>(decide (bkt l.key=b)&&(!past||kl pos l.key))&&kl l.key s
theorem wM{L:Lks}{b:Nat}{pos:ByteArray}{past:Bool}{y:ZLnk}(h:nextL L b pos past=some y):(bkt y.key=b/\(past=true->kl pos y.key=true))/\ ∃ms bs,L=ms++y::bs/\ ∀x∈ms,(decide (bkt x.key=b)&&(!past||kl pos x.key))=false:=by
 unfold nextL at h;obtain⟨h1,ms,bs,h2,h3⟩:=List.find?_eq_some_iff_append.1 h;rw[aJ,decide_eq_true_eq,Bool.or_eq_true]at h1;refine⟨⟨h1.1,λe=> ?_⟩,ms,bs,h2,λx hx=> ?_⟩
 ·rcases h1.2 with h|h
  ·rw[e]at h;cases h
  ·exact h
 ·have:=h3 x hx
  rwa [Bool.not_eq_true']at this
theorem aov{a b:ByteArray}(h:kl a b=true):kl b a=false:=by
 cases h':kl b a
 ·rfl
 ·exact absurd (jE h h') (by rw[oD];decide)
theorem asG{L:Lks}(hs:srt L){b:Nat}{pos s:ByteArray}{past:Bool}{y:ZLnk}(h:nextL L b pos past=some y)(hy:kl y.key s=true):(fl L b pos past s).length=(fl L b y.key true s).length+1:=by
 obtain⟨⟨h1,h2⟩,ms,bs,rfl,h3⟩:=wM h;have hp:=List.pairwise_append.1 hs;obtain⟨p1,p2,p3⟩:=hp;have q1:=(List.pairwise_cons.1 p2).1;unfold fl;rw[List.filter_append,List.filter_append,List.filter_cons,List.filter_cons];have e1:ms.filter (λl=>(decide (bkt l.key=b)&&(!past||kl pos l.key))&&kl l.key s)=[]:=List.filter_eq_nil_iff.2 λx hx=>by rw[h3 x hx];simp
 have e2:ms.filter (λl=>(decide (bkt l.key=b)&&(!true||kl y.key l.key))&&kl l.key s)=[]:=List.filter_eq_nil_iff.2 λx hx=>by
  rw[aov (p3 x hx y (List.mem_cons_self ..))]
  first|done|simp
 have e3:((decide (bkt y.key=b)&&(!past||kl pos y.key))&&kl y.key s)=true:=by
  rw[hy,decide_eq_true h1];cases past
  ·rfl
  ·rw[h2 rfl];rfl
 have e4:((decide (bkt y.key=b)&&(!true||kl y.key y.key))&&kl y.key s)=false:=by rw[oD];simp
 rw[e1,e2,if_pos e3,if_neg (by rw[e4];decide)];have e5:bs.filter (λl=>(decide (bkt l.key=b)&&(!past||kl pos l.key))&&kl l.key s)=bs.filter (λl=>(decide (bkt l.key=b)&&(!true||kl y.key l.key))&&kl l.key s):=List.filter_congr λx hx=>by
  rw[q1 x hx];cases past
  ·rfl
  ·rw[jE (h2 rfl) (q1 x hx)]
 rw[e5];rfl
theorem apJ{L:Lks}(hs:srt L){b:Nat}{pos s:ByteArray}{past:Bool}(h: ∀y,nextL L b pos past=some y->kl y.key s=false):(fl L b pos past s).length=0:=by
 rw[List.length_eq_zero_iff];refine List.filter_eq_nil_iff.2 λx hx hh=> ?_
 rw[aJ]at hh;cases e:nextL L b pos past with
 |none=>exact absurd hh.1 (List.find?_eq_none.1 e x hx)
 |some y=>
  obtain⟨_,ms,bs,rfl,h3⟩:=wM e;have hy:=h y e;obtain⟨_,p2,_⟩:=List.pairwise_append.1 hs;have q1:=(List.pairwise_cons.1 p2).1;rcases List.mem_append.1 hx with hx|hx
  ·rw[h3 x hx]at hh;cases hh.1
  ·rcases List.mem_cons.1 hx with rfl|hx
   ·rw[hy]at hh;cases hh.2
   ·rw[jE (q1 x hx) hh.2]at hy;cases hy
theorem aeE{L:Lks}(hs:srt L){s pos:ByteArray}{past:Bool}(hp:past=true->kl pos s=true)(h: ∀y,nextL L (bkt s) pos past=some y->kl y.key s=false/\y.key≠s):gI L s=none:=yV λz hz e=>by
 have hz':(decide (bkt z.key=bkt s)&&(!past||kl pos z.key))=true:=by
  rw[e,decide_eq_true rfl];cases past
  ·rfl
  ·rw[hp rfl];rfl
 cases e':nextL L (bkt s) pos past with
 |none=>exact absurd hz' (List.find?_eq_none.1 e' z hz)
 |some y=>
  obtain⟨_,ms,bs,rfl,h3⟩:=wM e';obtain⟨k1,k2⟩:=h y e';obtain⟨_,p2,_⟩:=List.pairwise_append.1 hs;have q1:=(List.pairwise_cons.1 p2).1;rcases List.mem_append.1 hz with hz|hz
  ·rw[h3 z hz]at hz';cases hz'
  ·rcases List.mem_cons.1 hz with rfl|hz
   ·exact k2 e
   ·have:=q1 z hz
    rw[e,k1]at this;cases this
theorem TS{L:Lks}{b:Nat}{pos:ByteArray}{past:Bool}{y:ZLnk}(h:nextL L b pos past=some y):y∈L:=List.mem_of_find?_eq_some h
section
variable{a:ZSto}{T M N:Nat}{B:ByteArray->ZBlk}
theorem eu.key16(g:eu a T M N B){y:ZLnk}(hy:y∈a.L):1<=y.key.size/\y.key.size<=16:=by
 obtain⟨ln,q1,k1,k2,k3,k4,⟨q2,q3,_⟩,_⟩:=g.q y hy;rw[<-k1];rcases q2.2 with h|h|h|h
 ·exfalso;have:=h.1;omega
 ·exact⟨h.2.1,h.2.2.1⟩
 ·exfalso;have:=h.1;omega
 ·exfalso;have:=h.1;omega
noncomputable def ZKs.aeS(s:ZKs):Nat:=(fl s.a.L (bkt s.f.key) s.f.pos s.f.past s.f.key).length
def aow(f:ZFp):Prop:=f.key.size<=16/\f.pos.size<=16/\(f.past=true->kl f.pos f.key=true)
theorem Gp{s:ZKs}(g:eu s.a T M N B){k:Int}{t:Nat}{b:ZBlk}(hp:s.ph=1)(hf:aow s.f)(hl:k=3->s.f.line<0){Q:Nat->ZKs->Prop}
  (h1: ∀y∈s.a.L,aow {s.f with pos:=y.key,past:=true}->s.aeS=(ZKs.mk s.a {s.f with pos:=y.key,past:=true} 1).aeS+1->Q 0 ⟨s.a,{s.f with pos:=y.key,past:=true},1⟩)
  (h2: ∀y,gI s.a.L s.f.key=some y->s.aeS=0->Q 0 ⟨s.a,{s.f with had:=true,old:=y,piece:=if k=1 then 0 else s.f.piece},nx3 s.f k true⟩)
  (h3:gI s.a.L s.f.key=none->s.aeS=0->Q 0 ⟨s.a,{s.f with had:=false,old:=iT},nx3 s.f k false⟩):wP k t b 0 s Q:=by
 obtain⟨f1,f2,f3⟩:=hf;refine .inr (.inl ⟨hp,rfl,⟨by omega,by omega,λe _=>hl e⟩,λy hy=> ?_,λy hy=> ?_,λhm=> ?_⟩)
 ·have hy1:nextL s.a.L (bkt s.f.key) s.f.pos s.f.past=some y:=hy.1
  have hy2:kl y.key s.f.key=true:=hy.2;have hm:=TS hy1;exact h1 y hm ⟨f1,(g.key16 hm).2,λ_=>hy2⟩ (asG g.srt hy1 hy2)
 ·have hy1:nextL s.a.L (bkt s.f.key) s.f.pos s.f.past=some y:=hy.1
  have hy2:y.key=s.f.key:=hy.2;refine h2 y (yU g.srt (TS hy1) hy2) (apJ g.srt λy' hy'=> ?_);rw[hy1]at hy';cases hy';rw[hy2,oD]
 ·have hm: ∀y,nextL s.a.L (bkt s.f.key) s.f.pos s.f.past=some y->kl y.key s.f.key=false/\y.key≠s.f.key:=hm
  exact h3 (aeE g.srt f3 hm) (apJ g.srt λy hy=>(hm y hy).1)
end
section
variable{T M N:Nat}{B:ByteArray->ZBlk}{s:ZKs}{k:Int}{t:Nat}{b:ZBlk}{Q:Nat->ZKs->Prop}
theorem wp0(g:eu s.a T M N B)(ht:t<T)(hr:s.a.r.has t=0)(hp:s.ph=0)
  (h1:goodP k s.f.key s.f.value≠0->Q 0 ⟨s.a,{s.f with code:=goodP k s.f.key s.f.value},7⟩)
  (h2:goodP k s.f.key s.f.value=0->eu (s.a.GN t s.a.r.now) T M N B->Q 0 ⟨s.a.GN t s.a.r.now,{s.f with epoch:=s.a.c.now},1⟩):wP k t b 0 s Q:=
 .inl ⟨hp,rfl,⟨g.rok,g.cok,by rw[g.ph];decide,by rw[g.rt];exact ht,hr⟩,h1,λh=>h2 h g.GN⟩
theorem wp2{n ln:Nat}(hk:k=1)(hp:s.ph=2)(hd:s.a.d.ok)(hb:PBy s.a.d b ln)(hh:s.f.had=true)(ho:s.f.old=⟨b.key,b.id,b.ver,ln,b.cls⟩)(hn:s.f.piece=n)(hl:(n:Int)<spn b.cls)
  (h1:n+1≠spn b.cls->Q (n+1) ⟨s.a,{s.f with piece:=(n+1:Nat)},2⟩) (h2:n+1=spn b.cls->Q 0 ⟨s.a,{s.f with piece:=(n+1:Nat),found:=true,ans:=b.value},6⟩):wP k t b n s Q:=by
 refine .inr (.inr (.inr (.inl ⟨hp,hk,ln,?_,⟨hd,hb.1,hb.2.1,hb.2.2.1,hl,hb.2.2.2⟩,h1,h2⟩)));show s.f={s.f with had:=true,old:=⟨b.key,b.id,b.ver,ln,b.cls⟩,piece:=(n:Int)};rw[<-hh,<-ho,<-hn]
def ndK(k:Int)(f:ZFp):Int:=if k=2 then ned ((f.key.size+f.value.size:Nat):Int)else 0
theorem apK{f:ZFp}(hk:f.key.size<=16)(hv:f.value.size<=400):0<=ndK k f/\ndK k f<=3:=by
 unfold ndK;split
 ·exact akz (by omega)
 ·omega
theorem wp3(g:eu s.a T M N B)(hk:k=2\/k=3)(hp:s.ph=3)(hks:s.f.key.size<=16)(hv:s.f.value.size<=400)
  (h1:(∀i,i<s.a.p.n->s.a.p.cls i≠ -1/\s.a.p.full (ndK k s.f) i)->Q 0 ⟨s.a,{s.f with cls:=ndK k s.f,code:=4},6⟩)
  (h2: ∀i j K:Nat,s.a.p.takes (ndK k s.f) i j->(K:Int)=2+i*8+j*spn (ndK k s.f)->eu (s.a.X7 (s.a.p.take (ndK k s.f) i j)) T M N B->lI (s.a.X7 (s.a.p.take (ndK k s.f) i j)) K (ndK k s.f)-> ¬s.a.p.has K->
   Q 0 ⟨s.a.X7 (s.a.p.take (ndK k s.f) i j),{s.f with cls:=ndK k s.f,line:=K,piece:=0},4⟩):wP k t b 0 s Q:=by
 refine .inr (.inr (.inr (.inr (.inl ⟨hp,rfl,hk,⟨g.pg.1,hks,hv⟩,h1,λi j h=> ?_⟩))));have h:s.a.p.takes (ndK k s.f) i j:=h;obtain⟨K,l1,l2,l3,l4⟩:=g.take (apK hks hv) h;have:=h2 i j K h l1 l2 l3 l4;rw[l1]at this;exact this
theorem wp4(g:eu s.a T M N B)(hM:M<=1000000)(hp:s.ph=4)(hks:s.f.key.size<=16)(hv:s.f.value.size<=400){K p:Nat}(h3:k=2\/k=3/\p=0)(hl:s.f.line=K)(hpi:s.f.piece=p)(hlt:(p:Int)<spn s.f.cls)(h:lI s.a K s.f.cls)(hd:TR s.a.d K s.f.key s.f.value p)
  (h1: ∀d',p+1≠spn s.f.cls->eu (s.a.GR d') T (M+20) N B->lI (s.a.GR d') K s.f.cls->TR d' K s.f.key s.f.value (p+1)->(∀m r:Nat,r<64-> ¬(K<=m/\m<K+(spn s.f.cls).toNat)->d'.b (m*193+r)=s.a.d.b (m*193+r))->Q 0 ⟨s.a.GR d',{s.f with piece:=(p+1:Nat)},4⟩)
  (h2: ∀d',p+1=spn s.f.cls->eu (s.a.GR d') T (M+20) N B->lI (s.a.GR d') K s.f.cls->TR d' K s.f.key s.f.value (spn s.f.cls).toNat->(∀m r:Nat,r<64-> ¬(K<=m/\m<K+(spn s.f.cls).toNat)->d'.b (m*193+r)=s.a.d.b (m*193+r))->Q 0 ⟨s.a.GR d',{s.f with piece:=0},5⟩):wP k t b 0 s Q:=by
 obtain⟨w1,w2,w3,w4⟩:=g.write hM h (t:=t) (f:=s.f) hks hv hlt;refine .inr (.inr (.inr (.inr (.inr (.inl ⟨hp,rfl,K,p,h3,?_,w1,λhne=>h1 _ hne w2 h (w3 hd) w4,λhe=>h2 _ he w2 h ?_ w4⟩)))))
 ·show s.f={s.f with line:=(K:Int),cls:=s.f.cls,piece:=(p:Int)}
  rw[<-hl,<-hpi]
 ·have e:(spn s.f.cls).toNat=p+1:=by omega
  rw[e];exact w3 hd
noncomputable def resK(k:Int)(s:ZKs)(t K:Nat):ZSto:=((ZPp.mk s.a s.f t K).pt k).cg.res k s.f.had
noncomputable def as6(s:ZKs)(t K:Nat):ZBlk:=((ZPp.mk s.a s.f t K).pt 2).cg.blk 2 s.f.had
theorem wp5p(g:eu s.a T M N B)(hM:M<=1000000)(hN:N<=200)(hk:k=2)(hp:s.ph=5){K:Nat}(ht:t<T)(hl:s.f.line=K)(h:lI s.a K s.f.cls)(hk0:s.f.key.size≠0)(hks:s.f.key.size<=16)(hv:s.f.value.size<=400)(hc:s.f.cls=ned ((s.f.key.size+s.f.value.size:Nat):Int))(he:s.f.epoch=s.a.c.now)
  (hw:gI s.a.L s.f.key=if s.f.had=true then some s.f.old else none) (hd:TR s.a.d K s.f.key s.f.value (spn s.f.cls).toNat)
  (h1:eu (resK 2 s t K) T (M+20) (N+1) (updB B s.f.key (as6 s t K))->Q 0 ⟨resK 2 s t K,{s.f with found:=s.f.had,aep:=s.f.epoch,line:= -1},6⟩):wP k t b 0 s Q:=by
 subst hk;obtain⟨e1,e2⟩:=g.put hM hN ht (f:=s.f) (had:=s.f.had) h hk0 hks hv hc he hw hd;exact .inr (.inr (.inr (.inr (.inr (.inr (.inl ⟨hp,rfl,.inl rfl,K,hl,e1,h1 e2⟩))))))
theorem wp5r(g:eu s.a T M N B)(hk:k=2\/k=3/\s.f.had=true)(hp:s.ph=5){K:Nat}(ht:t<T)(hl:s.f.line=K)(hks:s.f.key.size<=16)
  (hw:s.a.c.now≠s.f.epoch\/ ¬gI s.a.L s.f.key=if s.f.had=true then some s.f.old else none)
  (h1:Q 0 ⟨s.a,{s.f with epoch:=s.a.c.now,pos:=emp,past:=false,had:=false,old:=iT},1⟩):wP k t b 0 s Q:=
 .inr (.inr (.inr (.inr (.inr (.inr (.inr (.inl ⟨hp,rfl,hk,K,hl,⟨g.cok,by show s.a.ph<=4;rw[g.ph];decide,by show t<s.a.c.t;rw[g.ct];exact ht,by show s.f.key.size<_;omega,hw⟩,h1⟩)))))))
theorem wp6(g:eu s.a T M N B)(hp:s.ph=6)(ht:t<T)(h1:eu (s.a.GN t 0) T M N B->Q 0 ⟨s.a.GN t 0,s.f,7⟩):wP k t b 0 s Q:=
 .inr (.inr (.inr (.inr (.inr (.inr (.inr (.inr (.inl ⟨hp,rfl,⟨g.rok,by rw[g.rt];exact ht⟩,h1 g.GN⟩))))))))
end
def fK(key v:ByteArray):ZFp:=⟨key,v,⟨#[]⟩,0,⟨#[]⟩,false,false,iT,-1,0,0,0,false,⟨#[]⟩,0⟩
def ZFp.st(f:ZFp)(k ph:Int)(b:AV):dA:= .cells 45 (.av (f.l k ph b))
def ZFp.ansV(f:ZFp):AV:=aiB f.code f.found f.ans f.aep
structure ZRp where
 a:ZSto
 t:Nat
 key:ByteArray
 v:ByteArray
 b:ZBlk
 I:Nat->Nat->ZKs->Prop
 q:Nat->ZKs->Prop
structure ZRn where
 s:ZKs
 k:Nat
 m:Nat
def ZRp.okI(x:ZRp)(k:Int):Prop:=x.I 1 0 ⟨x.a,fK x.key x.v,0⟩/\ ∀j m s,x.I j m s->j<=400/\s.ph≠7/\wP k x.t x.b m s (λm' y=>(y.ph=7/\m'=0/\x.q j y)\/x.I (j+1) m' y)
noncomputable def runK(k:Int):Ctr:={X:=ZRp,args:=λx=>[.ptr 0 0,i64 x.t,arK k x.key x.v],k:=1,os:=λx=>[.abs (ownM x.a.os)],pre:=λx=>Hd (x.okI k),outs:=[
 {Y:=ZRn,post:=λx y=>Hd (x.q y.k y.s),ret:=λ_ y=> .tup [y.s.f.ansV,i64 y.k,boo true],m:=1,os:=λ_ y=>[.abs (ownM y.s.a.os)]}]}
noncomputable def annK(k:Int)(x:ZRp):FuncId->qR:=λf=>bif Nat.beq f 35 then(λb _ h=>bif Nat.beq b 0 then [
 {σ:=ZRn,fr:=λs=>[(10,i64 s.k)],ob:=λs=>[(0,some (.abs (ownM s.s.a.os))),(3,some (s.s.f.st k s.s.ph ig))],inv:=λs=>Hd (1<=s.k/\x.I s.k 0 s.s),meas:=λs=>501-s.k,test:=λ_ h=> !byAt h}]else [])elseλ_ _ _=>[]
noncomputable def auZ(x:ZRp):FuncId->qR:=λf=>bif Nat.beq f 35 then(λb _ h=>bif Nat.beq b 0 then [
 {σ:=ZRn,fr:=λs=>[(10,i64 s.k)],ob:=λs=>[(0,some (.abs (ownM s.s.a.os))),(3,some (s.s.f.st 1 s.s.ph ig))],inv:=λs=>Hd (1<=s.k/\x.I s.k 0 s.s),meas:=λs=>501-s.k,test:=λ_ h=> !byAt h},
 {σ:=ZRn,fr:=λs=>[(10,i64 s.k)],ob:=λs=>[(0,some (.abs (ownM s.s.a.os))),(3,some (s.s.f.st 1 2 (.slW h.next 0 1 (64*s.m)))),(h.next,some (adv x.b.enc (64*s.m)))],nx:=1,inv:=λs=>Hd (1<=s.k/\s.m≠0/\s.s.ph=2/\x.I s.k s.m s.s),meas:=λs=>501-s.k,test:=λ_ h=>byAt h}]else [])elseλ_ _ _=>[]
noncomputable def akA:WTr:=λargs h K=>match args with
 |[a,t,.agg l]=>(bif hasB l then ctrT apH else ctrT (TM 1)) [a,t,.agg l] h K
 |_=>False
theorem akB(args:List AV)(h:Heap)(K:AV->Heap->Prop)(hq:akA args h K):Sp Tryz.prog 34 args h K:=by
 unfold akA at hq;split at hq
 ·exact apl (P:=Tryz.prog) (f:=34) _ (bM aky) (bM aeC) _ _ _ hq
 ·exact hq.elim
noncomputable def au0(k:Int):jv:=[(17,RU),(34,ctrT (TN k))]
noncomputable def au1:jv:=[(17,RU),(34,akA)]
theorem aox{k:Int}(h:bY Tryz.prog 34 (TN k)):dY Tryz.prog (au0 k):= .cons Fj (.cons (bM h) .nil)
theorem aoy:dY Tryz.prog au1:= .cons Fj (.cons akB .nil)
def jA:Prop:=Value.slice none 0 0=Value.slice none 0 0
def wO(a:ZFp)(b:ZFp):Prop:=a.code=b.code/\a.found=b.found/\a.ans=b.ans/\jA/\jA/\a.aep=b.aep/\True
def Jw(a:ZKs)(b:ZKs):Prop:=a.f.key=b.f.key/\a.f.value=b.f.value/\a.f.to=b.f.to/\jA/\a.ph=b.ph/\a.f.epoch=b.f.epoch/\a.f.pos=b.f.pos/\a.f.past=b.f.past/\(0:Int)=0/\a.f.had=b.f.had/\a.f.old.key=b.f.old.key/\a.f.old.id=b.f.old.id/\a.f.old.ver=b.f.old.ver/\a.f.old.line=b.f.old.line/\a.f.old.cls=b.f.old.cls/\a.f.line=b.f.line/\a.f.cls=b.f.cls/\a.f.piece=b.f.piece/\jA/\(0:Int)=0/\jA/\wO a.f b.f
def uj:Prop:=(0:Int)=0/\false=false/\ByteArray.mk #[]=ByteArray.mk #[]/\jA/\jA/\(0:Int)=0/\True
def Oc(a:ZFp):Prop:=a.code=0/\a.found=false/\a.ans=ByteArray.mk #[]/\jA/\jA/\a.aep=0/\True
def Oe(a:ZKs)(b:ZRp):Prop:=a.f.key=b.key/\a.f.value=b.v/\a.f.to=ByteArray.mk #[]/\jA/\a.ph=0/\a.f.epoch=0/\a.f.pos=ByteArray.mk #[]/\a.f.past=false/\(0:Int)=0/\a.f.had=false/\a.f.old.key=ByteArray.mk #[]/\a.f.old.id=0/\a.f.old.ver=0/\a.f.old.line=0/\a.f.old.cls=0/\a.f.line=(-(1:Int))/\a.f.cls=0/\a.f.piece=0/\jA/\(0:Int)=0/\jA/\Oc a.f
def Og(a:ZSto)(b:ZSto):Prop:=ownM a.os=ownM b.os
def lJ(a:ZSto)(b:ZSto):Prop:=Og a b/\True
def Gq(a:ZRp)(b:ZSto):Prop:= ∃y:ZRn,Hd (a.q y.k y.s)/\(Oc y.s.f/\(y.k:Int)=0/\true=false/\True)/\lJ y.s.a b
def uo(a:ZRp):Prop:=a.key=a.key/\a.v=a.v/\ByteArray.mk #[]=ByteArray.mk #[]/\jA/\True
def uq(a:ZRn)(b:ZRp):Prop:=Hd (1<=a.k/\b.I a.k 0 a.s)
def Oh(a:ZRp)(b:ZKs)(c:Nat):Prop:= ∃y_1:ZRn,Hd (a.q y_1.k y_1.s)/\(wO y_1.s.f b.f/\(y_1.k:Int)=(c:Int)/\true=true/\True)/\lJ y_1.s.a b.a
def YW(a:ZWk)(b:ZRp)(c:Nat):Prop:= ∀y:ZKs,Hd (a.q 0 y)->cP (BEq.beq y.ph (7:Int)) (Oh b y c) (I64 ((c:Int)+1)/\ ∃s_1:ZRn,uq s_1 b/\501-s_1.k<501-c/\((s_1.k:Int)=(c:Int)+1/\True)/\((1:Int)=1/\Jw s_1.s y)/\uj/\((1:Int)=1/\uo b)/\lJ s_1.s.a y.a)
def Oi(a:ZRn)(b:ZRp):Prop:=Hd (1<=a.k/\a.m≠0/\a.s.ph=2/\b.I a.k a.m a.s)
def YX(x:ZRp):Prop:=
 (∃s:ZRn,uq s x/\True/\((s.k:Int)=1/\True)/\((1:Int)=1/\Oe s.s x)/\uj/\((1:Int)=1/\uo x)/\lJ s.s.a x.a)/\(∀s:ZRn,uq s x->cP (decide ((s.k:Int)<=400)) (∃x_1:ZWk,Hd (x_1.n=0/\wP (1:Int) x_1.t x_1.b 0 x_1.s x_1.q)/\(0=0/\(x_1.t:Int)=(x.t:Int)/\((1:Int)=1/\Jw x_1.s s.s)/\True)/\lJ x_1.s.a s.s.a/\YW x_1 x s.k/\ ∀y:ZKs,Hd (x_1.q 1 y/\y.ph=2/\(1:Int)=1)->I64 ((s.k:Int)+1)/\ ∃s_1:ZRn,Oi s_1 x/\501-s_1.k<501-s.k/\((s_1.k:Int)=(s.k:Int)+1/\True)/\(64*s_1.m=64/\ ∀q:Nat,q<64*s_1.m->[Value.int .u8 (x.b.enc q)]=[Value.int .u8 (x_1.b.enc q)])/\((1:Int)=1/\s_1.s.f.key=y.f.key/\s_1.s.f.value=y.f.value/\s_1.s.f.to=y.f.to/\jA/\(2:Int)=2/\s_1.s.f.epoch=y.f.epoch/\s_1.s.f.pos=y.f.pos/\s_1.s.f.past=y.f.past/\(0:Int)=0/\s_1.s.f.had=y.f.had/\s_1.s.f.old.key=y.f.old.key/\s_1.s.f.old.id=y.f.old.id/\s_1.s.f.old.ver=y.f.old.ver/\s_1.s.f.old.line=y.f.old.line/\s_1.s.f.old.cls=y.f.old.cls/\s_1.s.f.line=y.f.line/\s_1.s.f.cls=y.f.cls/\s_1.s.f.piece=y.f.piece/\(0=0/\64*s_1.m=64)/\(0:Int)=0/\jA/\wO s_1.s.f y.f)/\uj/\((1:Int)=1/\uo x)/\lJ s_1.s.a y.a) (Gq x s.s.a))/\(∀s:ZRn,Oi s x->cP (decide ((s.k:Int)<=400)) (∃x_1:ZWk,Hd (x_1.n≠0/\x_1.s.ph=2/\wP (1:Int) x_1.t x_1.b x_1.n x_1.s x_1.q)/\(0=0/\(x_1.t:Int)=(x.t:Int)/\((1:Int)=1/\x_1.s.f.key=s.s.f.key/\x_1.s.f.value=s.s.f.value/\x_1.s.f.to=s.s.f.to/\jA/\(2:Int)=2/\x_1.s.f.epoch=s.s.f.epoch/\x_1.s.f.pos=s.s.f.pos/\x_1.s.f.past=s.s.f.past/\(0:Int)=0/\x_1.s.f.had=s.s.f.had/\x_1.s.f.old.key=s.s.f.old.key/\
 x_1.s.f.old.id=s.s.f.old.id/\x_1.s.f.old.ver=s.s.f.old.ver/\x_1.s.f.old.line=s.s.f.old.line/\x_1.s.f.old.cls=s.s.f.old.cls/\x_1.s.f.line=s.s.f.line/\x_1.s.f.cls=s.s.f.cls/\x_1.s.f.piece=s.s.f.piece/\(0=0/\64*x_1.n=64*s.m)/\(0:Int)=0/\jA/\wO x_1.s.f s.s.f)/\True)/\(Og x_1.s.a s.s.a/\(64*x_1.n=64*s.m/\ ∀q:Nat,q<64*x_1.n->[Value.int .u8 (x_1.b.enc q)]=[Value.int .u8 (x.b.enc q)])/\True)/\YW x_1 x s.k/\ ∀y:ZKs,Hd (x_1.q (x_1.n+1) y/\y.ph=2)->I64 ((s.k:Int)+1)/\ ∃s_1:ZRn,Oi s_1 x/\501-s_1.k<501-s.k/\((s_1.k:Int)=(s.k:Int)+1/\True)/\(64*s_1.m=64*(x_1.n+1)/\ ∀q:Nat,q<64*s_1.m->[Value.int .u8 (x.b.enc q)]=[Value.int .u8 (x_1.b.enc q)])/\((1:Int)=1/\s_1.s.f.key=y.f.key/\s_1.s.f.value=y.f.value/\s_1.s.f.to=y.f.to/\jA/\(2:Int)=2/\s_1.s.f.epoch=y.f.epoch/\s_1.s.f.pos=y.f.pos/\s_1.s.f.past=y.f.past/\(0:Int)=0/\s_1.s.f.had=y.f.had/\s_1.s.f.old.key=y.f.old.key/\s_1.s.f.old.id=y.f.old.id/\s_1.s.f.old.ver=y.f.old.ver/\s_1.s.f.old.line=y.f.old.line/\s_1.s.f.old.cls=y.f.old.cls/\s_1.s.f.line=y.f.line/\s_1.s.f.cls=y.f.cls/\s_1.s.f.piece=y.f.piece/\(0=0/\64*s_1.m=64*(x_1.n+1))/\(0:Int)=0/\jA/\wO s_1.s.f y.f)/\uj/\((1:Int)=1/\uo x)/\lJ s_1.s.a y.a) (Gq x s.s.a))/\True
theorem aeF(x:ZRp):YX x=wpF Tryz.prog au1 tt (auZ x) 200 6 35 ((runK 1).args x) (hO 1 ((runK 1).os x)) (λv h'=>eG 1 x v h' (runK 1).outs):=by kernel_rfl
def YZ(x:ZRp):Prop:=
 (∃s:ZRn,uq s x/\True/\((s.k:Int)=1/\True)/\((2:Int)=2/\Oe s.s x)/\uj/\((2:Int)=2/\uo x)/\lJ s.s.a x.a)/\(∀s:ZRn,uq s x->cP (decide ((s.k:Int)<=400)) (∃x_1:ZWk,Hd (x_1.n=0/\wP (2:Int) x_1.t x_1.b 0 x_1.s x_1.q)/\(0=0/\(x_1.t:Int)=(x.t:Int)/\((2:Int)=2/\Jw x_1.s s.s)/\True)/\lJ x_1.s.a s.s.a/\ ∀y:ZKs,Hd (x_1.q 0 y)->cP (BEq.beq y.ph (7:Int)) (Oh x y s.k) (I64 ((s.k:Int)+1)/\ ∃s_1:ZRn,uq s_1 x/\501-s_1.k<501-s.k/\((s_1.k:Int)=(s.k:Int)+1/\True)/\((2:Int)=2/\Jw s_1.s y)/\uj/\((2:Int)=2/\uo x)/\lJ s_1.s.a y.a)) (Gq x s.s.a))/\True
theorem aeG(x:ZRp):YZ x=wpF Tryz.prog (au0 2) tt (annK 2 x) 200 6 35 ((runK 2).args x) (hO 1 ((runK 2).os x)) (λv h'=>eG 1 x v h' (runK 2).outs):=by kernel_rfl
set_option maxHeartbeats 1000000 in
theorem TU(x:ZRp)(hx:x.okI 1):YX x:=by
 obtain⟨h0,hI⟩:=hx;have end0: ∀(k:Nat) (y:ZKs),1<=k->k<=400->((y.ph=7/\(0:Nat)=0/\x.q k y)\/x.I (k+1) 0 y)->(y.ph=7->x.q k y)/\(y.ph≠7->x.I (k+1) 0 y):=λk y _ _ h=>by
  rcases h with ⟨h1,_,h2⟩|h
  ·exact⟨λ_=>h2,λh3=>absurd h1 h3⟩
  ·exact⟨λh3=>absurd h3 (hI _ _ _ h).2.1,λ_=>h⟩
 have as7: ∀k:Nat,k<=400->I64 ((k:Int)+1):=λk hk=>by unfold I64;omega
 unfold YX;simp only[uq,Oe,uj,uo,lJ,Jw,YW,Oi,jA,wO,Gq,Og,Oc,Oh];simp only[aZ,aV,aU,aA,aI,bQ,bF,aO,aK,ay,aX,aW,bT,bG,bH,bI,bU,bC,bJ,bn,eH,aH,aN,ah,ak,aB,aF,aC,aG];refine⟨⟨⟨⟨x.a,fK x.key x.v,0⟩,1,0⟩,⟨aY _,h0⟩,rfl,by repeat' (first|exact rfl|refine And.intro ?_ ?_),rfl⟩,λs hs=> ?_,λs hs=> ?_⟩
 ·obtain⟨h1,h2⟩:=hs
  obtain⟨k50,h7,hw⟩:=hI _ _ _ h2;refine bf (λ_=>⟨⟨s.s,x.t,x.b,0,_⟩,⟨rfl,hw⟩,by repeat' (first|exact rfl|refine And.intro ?_ ?_),rfl,λy hy=> ?_,λy hy=> ?_⟩) λh=>absurd (aT h) (by omega)
  ·obtain⟨e1,e2⟩:=end0 s.k y h1 k50 hy
   refine bf (λh=>⟨⟨y,s.k,0⟩,e1 (beq_iff_eq.1 h),by repeat' (first|exact rfl|refine And.intro ?_ ?_),rfl⟩) λh=>⟨as7 _ k50,⟨y,s.k+1,0⟩,⟨by show 1<=s.k+1;omega,e2 (by simpa using h)⟩,by show 501-(s.k+1)<_;omega,by show((s.k+1:Nat):Int)=_;omega,by repeat' (first|exact rfl|refine And.intro ?_ ?_),rfl⟩
  ·obtain⟨hy,hp⟩:=hy
   rcases hy with ⟨h3,_⟩|hy
   ·exact absurd (hp.symm.trans h3) (by decide)
   ·exact⟨as7 _ k50,⟨y,s.k+1,1⟩,⟨by show 1<=s.k+1;omega,by show¬(1:Nat)=0;decide,hp,hy⟩,by show 501-(s.k+1)<_;omega,by show((s.k+1:Nat):Int)=_;omega,⟨rfl,λ_ _=>rfl⟩,by repeat' (first|exact rfl|refine And.intro ?_ ?_),rfl⟩
 ·obtain⟨h1,hm,hph,h2⟩:=hs
  obtain⟨k50,h7,hw⟩:=hI _ _ _ h2;refine bf (λ_=>⟨⟨s.s,x.t,x.b,s.m,_⟩,⟨hm,hph,hw⟩,by repeat' (first|exact rfl|refine And.intro ?_ ?_),⟨rfl,rfl,λ_ _=>rfl⟩,λy hy=> ?_,λy hy=> ?_⟩) λh=>absurd (aT h) (by omega)
  ·obtain⟨e1,e2⟩:=end0 s.k y h1 k50 hy
   refine bf (λh=>⟨⟨y,s.k,0⟩,e1 (beq_iff_eq.1 h),by repeat' (first|exact rfl|refine And.intro ?_ ?_),rfl⟩) λh=>⟨as7 _ k50,⟨y,s.k+1,0⟩,⟨by show 1<=s.k+1;omega,e2 (by simpa using h)⟩,by show 501-(s.k+1)<_;omega,by show((s.k+1:Nat):Int)=_;omega,by repeat' (first|exact rfl|refine And.intro ?_ ?_),rfl⟩
  ·obtain⟨hy,hp⟩:=hy
   rcases hy with ⟨h3,_⟩|hy
   ·exact absurd (hp.symm.trans h3) (by decide)
   ·exact⟨as7 _ k50,⟨y,s.k+1,s.m+1⟩,⟨by show 1<=s.k+1;omega,by show s.m+1≠0;omega,hp,hy⟩,by show 501-(s.k+1)<_;omega,by show((s.k+1:Nat):Int)=_;omega,⟨rfl,λ_ _=>rfl⟩,by repeat' (first|exact rfl|refine And.intro ?_ ?_),rfl⟩
theorem TV(x:ZRp)(hx:x.okI 2):YZ x:=by
 obtain⟨h0,hI⟩:=hx;have as7: ∀k:Nat,k<=400->I64 ((k:Int)+1):=λk hk=>by unfold I64;omega
 unfold YZ;simp only[uq,Oe,uj,uo,lJ,Jw,Oh,Gq,Oc,jA,wO,Og];simp only[aZ,aV,aU,aA,aI,bQ,bF,aO,aK,ay,aX,aW,bT,bG,bH,bI,bU,bC,bJ,bn,eH,aH,aN,ah,ak,aB,aF,aC,aG];refine⟨⟨⟨⟨x.a,fK x.key x.v,0⟩,1,0⟩,⟨aY _,h0⟩,rfl,by repeat' (first|exact rfl|refine And.intro ?_ ?_),rfl⟩,λs hs=> ?_⟩;obtain⟨h1,h2⟩:=hs;obtain⟨k50,h7,hw⟩:=hI _ _ _ h2;refine bf (λ_=>⟨⟨s.s,x.t,x.b,0,_⟩,⟨rfl,hw⟩,by repeat' (first|exact rfl|refine And.intro ?_ ?_),rfl,λy hy=> ?_⟩) λh=>absurd (aT h) (by omega)
 have e:(y.ph=7->x.q s.k y)/\(y.ph≠7->x.I (s.k+1) 0 y):=by
  rcases hy with ⟨h1,_,h2⟩|h
  ·exact⟨λ_=>h2,λh3=>absurd h1 h3⟩
  ·exact⟨λh3=>absurd h3 (hI _ _ _ h).2.1,λ_=>h⟩
 obtain⟨e1,e2⟩:=e;refine bf (λh=>⟨⟨y,s.k,0⟩,e1 (beq_iff_eq.1 h),by repeat' (first|exact rfl|refine And.intro ?_ ?_),rfl⟩) λh=>⟨as7 _ k50,⟨y,s.k+1,0⟩,⟨by show 1<=s.k+1;omega,e2 (by simpa using h)⟩,by show 501-(s.k+1)<_;omega,by show((s.k+1:Nat):Int)=_;omega,by repeat' (first|exact rfl|refine And.intro ?_ ?_),rfl⟩
theorem aoz:bY Tryz.prog 35 (runK 1):=jf dD mixed aoy auZ 200 6 (λ_=>rfl) (λ_=>⟨λ_=>rfl,trivial⟩) λx hx=>Eq.mp (aeF x) (TU x (aZ.1 hx))
theorem aoA:bY Tryz.prog 35 (runK 2):=jf dD mixed (aox Ju) (annK 2) 200 6 (λ_=>rfl) (λ_=>⟨λ_=>rfl,trivial⟩) λx hx=>Eq.mp (aeG x) (TV x (aZ.1 hx))
def zBk:ZBlk:=⟨0,0,0,0,0,⟨#[]⟩,⟨#[]⟩⟩
def A8(a:ZSto)(b:ZBlk)(ln:Nat):Prop:=PBy a.d b ln/\ ∃i j,a.p.at_ ln i j/\a.p.cls i=b.cls
theorem A8.dev{a a':ZSto}{T M N:Nat}{B:ByteArray->ZBlk}{b:ZBlk}{ln:Nat}(h:A8 a b ln)(g:eu a' T M N B)(hp:a'.p=a.p){K n:Nat}(hb: ∀m r:Nat,r<64-> ¬(K<=m/\m<K+n)->a'.d.b (m*193+r)=a.d.b (m*193+r))(hs:ln+b.dK<=K\/K+n<=ln):A8 a' b ln:=by
 obtain⟨⟨h1,h2,h3,h4⟩,i,j,h5,h6⟩:=h;rw[<-hp]at h5 h6;have hf:=(Ob g.pg h5).2.1;have hfit:=g.fit;refine⟨⟨h1,h2,by rw[<-h6];omega,λq hq=> ?_⟩,i,j,h5,h6⟩;rw[hb _ _ (by omega) (by omega)];exact h4 q hq
theorem A8.apart{a:ZSto}{T M N:Nat}{B:ByteArray->ZBlk}{b:ZBlk}{ln K:Nat}{c:Int}(h:A8 a b ln)(g:eu a T M N B)(hh:lI a K c)(hne:ln≠K):ln+b.dK<=K\/K+(spn c).toNat<=ln:=by
 obtain⟨⟨h1,_⟩,i,j,h5,h6⟩:=h;obtain⟨⟨i',j',h7,rfl⟩,_⟩:=hh;have:=TQ g.pg h5 h7 (by omega);have s:=wB b;have s2:=dM (a.p.cls i');rw[h6]at this;omega
theorem A8.has{a:ZSto}{b:ZBlk}{ln:Nat}(h:A8 a b ln):a.p.has ln:=let ⟨_,i,j,h,_⟩:=h;⟨i,j,h⟩
structure ZWp where
 a:ZSto
 T:Nat
 M:Nat
 N:Nat
 B:ByteArray->ZBlk
 t:Nat
 key:ByteArray
 v:ByteArray
namespace ZWp
def ok(x:ZWp):Prop:=eu x.a x.T x.M x.N x.B/\x.t<x.T/\x.a.r.has x.t=0/\x.M<=900000/\x.N<=100
def a1(x:ZWp):ZSto:=x.a.GN x.t x.a.r.now
def a2(x:ZWp):ZSto:=x.a1.GN x.t 0
def c(x:ZWp):Int:=ned ((x.key.size+x.v.size:Nat):Int)
def sp(x:ZWp):Nat:=(spn x.c).toNat
def had(x:ZWp):Bool:=(gI x.a.L x.key).isSome
noncomputable def far(x:ZWp):Nat:=(fl x.a.L (bkt x.key) ⟨#[]⟩ false x.key).length
end ZWp
structure PPut (x:ZWp) (R:ZRd) (a':ZSto) (B':ByteArray->ZBlk):Prop where
 base:eu a' x.T (x.M+400) (x.N+1) B'
 bk: ∃b,B'=updB x.B x.key b/\b.value=x.v/\b.key=x.key/\b.may
 L: ∃l,a'.L=jy x.a.L l/\l.key=x.key
 r:a'.r=R
 n:a'.n=x.a.n+1
 e: ∃E:ZEff,E.epoch=x.a.c.now/\ ∀i,a'.e i=if i=x.a.n then E else x.a.e i
 now:a'.c.now=x.a.c.now
 pool: ∃i j,x.a.p.takes x.c i j/\a'.p=x.a.p.take x.c i j
 bag: ∃e:iq,e.r=x.a.r.now/\a'.b=if x.had=true then x.a.b.put e else x.a.b
 keep: ∀b ln,A8 x.a b ln->A8 a' b ln
 note: ∃K:Nat,a'.c=x.a.c.notes x.t K x.sp
structure FP (x:ZWp) (f:ZFp):Prop where
 key:f.key=x.key
 value:f.value=x.v
 code:f.code=0
 found:f.found=false
 ans:f.ans=⟨#[]⟩
 ep:f.epoch=x.a.c.now
 aep:f.aep=0
def was(x:ZWp)(f:ZFp):Prop:=gI x.a.L x.key=if f.had=true then some f.old else none
def ZWp.ap(x:ZWp)(i j:Nat)(d:DevM):ZSto:=(x.a1.X7 (x.a.p.take x.c i j)).GR d
inductive TW (x:ZWp):Nat->Nat->ZKs->Prop
 |enter:TW x 1 0 ⟨x.a,fK x.key x.v,0⟩
 |asH {j f} (h:FP x f) (hs:aow f) (hl:f.line= -1) (hj:j+(ZKs.mk x.a1 f 1).aeS=2+x.far):TW x j 0 ⟨x.a1,f,1⟩
 |take {f} (h:FP x f) (hl:f.line= -1) (hw:was x f):TW x (3+x.far) 0 ⟨x.a1,f,3⟩
 |write {f i j K p d} (hn: ¬x.a.p.has ((K:Nat):Int)) (kp: ∀b ln,A8 x.a b ln->A8 (x.ap i j d) b ln) (h:FP x f) (hw:was x f) (ht:x.a.p.takes x.c i j) (g:eu (x.ap i j d) x.T (x.M+20*p) x.N x.B) (hh:lI (x.ap i j d) K x.c) (hd:TR d K x.key x.v p) (hl:f.line=(K:Nat)) (hp:f.piece=(p:Nat)) (hc:f.cls=x.c) (hlt:p<x.sp):TW x (4+x.far+p) 0 ⟨x.ap i j d,f,4⟩
 |pub {f i j K d} (hn: ¬x.a.p.has ((K:Nat):Int)) (kp: ∀b ln,A8 x.a b ln->A8 (x.ap i j d) b ln) (h:FP x f) (hw:was x f) (ht:x.a.p.takes x.c i j) (g:eu (x.ap i j d) x.T (x.M+160) x.N x.B) (hh:lI (x.ap i j d) K x.c) (hd:TR d K x.key x.v x.sp) (hl:f.line=(K:Nat)) (hc:f.cls=x.c):TW x (4+x.far+x.sp) 0 ⟨x.ap i j d,f,5⟩
 |leave {f a' B'} (hc:f.code=0) (hf:f.found=x.had) (ha:f.ans=⟨#[]⟩) (he:f.aep=x.a.c.now) (g:PPut x (x.a.r.put x.t x.a.r.now) a' B'):TW x (5+x.far+x.sp) 0 ⟨a',f,6⟩
 |full {f} (hc:f.code=4) (hf:f.found=false) (ha:f.ans=⟨#[]⟩) (he:f.aep=0) (hfu: ∀i,i<x.a.p.n->x.a.p.cls i≠ -1/\x.a.p.full x.c i):TW x (4+x.far) 0 ⟨x.a1,f,6⟩
inductive as8 (x:ZWp):Nat->ZKs->Prop
 |bad {s} (h:goodP 2 x.key x.v≠0) (hs:s=⟨x.a,{fK x.key x.v with code:=goodP 2 x.key x.v},7⟩):as8 x 1 s
 |full {f} (h:goodP 2 x.key x.v=0) (hc:f.code=4) (hf:f.found=false) (ha:f.ans=⟨#[]⟩) (he:f.aep=0) (hfu: ∀i,i<x.a.p.n->x.a.p.cls i≠ -1/\x.a.p.full x.c i):as8 x (4+x.far) ⟨x.a2,f,7⟩
 |done {f a' B'} (h:goodP 2 x.key x.v=0) (hc:f.code=0) (hf:f.found=x.had) (ha:f.ans=⟨#[]⟩) (he:f.aep=x.a.c.now) (g:PPut x ((x.a.r.put x.t x.a.r.now).put x.t 0) a' B'):as8 x (5+x.far+x.sp) ⟨a',f,7⟩
theorem apL{L:Lks}{b:Nat}{pos s:ByteArray}{past:Bool}:(fl L b pos past s).length<=L.length:=List.length_filter_le _ _
theorem asI{x:ZWp}{f:ZFp}(h:was x f):f.had=x.had:=by
 unfold was at h;unfold ZWp.had;rw[h];cases f.had<;>rfl
theorem aoB{x:ZWp}(hx:x.ok){j m:Nat}{s:ZKs}(h:TW x j m s)(hg:s.ph≠0->goodP 2 x.key x.v=0):j<=400/\s.ph≠7/\wP 2 x.t zBk m s (λm' y=>(y.ph=7/\m'=0/\as8 x j y)\/(TW x (j+1) m' y/\(y.ph≠0->goodP 2 x.key x.v=0))):=by
 obtain⟨g,ht,hr,hM,hN⟩:=hx;have hfar:x.far<=100:=Nat.le_trans apL (Nat.le_trans g.len hN);have hsp:x.sp<=8:=by have:=dM x.c;unfold ZWp.sp;omega
 have g1:eu x.a1 x.T x.M x.N x.B:=g.GN;cases h with
 |enter=>
  refine⟨by decide,by show¬(0:Int)=7;decide,wp0 g ht hr rfl (λe=> .inl ⟨rfl,rfl,.bad e rfl⟩) λe _=> .inr ⟨.asH ⟨rfl,rfl,rfl,rfl,rfl,rfl,rfl⟩ ⟨(y7 e).2.1,by show(0:Nat)<=16;decide,λh=>by cases h⟩ rfl ?_,λ_=>e⟩⟩;show 1+1+(fl x.a.L (bkt x.key) ⟨#[]⟩ false x.key).length=2+x.far;unfold ZWp.far;omega
 | @asH j f hF hs hl hj=>
  have e:=hg (by show¬(1:Int)=0;decide);refine⟨by omega,by show¬(1:Int)=7;decide,Gp (k:=2) (t:=x.t) (b:=zBk) g1 rfl hs (λh=>by cases h) (λy hy hs' hgo=> .inr ⟨.asH ⟨hF.key,hF.value,hF.code,hF.found,hF.ans,hF.ep,hF.aep⟩ hs' hl (by have hgo:(ZKs.mk x.a1 f 1).aeS=(ZKs.mk x.a1 {f with pos:=y.key,past:=true} 1).aeS+1:=hgo;show j+1+(ZKs.mk x.a1 {f with pos:=y.key,past:=true} 1).aeS=2+x.far;omega),λ_=>e⟩) (λy hy h0=> ?_) λhy h0=> ?_⟩
  ·have e1:nx3 f 2 true=3:=by unfold nx3;rw[if_neg (by decide),if_neg (by decide),if_pos (by omega)]
   have ej:j+1=3+x.far:=by omega
   show(nx3 f 2 true=7/\_)\/(TW x (j+1) 0 ⟨x.a1,_,nx3 f 2 true⟩/\_);rw[e1,ej];exact .inr ⟨.take ⟨hF.key,hF.value,hF.code,hF.found,hF.ans,hF.ep,hF.aep⟩ hl (by have hy:gI x.a.L f.key=some y:=hy;rw[hF.key]at hy;exact hy),λ_=>e⟩
  ·have e1:nx3 f 2 false=3:=by unfold nx3;rw[if_neg (by decide),if_neg (by decide),if_pos (by omega)]
   have ej:j+1=3+x.far:=by omega
   show(nx3 f 2 false=7/\_)\/(TW x (j+1) 0 ⟨x.a1,_,nx3 f 2 false⟩/\_);rw[e1,ej];exact .inr ⟨.take ⟨hF.key,hF.value,hF.code,hF.found,hF.ans,hF.ep,hF.aep⟩ hl (by have hy:gI x.a.L f.key=none:=hy;rw[hF.key]at hy;exact hy),λ_=>e⟩
 | @take f hF hl hw=>
  have e:=hg (by show¬(3:Int)=0;decide);obtain⟨k0,k1,k2⟩:=y7 e;have ec:ndK 2 f=x.c:=by unfold ndK ZWp.c;rw[if_pos rfl,hF.key,hF.value]
  refine⟨by omega,by show¬(3:Int)=7;decide,wp3 (k:=2) g1 (.inl rfl) rfl (by rw[hF.key];exact k1) (by rw[hF.value];exact k2 rfl) (λhfu=> ?_) λi j K h1 h2 h3 h4 hnew=> ?_⟩
  ·have hfu: ∀i,i<x.a.p.n->x.a.p.cls i≠ -1/\x.a.p.full (ndK 2 f) i:=hfu
   rw[ec]at hfu;have:=TW.full (x:=x) (f:={f with cls:=ndK 2 f,code:=4}) rfl hF.found hF.ans hF.aep hfu;rw[show 3+x.far+1=4+x.far by omega];exact .inr ⟨this,λ_=>e⟩
  ·have h1:x.a.p.takes (ndK 2 f) i j:=h1
   have h3:eu (x.a1.X7 (x.a.p.take (ndK 2 f) i j)) x.T x.M x.N x.B:=h3;have h4:lI (x.a1.X7 (x.a.p.take (ndK 2 f) i j)) K (ndK 2 f):=h4;show(_/\_)\/(TW x _ 0 ⟨x.a1.X7 (x.a.p.take (ndK 2 f) i j),{f with cls:=ndK 2 f,line:=K,piece:=0},4⟩/\_);rw[ec]at h1 h3 h4 ⊢;have s1:=dM x.c;have s2:=apK (k:=2) (f:=f) (by rw[hF.key];exact k1) (by rw[hF.value];exact k2 rfl);rw[ec]at s2;have hz:0<x.sp:=by unfold ZWp.sp;omega
   have:=TW.write (x:=x) (f:={f with cls:=x.c,line:=K,piece:=0}) (i:=i) (j:=j) (K:=K) (p:=0) (d:=x.a.d) hnew (λb ln hk=>⟨hk.1,by obtain⟨_,i',j',q1,q2⟩:=hk;obtain⟨q3,q4⟩:=take_at g.pg h1 _ _ _ q1;exact⟨i',j',q3,q4.trans q2⟩⟩) ⟨hF.key,hF.value,hF.code,hF.found,hF.ans,hF.ep,hF.aep⟩ hw h1 h3 h4 (λm r h1 h2 _=>absurd h2 (by omega)) rfl rfl rfl hz;rw[show 3+x.far+1=4+x.far+0 by omega];exact .inr ⟨this,λ_=>e⟩
 | @write f i j K p d hn kp hF hw htk g' hh hd hl hp hc hlt=>
  have e:=hg (by show¬(4:Int)=0;decide);obtain⟨k0,k1,k2⟩:=y7 e;have s1:=dM x.c;have hsp2:(x.sp:Int)=spn x.c:=by unfold ZWp.sp;omega
  refine⟨by omega,by show¬(4:Int)=7;decide,wp4 (k:=2) g' (by omega) rfl (by rw[hF.key];exact k1) (by rw[hF.value];exact k2 rfl) (K:=K) (p:=p) (.inl rfl) hl hp (by show(p:Int)<spn f.cls;rw[hc];omega) (by show lI _ K f.cls;rw[hc];exact hh) (by rw[hF.key,hF.value];exact hd) (λd' hne gd hh' hd' hb=> ?_) λd' heq gd hh' hd' hb=> ?_⟩
  ·have hne:(p:Int)+1≠spn f.cls:=hne
   have hh':lI (x.ap i j d') K f.cls:=hh';have hd':TR d' K f.key f.value (p+1):=hd';rw[hc]at hne hh';rw[hF.key,hF.value]at hd';have:=TW.write (x:=x) (f:={f with piece:=(p+1:Nat)}) (i:=i) (j:=j) (K:=K) (p:=p+1) (d:=d') hn (λb ln hk=>(kp b ln hk).dev gd rfl (K:=K) (n:=(spn f.cls).toNat) hb (by rw[hc];exact(kp b ln hk).apart g' hh λe=>hn (by rw[<-e];exact hk.has))) ⟨hF.key,hF.value,hF.code,hF.found,hF.ans,hF.ep,hF.aep⟩ hw htk (by rw[show x.M+20*(p+1)=x.M+20*p+20 by omega];exact gd) hh' hd' hl rfl hc (by omega);rw[show 4+x.far+p+1=4+x.far+(p+1) by omega];exact .inr ⟨this,λ_=>e⟩
  ·have heq:(p:Int)+1=spn f.cls:=heq
   have hh':lI (x.ap i j d') K f.cls:=hh';have hd':TR d' K f.key f.value (spn f.cls).toNat:=hd';rw[hc]at heq hh' hd';rw[hF.key,hF.value]at hd';have:=TW.pub (x:=x) (f:={f with piece:=0}) (i:=i) (j:=j) (K:=K) (d:=d') hn (λb ln hk=>(kp b ln hk).dev gd rfl (K:=K) (n:=(spn f.cls).toNat) hb (by rw[hc];exact(kp b ln hk).apart g' hh λe=>hn (by rw[<-e];exact hk.has))) ⟨hF.key,hF.value,hF.code,hF.found,hF.ans,hF.ep,hF.aep⟩ hw htk (eu.up gd (by omega) (aY _)) hh' hd' hl hc;rw[show 4+x.far+p+1=4+x.far+x.sp by omega];exact .inr ⟨this,λ_=>e⟩
 | @pub f i j K d hn kp hF hw htk g' hh hd hl hc=>
  have e:=hg (by show¬(5:Int)=0;decide);obtain⟨k0,k1,k2⟩:=y7 e;refine⟨by omega,by show¬(5:Int)=7;decide,wp5p (k:=2) g' (by omega) (by omega) rfl rfl (K:=K) ht hl (by show lI _ K f.cls;rw[hc];exact hh) (by rw[hF.key];exact k0) (by rw[hF.key];exact k1) (by rw[hF.value];exact k2 rfl) (by show f.cls=_;rw[hc,hF.key,hF.value];rfl) hF.ep (by show gI x.a.L f.key=_;rw[hF.key];exact hw) (by show TR d K f.key f.value (spn f.cls).toNat;rw[hF.key,hF.value,hc];exact hd) λgr=> ?_⟩;have wh:=asI hw;rw[show 4+x.far+x.sp+1=5+x.far+x.sp by omega];refine .inr ⟨.leave (B':=updB x.B f.key (as6 ⟨x.ap i j d,f,5⟩ x.t K)) hF.code (by show f.had=_;exact wh) hF.ans (by show f.epoch=_;exact hF.ep) ?_,λ_=>e⟩
  exact{base:=eu.up gr (by omega) (aY _)
        bk:=⟨_,by rw[hF.key],hF.value,hF.key,by
         obtain⟨ln,_,q2,_,_,_,q6,_⟩:=gr.q ((((ZPp.mk (x.ap i j d) f x.t K).pt 2).cg).lnk 2 f.had) ((gU g'.srt).2 (.inl rfl));have e0:updB x.B f.key (as6 ⟨x.ap i j d,f,5⟩ x.t K) ((((ZPp.mk (x.ap i j d) f x.t K).pt 2).cg).lnk 2 f.had).key=as6 ⟨x.ap i j d,f,5⟩ x.t K:=if_pos rfl;rw[e0]at q6
         exact q6.1⟩
        L:=⟨(((ZPp.mk (x.ap i j d) f x.t K).pt 2).cg).lnk 2 f.had,rfl,hF.key⟩
        r:=rfl
        n:=rfl
        e:=⟨(((ZPp.mk (x.ap i j d) f x.t K).pt 2).cg).eff 2 f.had,hF.ep,λi=>rfl⟩
        now:=pW _ _ _ _
        pool:=⟨i,j,htk,rfl⟩
        keep:=λb ln hk=>(kp b ln hk).dev gr rfl (K:=K) (n:=(spn x.c).toNat) (λm r hr hm=>by
         show(d.store K 0 64 _).b (m*193+r)=d.b (m*193+r)
         rw[zS _ _ _ _ _ hr,if_neg λe=>hm ⟨by omega,by have s:=dM x.c;have f:=hh.fits g';omega⟩]) ((kp b ln hk).apart g' hh λe=>hn (by rw[<-e];exact hk.has))
        bag:=⟨(((ZPp.mk (x.ap i j d) f x.t K).pt 2).cg).ent 2,rfl,by
         rw[<-wh];show(if f.had=true/\(2:Int)≠4 then x.a.b.put _ else x.a.b)=_
         cases f.had<;>rfl⟩
        note:=⟨K,by
         show x.a.c.notes x.t (K:Int) (as6 ⟨x.ap i j d,f,5⟩ x.t K).dK=_;have:(as6 ⟨x.ap i j d,f,5⟩ x.t K).dK=x.sp:=by show(spn f.cls).toNat=_;rw[hc];rfl
         rw[this]⟩}
 | @leave f a' B' hc hf ha he gp=>
  have e:=hg (by show¬(6:Int)=0;decide);refine⟨by omega,by show¬(6:Int)=7;decide,wp6 gp.base rfl ht λgr=> .inl ⟨rfl,rfl,.done (B':=B') e hc hf ha he ?_⟩⟩;exact{base:=gr,bk:=gp.bk,L:=gp.L,r:=by show a'.r.put x.t 0=_;rw[gp.r],n:=gp.n,e:=gp.e,now:=gp.now,pool:=gp.pool,bag:=gp.bag,keep:=λb ln hk=>gp.keep b ln hk,note:=gp.note}
 | @full f hc hf ha he hfu=>
  have e:=hg (by show¬(6:Int)=0;decide);exact⟨by omega,by show¬(6:Int)=7;decide,wp6 g1 rfl ht λ_=> .inl ⟨rfl,rfl,.full e hc hf ha he hfu⟩⟩
inductive aoC (x:ZWp):Nat->Nat->ZKs->Prop
 |enter:aoC x 1 0 ⟨x.a,fK x.key x.v,0⟩
 |asH {j f} (h:FP x f) (hs:aow f) (hj:j+(ZKs.mk x.a1 f 1).aeS=2+x.far):aoC x j 0 ⟨x.a1,f,1⟩
 |read {f m y ln} (h:FP x f) (hh:f.had=true) (hw:gI x.a.L x.key=some y) (hl:y.line=(ln:Nat)) (ho:f.old=y) (hp:f.piece=(m:Nat)) (hlt:(m:Int)<spn (x.B x.key).cls):aoC x (3+x.far+m) m ⟨x.a1,f,2⟩
 |leave {j f} (hj:j<=200) (hc:f.code=0) (he:f.aep=0) (h:f.found=false/\f.ans=⟨#[]⟩/\gI x.a.L x.key=none\/f.found=true/\f.ans=(x.B x.key).value/\ ∃y,gI x.a.L x.key=some y):aoC x j 0 ⟨x.a1,f,6⟩
inductive as9 (x:ZWp):ZKs->Prop
 |bad {s} (h:goodP 1 x.key x.v≠0) (hs:s=⟨x.a,{fK x.key x.v with code:=goodP 1 x.key x.v},7⟩):as9 x s
 |miss {f} (h:goodP 1 x.key x.v=0) (hc:f.code=0) (he:f.aep=0) (hf:f.found=false) (ha:f.ans=⟨#[]⟩) (hw:gI x.a.L x.key=none):as9 x ⟨x.a2,f,7⟩
 |hit {f y} (h:goodP 1 x.key x.v=0) (hc:f.code=0) (he:f.aep=0) (hf:f.found=true) (ha:f.ans=(x.B x.key).value) (hw:gI x.a.L x.key=some y):as9 x ⟨x.a2,f,7⟩
theorem aoD{x:ZWp}(hx:x.ok){j m:Nat}{s:ZKs}(h:aoC x j m s)(hg:s.ph≠0->goodP 1 x.key x.v=0):j<=400/\s.ph≠7/\wP 1 x.t (x.B x.key) m s (λm' y=>(y.ph=7/\m'=0/\as9 x y)\/(aoC x (j+1) m' y/\(y.ph≠0->goodP 1 x.key x.v=0))):=by
 obtain⟨g,ht,hr,hM,hN⟩:=hx;have hfar:x.far<=100:=Nat.le_trans apL (Nat.le_trans g.len hN);have g1:eu x.a1 x.T x.M x.N x.B:=g.GN;cases h with
 |enter=>
  refine⟨by decide,by show¬(0:Int)=7;decide,wp0 g ht hr rfl (λe=> .inl ⟨rfl,rfl,.bad e rfl⟩) λe _=> .inr ⟨.asH ⟨rfl,rfl,rfl,rfl,rfl,rfl,rfl⟩ ⟨(y7 e).2.1,by show(0:Nat)<=16;decide,λh=>by cases h⟩ ?_,λ_=>e⟩⟩;show 1+1+(fl x.a.L (bkt x.key) ⟨#[]⟩ false x.key).length=2+x.far;unfold ZWp.far;omega
 | @asH j f hF hs hj=>
  have e:=hg (by show¬(1:Int)=0;decide);refine⟨by omega,by show¬(1:Int)=7;decide,Gp (k:=1) (t:=x.t) (b:=x.B x.key) g1 rfl hs (λh=>by cases h) (λy hy hs' hgo=> .inr ⟨.asH ⟨hF.key,hF.value,hF.code,hF.found,hF.ans,hF.ep,hF.aep⟩ hs' (by have hgo:(ZKs.mk x.a1 f 1).aeS=(ZKs.mk x.a1 {f with pos:=y.key,past:=true} 1).aeS+1:=hgo;show j+1+(ZKs.mk x.a1 {f with pos:=y.key,past:=true} 1).aeS=2+x.far;omega),λ_=>e⟩) (λy hy h0=> ?_) λhy h0=> ?_⟩
  ·have hy:gI x.a.L f.key=some y:=hy
   rw[hF.key]at hy;have hm:=oG hy;obtain⟨ln,q1,k1,k2,k3,k4,q2,_⟩:=g.q y hm.1;have hsp:(0:Int)<spn (x.B x.key).cls:=by
    have h1:=q2.1.1;rw[hm.2]at h1;have:=dM (x.B x.key).cls;omega
   have:=aoC.read (x:=x) (f:={f with had:=true,old:=y,piece:=0}) (m:=0) (y:=y) (ln:=ln) ⟨hF.key,hF.value,hF.code,hF.found,hF.ans,hF.ep,hF.aep⟩ rfl hy q1 rfl rfl hsp;rw[show j+1=3+x.far+0 by omega];exact .inr ⟨this,λ_=>e⟩
  ·have hy:gI x.a.L f.key=none:=hy
   rw[hF.key]at hy;exact .inr ⟨.leave (by omega) hF.code hF.aep (.inl ⟨hF.found,hF.ans,hy⟩),λ_=>e⟩
 | @read f m y ln hF hh hw hl ho hp hlt=>
  have e:=hg (by show¬(2:Int)=0;decide);have hm:=oG hw;obtain⟨ln',q1,k1,k2,k3,k4,q2,_⟩:=g.q y hm.1;have el:ln'=ln:=by have:=q1.symm.trans hl;omega
  subst el;have hsp:=dM (x.B x.key).cls;rw[hm.2]at k1 k2 k3 k4 q2;refine⟨by omega,by show¬(2:Int)=7;decide,wp2 (k:=1) rfl rfl g1.dok (ln:=ln') q2 hh ?_ hp hlt (λhne=> ?_) λheq=> ?_⟩
  ·show f.old=_
   rw[ho,k1,k2,k3,k4,<-q1,<-hm.2]
  ·have:=aoC.read (x:=x) (f:={f with piece:=(m+1:Nat)}) (m:=m+1) (y:=y) (ln:=ln') ⟨hF.key,hF.value,hF.code,hF.found,hF.ans,hF.ep,hF.aep⟩ hh hw hl ho rfl (by omega)
   rw[show 3+x.far+m+1=3+x.far+(m+1) by omega];exact .inr ⟨this,λ_=>e⟩
  ·exact .inr ⟨.leave (by omega) hF.code hF.aep (.inr ⟨rfl,rfl,y,hw⟩),λ_=>e⟩
 | @leave j f hj hc he h=>
  have e:=hg (by show¬(6:Int)=0;decide);refine⟨by omega,by show¬(6:Int)=7;decide,wp6 g1 rfl ht λ_=> .inl ⟨rfl,rfl,?_⟩⟩;rcases h with ⟨h1,h2,h3⟩|⟨h1,h2,y,h3⟩
  ·exact .miss e hc he h1 h2 h3
  ·exact .hit e hc he h1 h2 h3
noncomputable def akC:Ctr:={X:=ZWp,args:=λx=>[.ptr 0 0,i64 x.t,arK 2 x.key x.v],k:=1,os:=λx=>[.abs (ownM x.a.os)],pre:=λx=>Hd x.ok,outs:=[
 {Y:=Unit,post:=λx _=>Hd (goodP 2 x.key x.v≠0),ret:=λx _=> .tup [aiB (goodP 2 x.key x.v) false ⟨#[]⟩ 0,i64 1,boo true],m:=1,os:=λx _=>[.abs (ownM x.a.os)]},
 {Y:=Unit,post:=λx _=>Hd (goodP 2 x.key x.v=0/\ ∀i,i<x.a.p.n->x.a.p.cls i≠ -1/\x.a.p.full x.c i),ret:=λx _=> .tup [aiB 4 false ⟨#[]⟩ 0,i64 (4+x.far:Nat),boo true],m:=1,os:=λx _=>[.abs (ownM x.a2.os)]},
 {Y:=ZSto,post:=λx y=>Hd (goodP 2 x.key x.v=0/\ ∃B',PPut x ((x.a.r.put x.t x.a.r.now).put x.t 0) y B'),ret:=λx _=> .tup [aiB 0 x.had ⟨#[]⟩ x.a.c.now,i64 (5+x.far+x.sp:Nat),boo true],m:=1,os:=λ_ y=>[.abs (ownM y.os)]}]}
noncomputable def akD:Ctr:={X:=ZWp,args:=λx=>[.ptr 0 0,i64 x.t,arK 1 x.key x.v],k:=1,os:=λx=>[.abs (ownM x.a.os)],pre:=λx=>Hd x.ok,outs:=[
 {Y:=Nat,post:=λx _=>Hd (goodP 1 x.key x.v≠0),ret:=λx n=> .tup [aiB (goodP 1 x.key x.v) false ⟨#[]⟩ 0,i64 n,boo true],m:=1,os:=λx _=>[.abs (ownM x.a.os)]},
 {Y:=Nat,post:=λx _=>Hd (goodP 1 x.key x.v=0/\gI x.a.L x.key=none),ret:=λx n=> .tup [aiB 0 false ⟨#[]⟩ 0,i64 n,boo true],m:=1,os:=λx _=>[.abs (ownM x.a2.os)]},
 {Y:=Nat,post:=λx _=>Hd (goodP 1 x.key x.v=0/\ ∃y,gI x.a.L x.key=some y),ret:=λx n=> .tup [aiB 0 true (x.B x.key).value 0,i64 n,boo true],m:=1,os:=λx _=>[.abs (ownM x.a2.os)]}]}
theorem TY{X:Type}{x:X}{v:AV}{h':Heap}{o p q:Out X}{r:List (Out X)}(h: ∃y,q.post x y/\v=q.ret x y/\h'=hO q.m (q.os x y)):kU x v h' (o::p::q::r):=by
 rw[dU,dU,dU];exact .inr (.inr (.inl h))
theorem aeH:bY Tryz.prog 35 akC:=jP λx hx=>by
 have hx:=aZ.1 hx;refine⟨_,aoA,rfl,⟨x.a,x.t,x.key,x.v,zBk,λj m s=>TW x j m s/\(s.ph≠0->goodP 2 x.key x.v=0),as8 x⟩,aZ.2 ⟨⟨.enter,λh=>absurd rfl h⟩,λj m s h=>aoB hx h.1 h.2⟩,rfl,rfl,λv h' hh=> ?_⟩;obtain⟨⟨s,n,m⟩,h0,e1,e2⟩:=jh hh;have h0:as8 x n s:=aZ.1 h0;cases h0 with
 |bad h hs=>
  subst hs;exact eP ⟨(),aZ.2 h,e1,e2⟩
 | @full f h hc hf ha he hfu=>
  refine BJ ⟨(),aZ.2 ⟨h,hfu⟩,e1.trans ?_,e2⟩;show AV.tup [aiB f.code f.found f.ans f.aep,_,_]=_;rw[hc,hf,ha,he]
  first|done|rfl
 | @done f a' B' h hc hf ha he g=>
  refine TY ⟨a',aZ.2 ⟨h,B',g⟩,e1.trans ?_,e2⟩;show AV.tup [aiB f.code f.found f.ans f.aep,_,_]=_;rw[hc,hf,ha,he]
  first|done|rfl
theorem aeI:bY Tryz.prog 35 akD:=jP λx hx=>by
 have hx:=aZ.1 hx;refine⟨_,aoz,rfl,⟨x.a,x.t,x.key,x.v,x.B x.key,λj m s=>aoC x j m s/\(s.ph≠0->goodP 1 x.key x.v=0),λ_=>as9 x⟩,aZ.2 ⟨⟨.enter,λh=>absurd rfl h⟩,λj m s h=>aoD hx h.1 h.2⟩,rfl,rfl,λv h' hh=> ?_⟩;obtain⟨⟨s,n,m⟩,h0,e1,e2⟩:=jh hh;have h0:as9 x s:=aZ.1 h0;cases h0 with
 |bad h hs=>
  subst hs;exact eP ⟨n,aZ.2 h,e1,e2⟩
 | @miss f h hc he hf ha hw=>
  refine BJ ⟨n,aZ.2 ⟨h,hw⟩,e1.trans ?_,e2⟩;show AV.tup [aiB f.code f.found f.ans f.aep,_,_]=_;rw[hc,hf,ha,he]
  first|done|rfl
 | @hit f y h hc he hf ha hw=>
  refine TY ⟨n,aZ.2 ⟨h,y,hw⟩,e1.trans ?_,e2⟩;show AV.tup [aiB f.code f.found f.ans f.aep,_,_]=_;rw[hc,hf,ha,he]
  first|done|rfl
noncomputable def asJ:WTr:=λargs h K=>match args with
 |[a,t,.agg l]=>(bif decide (intL l 0=2)then ctrT akC else ctrT akD) [a,t,.agg l] h K
 |_=>False
theorem aoE(args:List AV)(h:Heap)(K:AV->Heap->Prop)(hq:asJ args h K):Sp Tryz.prog 35 args h K:=by
 unfold asJ at hq;split at hq
 ·exact apl (P:=Tryz.prog) (f:=35) _ (bM aeH) (bM aeI) _ _ _ hq
 ·exact hq.elim
noncomputable def Dy:Ctr:=det Unit (λ_=>[]) 0 (λ_=>[]) (λ_=>True) (λ_=>boo true) 0 (λ_=>[])
noncomputable def akE:jv:=[(13,ctrT ajp.ctr),(35,asJ)]
theorem Ua:dY Tryz.prog akE:= .cons (bM asr) (.cons aoE .nil)
def uw:Prop:= ∃y_3:Unit,True/\true=false/\True
def akF:Prop:=ByteArray.mk #[]=ByteArray.mk #[]/\Value.slice none 0 0=Value.slice none 0 0/\True
def abz(a:ZWp):Prop:=0=0/\(a.t:Int)=0/\((1:Int)=1/\a.key= @ByteArray.mk (@List.toArray UInt8 [(97:UInt8)])/\a.v=ByteArray.mk #[]/\akF)/\True
def abA(a:ZWp):Prop:=Hd (goodP (1:Int) a.key a.v=0/\ ∃y_3:ZLnk,gI a.a.L a.key=some y_3)
def Oj(a:ZWp):Prop:=Hd (goodP (1:Int) a.key a.v=0/\gI a.a.L a.key= @Option.none ZLnk)
def Ol(a:ZWp):Prop:=cP (BEq.beq ((4+a.far:Nat):Int) (6:Int)) uw uw
def Y0(a:ZWp):Prop:=cP (BEq.beq ((5+a.far+a.sp:Nat):Int) (6:Int)) (cP (BEq.beq a.a.c.now (1:Int)) uw uw) uw
def Gs(x:Unit):Prop:=
 ∃x_1:ZNew,Hd (10<=x_1.n/\x_1.n<=258/\1<=x_1.t/\x_1.t<=4)/\((x_1.n:Int)=10/\(x_1.t:Int)=1/\True)/\True/\ ∀y:DevM,Hd (y.ok/\y.n=x_1.n/\y.st=2/\y.fl=2/\y.fe=1)-> ∃x_2:ZWp,Hd x_2.ok/\(0=0/\(x_2.t:Int)=0/\((2:Int)=2/\x_2.key= @ByteArray.mk (@List.toArray UInt8 [(97:UInt8)])/\x_2.v= @ByteArray.mk (@List.toArray UInt8 [(49:UInt8)])/\akF)/\True)/\(ownM x_2.a.os=ownM (ZSto.os (newSto x_1.n x_1.t y))/\True)/\(∀y_1:Unit,Hd (goodP (2:Int) x_2.key x_2.v≠(0:Int))-> ∃x_3:ZWp,Hd x_3.ok/\abz x_3/\(ownM x_3.a.os=ownM x_2.a.os/\True)/\(∀y_2:Nat,Hd (goodP (1:Int) x_3.key x_3.v≠(0:Int))->uw)/\(∀y_2:Nat,Oj x_3->uw)/\ ∀y_2:Nat,abA x_3->uw)/\(∀y_1:Unit,Hd (goodP (2:Int) x_2.key x_2.v=0/\ ∀i:Nat,i<x_2.a.p.n->x_2.a.p.cls i≠(-(1:Int))/\x_2.a.p.full x_2.c i)-> ∃x_3:ZWp,Hd x_3.ok/\abz x_3/\(ownM x_3.a.os=ownM x_2.a2.os/\True)/\(∀y_2:Nat,Hd (goodP (1:Int) x_3.key x_3.v≠(0:Int))->Ol x_2)/\(∀y_2:Nat,Oj x_3->Ol x_2)/\ ∀y_2:Nat,abA x_3->Ol x_2)/\ ∀y_1:ZSto,Hd (goodP (2:Int) x_2.key x_2.v=0/\ ∃B': ∀a:ByteArray,ZBlk,PPut x_2 (ZRd.put (x_2.a.r.put x_2.t x_2.a.r.now) x_2.t (0:Int)) y_1 B')-> ∃x_3:ZWp,Hd x_3.ok/\abz x_3/\(ownM x_3.a.os=ownM y_1.os/\True)/\(∀y_2:Nat,Hd (goodP (1:Int) x_3.key x_3.v≠(0:Int))->Y0 x_2)/\(∀y_2:Nat,Oj x_3->Y0 x_2)/\ ∀y_2:Nat,abA x_3->cP (BEq.beq ((5+x_2.far+x_2.sp:Nat):Int) (6:Int)) (cP (BEq.beq x_2.a.c.now (1:Int)) (∃y_3:Unit,True/\true=BEq.beq (ByteArray.toList (ZBlk.value (x_3.B x_3.key))) (ByteArray.toList (@ByteArray.mk (@List.toArray UInt8 [(49:UInt8)])))/\
 True) uw) uw
theorem Ub(x:Unit):Gs x=wpF Tryz.prog akE tt (noA x) 200 6 32 (Dy.args x) (hO 0 []) (λv h'=>eG 0 x v h' Dy.outs):=by kernel_rfl
theorem Uc{n:Nat}{c:Int}(hc:0<=c){i k:Nat}(h:(dV n n).takes c i k):i=0/\k=0:=by
 obtain⟨h1,h2,h3,h4⟩:=h;have h1:i<n:=h1;have cl: ∀j,j<n->(dV n n).cls j= -1:=λj hj=>if_pos hj
 rcases h4 with ⟨h4,_⟩|⟨h4,h5,_,h6⟩
 ·rw[cl i h1]at h4;omega
 ·refine⟨?_,h5⟩
  rcases Nat.eq_zero_or_pos i with h|h
  ·exact h
  ·exact absurd (cl 0 (by omega)) (h6 0 h)
theorem Gt{n:Nat}(hn:0<n){c:Int}: ¬ ∀i,i<(dV n n).n->(dV n n).cls i≠ -1/\(dV n n).full c i:=λh=>(h 0 hn).1 (if_pos hn)
theorem eu.new{n T:Nat}{d:DevM}(h:d.ok/\d.n=n/\d.st=2/\d.fl=2/\d.fe=1)(hn:10<=n/\n<=258)(hT:1<=T/\T<=4)(B:ByteArray->ZBlk):eu (newSto n T d) T 10 0 B:={
 dok:=h.1
 dst:=by show d.st<=_;omega
 dfl:=by show d.fl<=_;omega
 dfe:=by show d.fe<=_;omega
 rok:=⟨hT.1,hT.2,show(1:Int)<=1 by decide,show(1:Int)<4611686018427387904 by decide⟩
 rt:=rfl
 cok:=⟨hT.1,hT.2,⟨show(0:Int)<=0+1 by decide,show(0:Int)+1<4611686018427387904 by decide⟩,⟨Int.le_refl 0,show(0:Int)<4611686018427387904 by decide⟩,⟨Int.le_refl 0,show(0:Int)<4611686018427387904 by decide⟩,λ_=>⟨Int.le_refl 0,show(0:Int)<1099511627776 by decide⟩⟩
 ct:=rfl
 ph:=rfl
 jJ:=rfl
 pg:=by
  refine⟨⟨by show 1<=(n-2)/8;omega,by show(n-2)/8<=32;omega,λi hi=> ?_⟩,λi hi=> ?_⟩
  ·have hi:i<(n-2)/8:=hi
   show-1<=(if i<(n-2)/8 then(-1:Int)else 0)/\(if i<(n-2)/8 then(-1:Int)else 0)<=3/\(0:Int)<=0/\(0:Int)<=8;rw[if_pos hi];decide
  ·exact⟨λ_ _=>rfl,λk hk=>(nomatch hk),(congrArg Int.ofNat (RV (λ_=>rfl) 8)).symm⟩
 fit:=by show 2+(n-2)/8*8<=d.n;omega
 bok:=⟨Nat.zero_le _,λ_=>rfl⟩
 lok:=⟨show 0<1099511627776 by decide,aY 0,aY 0,λ_=>rfl,λh=>absurd rfl h⟩
 ln:=rfl
 srt:=List.Pairwise.nil
 len:=aY 0
 id0:=Int.le_refl 0
 id1:=show(0:Int)<=10 by decide
 v0:=Int.le_refl 0
 v1:=show(0:Int)<=10 by decide
 nn:=show 0<=10 by decide
 asD:=show(1:Int)<=0+1 by decide
 apI:=show(0:Int)+1<=10 by decide
 owed:=λ_=>show(0:Int)<=10 by decide
 used:=λK _ hu=>by
  rcases hu with ⟨y,hy,_⟩|⟨i,hi,_⟩
  ·cases hy
  ·exact absurd hi (Nat.not_lt_zero i)
 q:=λy hy=>by cases hy}
theorem H9(u:Unit):Gs u:=by
 unfold Gs;simp only[akF,abz,uw,Oj,abA,Ol,Y0];simp only[aZ,aV,aU,aA,aI,bQ,bF,aO,aK,ay,aX,aW,bT,bG,bH,bI,bU,bC,bJ,bn,eH,aH,aN,ah,ak,aB,aF,aC,aG];refine⟨⟨10,1⟩,by decide,⟨rfl,rfl⟩,λd hd=> ?_⟩;have g0:=eu.new (n:=10) (T:=1) hd (by decide) (by decide) (λ_=>zBk);refine⟨⟨newSto 10 1 d,1,10,0,λ_=>zBk,0,⟨#[97]⟩,⟨#[49]⟩⟩,⟨g0,by show 0<1;decide,rfl,by show 10<=900000;decide,by show 0<=100;decide⟩,⟨rfl,rfl,rfl⟩,rfl,λh=>absurd (show goodP 2 ⟨#[97]⟩ ⟨#[49]⟩=0 by decide) h,λh=>absurd h.2 (Gt (n:=1) (by decide)),λa' h=> ?_⟩;obtain⟨_,B',g⟩:=h;obtain⟨l,hl,hk⟩:=g.L;obtain⟨b,hb,hv,_⟩:=g.bk;refine⟨⟨a',1,410,1,B',0,⟨#[97]⟩,⟨#[]⟩⟩,⟨g.base,by show 0<1;decide,by show a'.r.has 0=0;rw[g.r];rfl,by show 410<=900000;decide,by show 1<=100;decide⟩,⟨rfl,rfl,rfl⟩,rfl,λ_ h=>absurd (show goodP 1 ⟨#[97]⟩ ⟨#[]⟩=0 by decide) h,λ_ h=> ?_,λ_ h=> ?_⟩
 ·exfalso
  have h:gI a'.L ⟨#[97]⟩=none:=h.2;rw[hl]at h;have:=ana (l:=l) (s:=⟨#[97]⟩) (show srt (newSto 10 1 d).L from g0.srt);rw[if_pos (show(⟨#[97]⟩:ByteArray)=l.key from hk.symm)]at this;have h':=this.symm.trans h;cases h'
 ·have e0:B' ⟨#[97]⟩=b:=by rw[hb];exact if_pos rfl
  refine bf (λ_=>bf (λ_=> ?_) λh=> ?_) λh=> ?_
  ·show true=((B' ⟨#[97]⟩).value.toList==(⟨#[49]⟩:ByteArray).toList)
   rw[e0,hv];exact(beq_self_eq_true _).symm
  ·exact Bool.noConfusion (show true=false from h)
  ·exact Bool.noConfusion (show true=false from h)
theorem aeJ:bY Tryz.prog 32 Dy:=dL dD mixed Ua noA 200 6 (λ_=>rfl) (λ_=>rfl) λx _=>Eq.mp (Ub x) (H9 x)
namespace ZPool
def gZ(p:ZPool)(i:Nat):Nat->Nat
 |0=>0
 |j+1=>gZ p i j+if p.tk i j=true then 1 else 0
def qU(p:ZPool)(i:Nat):Nat:=if spn (p.cls i)=0 then 0 else(8/spn (p.cls i)).toNat
def cntI(p:ZPool):Nat->Nat
 |0=>0
 |i+1=>cntI p i+gZ p i (p.qU i)
theorem Y1(p:ZPool)(i:Nat): ∀j,p.gZ i j<=j
 |0=>aY 0
 |j+1=>by have:=Y1 p i j;unfold gZ;split<;>omega
theorem aoF(p:ZPool)(i:Nat):p.qU i<=8:=by
 unfold qU;have:=dM (p.cls i);rcases this with h|h|h|h|h<;>obtain⟨_,h⟩:=h<;>(try obtain⟨h,_⟩:=h)<;>split<;>simp_all
theorem akG(p:ZPool): ∀i,p.cntI i<=8*i
 |0=>aY 0
 |i+1=>by have:=akG p i;have:=Y1 p i (p.qU i);have:=aoF p i;unfold cntI;omega
end ZPool
structure iO where
 i:Nat
 c:Nat
 z:Bool
 f:Nat->List Value
def iO.row(s:iO):dA:= .gX s.z 180 (.row 2 s.c s.f [])
noncomputable def apM(p:ZPool):FuncId->qR:=λf=>bif Nat.beq f 40 then(λb fr h=>bif Nat.beq b 0 then [
 {σ:=iO,fr:=λs=>[(11,i64 s.i),(3,.slV s.z h.next 2 s.c)],ob:=λs=>[(h.next,some s.row)],nx:=1,inv:=λs=>Hd (s.i<=p.n/\s.c=p.cntI s.i/\(s.z=true->s.c=0)),meas:=λs=>p.n-s.i}]else bif Nat.beq b 1010 then [
 {σ:=iO,fr:=λs=>[(3,.slV s.z h.next 2 s.c)],ob:=λs=>[(rZ (SE.look fr 3),none),(h.next,some s.row)],nx:=1,inv:=λs=>Hd (s.c=p.cntI (rZ (SE.look fr 11))+p.gZ (rZ (SE.look fr 11)) (rZ (SE.look fr 21)+1)/\(s.z=true->s.c=0)),meas:=λ_=>0}]else [])elseλ_ _ _=>[]
def akH:Ctr:={X:=iL,args:=λx=>[i64 x.k,i64 x.c],k:=0,os:=λ_=>[],pre:=λx=>Hd (x.k<32/\ -1<=x.c/\x.c<=3),outs:=[
 {Y:=Unit,post:=λx _=>Hd (x.c= -1),ret:=λ_ _=>ig,m:=0,os:=λ_ _=>[]},
 {Y:=Unit,post:=λx _=>Hd (x.c=0),ret:=λ_ _=> .slW 0 0 1 8,m:=1,os:=λx _=>[.room 3 (zH x 8)]},
 {Y:=Unit,post:=λx _=>Hd (x.c=1),ret:=λ_ _=> .slW 0 0 1 4,m:=1,os:=λx _=>[.room 3 (zH x 4)]},
 {Y:=Unit,post:=λx _=>Hd (x.c=2),ret:=λ_ _=> .slW 0 0 1 2,m:=1,os:=λx _=>[.room 3 (zH x 2)]},
 {Y:=Unit,post:=λx _=>Hd (x.c=3),ret:=λ_ _=> .slW 0 0 1 1,m:=1,os:=λx _=>[.room 3 (zH x 1)]}]}
theorem akI{X:Type}{x:X}{v:AV}{h':Heap}{o:Out X}{r:List (Out X)}(h:kU x v h' r):kU x v h' (o::r):=by
 rw[dU];exact .inr h
theorem aeK:bY Tryz.prog 73 akH:=jP λx hx=>by
 obtain⟨k,c⟩:=x;obtain⟨h1,h2,h3⟩:=aZ.1 hx;refine⟨_,QC,rfl,⟨k,c⟩,aZ.2 h1,rfl,rfl,λv h' hh=> ?_⟩;have hc:c= -1\/c=0\/c=1\/c=2\/c=3:=by have h2: -1<=c:=h2;have h3:c<=3:=h3;omega
 have z: ∀q:Int,(spn q=0)-> ¬(spn q≠0):=λ_ h h'=>h' h
 rcases hc with rfl|rfl|rfl|rfl|rfl<;>rcases pR hh with ⟨y,h0,h1,h2⟩|⟨y,h0,h1,h2⟩
 ·exact eP ⟨(),aZ.2 rfl,h1,h2⟩
 ·exact absurd (show spn (-1)=0 from rfl) (aZ.1 h0)
 ·exact absurd (aZ.1 h0) (show¬spn 0=0 by decide)
 ·exact BJ ⟨(),aZ.2 rfl,h1,h2⟩
 ·exact absurd (aZ.1 h0) (show¬spn 1=0 by decide)
 ·exact TY ⟨(),aZ.2 rfl,h1,h2⟩
 ·exact absurd (aZ.1 h0) (show¬spn 2=0 by decide)
 ·exact akI (TY ⟨(),aZ.2 rfl,h1,h2⟩)
 ·exact absurd (aZ.1 h0) (show¬spn 3=0 by decide)
 ·exact akI (akI (TY ⟨(),aZ.2 rfl,h1,h2⟩))
noncomputable def Ud:jg:={X:=ZPool,args:=λ_=>[.ptr 0 0],k:=1,l:=λp=>[.m p.osW],pre:=λp=>Hd p.ok,outs:=[
 {Y:=Bool×(Nat->List Value),post:=λp y=>Hd (y.1=true->p.cntI p.n=0),ret:=λp y=> .slV y.1 1 2 (p.cntI p.n),m:=2,l:=λp y=>[.m p.osW,.o (.gX y.1 180 (.row 2 (p.cntI p.n) y.2 []))]}]}
noncomputable def Ia(r:Nat):jg:={X:=ZSto,args:=λ_=>[.ptr 0 0],k:=1,l:=λa=>[.m a.os],pre:=λ_=>Hd True,outs:=[{Y:=Unit,post:=λ_ _=>True,ret:=λ_ _=> .ptr r 0,m:=11,l:=λa _=>a.os.map PO.o}]}
def akJ(a:ZPool):Prop:= ∀q:Nat,q<a.n->[Value.int .i64 (a.cls q),Value.bool (a.tk q 0),Value.bool (a.tk q 1),Value.bool (a.tk q 2),Value.bool (a.tk q 3),Value.bool (a.tk q 4),Value.bool (a.tk q 5),Value.bool (a.tk q 6),Value.bool (a.tk q 7),Value.int .i64 (a.cnt q)]=[Value.int .i64 (a.cls q),Value.bool (a.tk q 0),Value.bool (a.tk q 1),Value.bool (a.tk q 2),Value.bool (a.tk q 3),Value.bool (a.tk q 4),Value.bool (a.tk q 5),Value.bool (a.tk q 6),Value.bool (a.tk q 7),Value.int .i64 (a.cnt q)]
def Ue(a:ZPool):Prop:=(a.n=a.n/\akJ a)/\((0=0/\a.n=a.n/\a.n=a.n)/\True)/\True
def Jy(a:ZPool)(b:Nat):Prop:=(a.cls (0+b)=a.cls (0+b)/\a.tk (0+b) 0=a.tk (0+b) 0/\a.tk (0+b) 1=a.tk (0+b) 1/\a.tk (0+b) 2=a.tk (0+b) 2/\a.tk (0+b) 3=a.tk (0+b) 3/\a.tk (0+b) 4=a.tk (0+b) 4/\a.tk (0+b) 5=a.tk (0+b) 5/\a.tk (0+b) 6=a.tk (0+b) 6/\a.tk (0+b) 7=a.tk (0+b) 7/\a.cnt (0+b)=a.cnt (0+b)/\True)/\Ue a
def Ba(a:iL)(b:Nat):Prop:=[Value.int .i64 (2+(a.k:Int)*8+(b:Int)*spn a.c)]=[Value.int .i64 (2+(a.k:Int)*8+(b:Int)*spn a.c)]
def kV(a:iL)(b:ZPool)(c:Nat):Prop:=(8=8/\ ∀q:Nat,q<8->Ba a q)/\Jy b c
def abB(a:ZSto):Prop:= ∃y:Unit,True/\0=0/\(0=0/\0=0/\0=0/\0=0/\0=0/\0=0/\0=0/\0=0/\a.id=a.id/\a.ver=a.ver/\(Nat.beq a.n 0=Nat.beq a.n 0/\a.n=a.n)/\True)/\(0=0/\(1:Int)=1/\(0:Int)=0/\(0:Int)=0/\True)/\ownM a.d.os=ownM a.d.os/\ownM a.p.os=ownM a.p.os/\ownM a.r.os=ownM a.r.os/\ownM a.ck.os=ownM a.ck.os/\ownM a.b.os=ownM a.b.os/\tabA a.L=tabA a.L/\ordA a.L=ordA a.L/\ownM a.l.os=ownM a.l.os/\(Nat.beq a.n 0=Nat.beq a.n 0/\a.n=a.n/\ ∀q:Nat,q<a.n->[Value.int .i64 (ZEff.kind (a.e q)),Value.string (ZEff.key (a.e q)),Value.string (ZEff.value (a.e q)),Value.int .u64 (ZEff.id (a.e q)),Value.int .u64 (ZEff.ver (a.e q)),Value.int .u64 (ZEff.epoch (a.e q)),Value.int .i64 (ZEff.group (a.e q))]=[Value.int .i64 (ZEff.kind (a.e q)),Value.string (ZEff.key (a.e q)),Value.string (ZEff.value (a.e q)),Value.int .u64 (ZEff.id (a.e q)),Value.int .u64 (ZEff.ver (a.e q)),Value.int .u64 (ZEff.epoch (a.e q)),Value.int .i64 (ZEff.group (a.e q))])/\True
def kR(a:iO)(b:ZPool)(c:Nat):Prop:=Hd (a.c=b.cntI (rZ (AV.lit (Value.int .i64 (c:Int))))+b.gZ (rZ (AV.lit (Value.int .i64 (c:Int)))) (rZ (AV.lit (Value.int .i64 0))+1)/\(a.z=true->a.c=0))
def iP(a:iO)(b:iO):Prop:=a.z=b.z/\a.c=b.c/\ ∀q:Nat,q<a.c->Cs.eff a.f [] q=Cs.eff b.f [] q
def oW(a:iO)(b:ZPool)(c:Nat):Prop:=Hd (a.c=b.cntI (rZ (AV.lit (Value.int .i64 (c:Int))))+b.gZ (rZ (AV.lit (Value.int .i64 (c:Int)))) (rZ (AV.lit (Value.int .i64 1))+1)/\(a.z=true->a.c=0))
def qK(a:iL)(b:ZPool)(c:Nat):Prop:=(4=4/\ ∀q:Nat,q<4->Ba a q)/\Jy b c
def Gu(a:iO)(b:iO)(c:iL)(d:ZPool):Prop:=a.z=false/\a.c=b.c+List.length [List.take 2 [Value.int .i64 (2+(c.k:Int)*8+0*spn c.c),Value.int .i64 (d.cls (0+b.i))]]/\ ∀q:Nat,q<a.c->Cs.eff a.f [] q=Cs.eff b.f [(b.c,List.take 2 [Value.int .i64 (2+(c.k:Int)*8+0*spn c.c),Value.int .i64 (d.cls (0+b.i))])] q
def wQ(a:iO)(b:ZPool)(c:Nat):Prop:=Hd (a.c=b.cntI (rZ (AV.lit (Value.int .i64 (c:Int))))+b.gZ (rZ (AV.lit (Value.int .i64 (c:Int)))) (rZ (AV.lit (Value.int .i64 2))+1)/\(a.z=true->a.c=0))
def wR(a:iO)(b:ZPool)(c:Nat):Prop:=Hd (a.c=b.cntI (rZ (AV.lit (Value.int .i64 (c:Int))))+b.gZ (rZ (AV.lit (Value.int .i64 (c:Int)))) (rZ (AV.lit (Value.int .i64 3))+1)/\(a.z=true->a.c=0))
def Gv(a:iO)(b:ZPool):Prop:=Hd (a.i<=b.n/\a.c=b.cntI a.i/\(a.z=true->a.c=0))
def iQ(a:iO)(b:iO):Prop:=(a.z=b.z/\a.c=b.c)/\True
def Gw(a:iO)(b:ZPool)(c:Nat)(d:iO):Prop:=Gv a b/\b.n-a.i<b.n-c/\((a.i:Int)=(c:Int)+1/\iQ a d)/\iP a d/\Ue b
def Gx(a:iL)(b:ZPool)(c:Nat):Prop:=List.all [List.take 2 [Value.int .i64 (2+(a.k:Int)*8+0*spn a.c),Value.int .i64 (b.cls (0+c))]] (λ(l:List Value)=>Nat.beq (List.length l) 2&&List.all l Value.oneCell')=true
def jq(a:Nat):Prop:=(2*(a+1)+1000)*16<=281474976710656
def jr(a:iO)(b:Nat):Prop:=(a.z=false/\a.c=b+1)/\True
def Om(a:iL)(b:ZPool)(c:Nat):Prop:=List.all [List.take 2 [Value.int .i64 (2+(a.k:Int)*8+1*spn a.c),Value.int .i64 (b.cls (0+c))]] (λ(l:List Value)=>Nat.beq (List.length l) 2&&List.all l Value.oneCell')=true
def Oo(a:iO)(b:ZPool)(c:Nat):Prop:=Hd (a.c=b.cntI (rZ (AV.lit (Value.int .i64 (c:Int))))+b.gZ (rZ (AV.lit (Value.int .i64 (c:Int)))) (rZ (AV.lit (Value.int .i64 4))+1)/\(a.z=true->a.c=0))
def Oq(a:iO)(b:ZPool)(c:Nat):Prop:=Hd (a.c=b.cntI (rZ (AV.lit (Value.int .i64 (c:Int))))+b.gZ (rZ (AV.lit (Value.int .i64 (c:Int)))) (rZ (AV.lit (Value.int .i64 5))+1)/\(a.z=true->a.c=0))
def Ot(a:iO)(b:ZPool)(c:Nat):Prop:=Hd (a.c=b.cntI (rZ (AV.lit (Value.int .i64 (c:Int))))+b.gZ (rZ (AV.lit (Value.int .i64 (c:Int)))) (rZ (AV.lit (Value.int .i64 6))+1)/\(a.z=true->a.c=0))
def Ou(a:iO)(b:ZPool)(c:Nat):Prop:=Hd (a.c=b.cntI (rZ (AV.lit (Value.int .i64 (c:Int))))+b.gZ (rZ (AV.lit (Value.int .i64 (c:Int)))) (rZ (AV.lit (Value.int .i64 7))+1)/\(a.z=true->a.c=0))
def Y2(a:iL)(b:ZPool)(c:Nat):Prop:=List.all [List.take 2 [Value.int .i64 (2+(a.k:Int)*8+2*spn a.c),Value.int .i64 (b.cls (0+c))]] (λ(l:List Value)=>Nat.beq (List.length l) 2&&List.all l Value.oneCell')=true
def Y3(a:iL)(b:ZPool)(c:Nat):Prop:=List.all [List.take 2 [Value.int .i64 (2+(a.k:Int)*8+3*spn a.c),Value.int .i64 (b.cls (0+c))]] (λ(l:List Value)=>Nat.beq (List.length l) 2&&List.all l Value.oneCell')=true
def Bc:Prop:=(0:Int)<=0/\(0:Int)<=7
def Gy(a:iL)(b:ZPool)(c:Nat):Prop:=(2=2/\ ∀q:Nat,q<2->Ba a q)/\Jy b c
def Gz:Prop:=(0:Int)<=1/\(0:Int)<=6
def Ov(p:ZPool):Prop:=
 (∃s:iO,Gv s p/\True/\((s.i:Int)=0/\(s.z=true/\s.c=0)/\True)/\(s.z=true/\s.c=0/\ ∀q:Nat,q<s.c->Cs.eff s.f [] q= @List.nil Value)/\Ue p)/\(∀s:iO,Gv s p->cP (decide ((s.i:Int)<(p.n:Int))) ((0<=(s.i:Int)/\(s.i:Int)<(p.n:Int))/\0+s.i<p.n/\ ∃x:iL,Hd (x.k<32/\(-(1:Int))<=x.c/\x.c<=3)/\((x.k:Int)=(s.i:Int)/\x.c=p.cls (0+s.i)/\True)/\True/\(∀y:Unit,Hd (x.c=(-(1:Int)))->I64 ((s.i:Int)+1)/\ ∃s_1:iO,Gv s_1 p/\p.n-s_1.i<p.n-s.i/\((s_1.i:Int)=(s.i:Int)+1/\iQ s_1 s)/\iP s_1 s/\Ue p)/\(∀y:Unit,Hd (x.c=0)->(Bc/\0<8/\Bc/\cP (p.tk (0+s.i) 0) (s.z=s.z/\s.c=s.c/\Gx x p s.i/\jq s.c/\ ∃s_1:iO,kR s_1 p s.i/\True/\jr s_1 s.c/\Gu s_1 s x p/\kV x p s.i) (∃s_1:iO,kR s_1 p s.i/\True/\iQ s_1 s/\iP s_1 s/\kV x p s.i))/\(∀s_1:iO,kR s_1 p s.i->I64 (1:Int)/\(Gz/\1<8/\Gz/\cP (p.tk (0+s.i) 1) (s_1.z=s_1.z/\s_1.c=s_1.c/\Om x p s.i/\jq s_1.c/\ ∃s_2:iO,oW s_2 p s.i/\True/\jr s_2 s_1.c/\(s_2.z=false/\s_2.c=s_1.c+List.length [List.take 2 [Value.int .i64 (2+(x.k:Int)*8+1*spn x.c),Value.int .i64 (p.cls (0+s.i))]]/\ ∀q:Nat,q<s_2.c->Cs.eff s_2.f [] q=Cs.eff s_1.f [(s_1.c,List.take 2 [Value.int .i64 (2+(x.k:Int)*8+1*spn x.c),Value.int .i64 (p.cls (0+s.i))])] q)/\kV x p s.i) (∃s_2:iO,oW s_2 p s.i/\True/\iQ s_2 s_1/\iP s_2 s_1/\kV x p s.i))/\(∀s_2:iO,oW s_2 p s.i->I64 (2:Int)/\(((0:Int)<=2/\(0:Int)<=5)/\2<8/\((0:Int)<=2/\(0:Int)<=5)/\cP (p.tk (0+s.i) 2) (s_2.z=s_2.z/\
 s_2.c=s_2.c/\Y2 x p s.i/\jq s_2.c/\ ∃s_3:iO,wQ s_3 p s.i/\True/\jr s_3 s_2.c/\(s_3.z=false/\s_3.c=s_2.c+List.length [List.take 2 [Value.int .i64 (2+(x.k:Int)*8+2*spn x.c),Value.int .i64 (p.cls (0+s.i))]]/\ ∀q:Nat,q<s_3.c->Cs.eff s_3.f [] q=Cs.eff s_2.f [(s_2.c,List.take 2 [Value.int .i64 (2+(x.k:Int)*8+2*spn x.c),Value.int .i64 (p.cls (0+s.i))])] q)/\kV x p s.i) (∃s_3:iO,wQ s_3 p s.i/\True/\iQ s_3 s_2/\iP s_3 s_2/\kV x p s.i))/\(∀s_3:iO,wQ s_3 p s.i->I64 (3:Int)/\(((0:Int)<=3/\(0:Int)<=4)/\3<8/\((0:Int)<=3/\(0:Int)<=4)/\cP (p.tk (0+s.i) 3) (s_3.z=s_3.z/\s_3.c=s_3.c/\Y3 x p s.i/\jq s_3.c/\ ∃s_4:iO,wR s_4 p s.i/\True/\jr s_4 s_3.c/\(s_4.z=false/\s_4.c=s_3.c+List.length [List.take 2 [Value.int .i64 (2+(x.k:Int)*8+3*spn x.c),Value.int .i64 (p.cls (0+s.i))]]/\ ∀q:Nat,q<s_4.c->Cs.eff s_4.f [] q=Cs.eff s_3.f [(s_3.c,List.take 2 [Value.int .i64 (2+(x.k:Int)*8+3*spn x.c),Value.int .i64 (p.cls (0+s.i))])] q)/\kV x p s.i) (∃s_4:iO,wR s_4 p s.i/\True/\iQ s_4 s_3/\iP s_4 s_3/\kV x p s.i))/\(∀s_4:iO,wR s_4 p s.i->I64 (4:Int)/\(((0:Int)<=4/\(0:Int)<=3)/\4<8/\((0:Int)<=4/\(0:Int)<=3)/\cP (p.tk (0+s.i) 4) (s_4.z=s_4.z/\s_4.c=s_4.c/\List.all [List.take 2 [Value.int .i64 (2+(x.k:Int)*8+4*spn x.c),Value.int .i64 (p.cls (0+s.i))]] (λ(l:List Value)=>Nat.beq (List.length l) 2&&List.all l Value.oneCell')=true/\jq s_4.c/\ ∃s_5:iO,Oo s_5 p s.i/\True/\jr s_5 s_4.c/\(s_5.z=false/\
 s_5.c=s_4.c+List.length [List.take 2 [Value.int .i64 (2+(x.k:Int)*8+4*spn x.c),Value.int .i64 (p.cls (0+s.i))]]/\ ∀q:Nat,q<s_5.c->Cs.eff s_5.f [] q=Cs.eff s_4.f [(s_4.c,List.take 2 [Value.int .i64 (2+(x.k:Int)*8+4*spn x.c),Value.int .i64 (p.cls (0+s.i))])] q)/\kV x p s.i) (∃s_5:iO,Oo s_5 p s.i/\True/\iQ s_5 s_4/\iP s_5 s_4/\kV x p s.i))/\(∀s_5:iO,Oo s_5 p s.i->I64 (5:Int)/\(((0:Int)<=5/\(0:Int)<=2)/\5<8/\((0:Int)<=5/\(0:Int)<=2)/\cP (p.tk (0+s.i) 5) (s_5.z=s_5.z/\s_5.c=s_5.c/\List.all [List.take 2 [Value.int .i64 (2+(x.k:Int)*8+5*spn x.c),Value.int .i64 (p.cls (0+s.i))]] (λ(l:List Value)=>Nat.beq (List.length l) 2&&List.all l Value.oneCell')=true/\jq s_5.c/\ ∃s_6:iO,Oq s_6 p s.i/\True/\jr s_6 s_5.c/\(s_6.z=false/\s_6.c=s_5.c+List.length [List.take 2 [Value.int .i64 (2+(x.k:Int)*8+5*spn x.c),Value.int .i64 (p.cls (0+s.i))]]/\ ∀q:Nat,q<s_6.c->Cs.eff s_6.f [] q=Cs.eff s_5.f [(s_5.c,List.take 2 [Value.int .i64 (2+(x.k:Int)*8+5*spn x.c),Value.int .i64 (p.cls (0+s.i))])] q)/\kV x p s.i) (∃s_6:iO,Oq s_6 p s.i/\True/\iQ s_6 s_5/\iP s_6 s_5/\kV x p s.i))/\(∀s_6:iO,Oq s_6 p s.i->I64 (6:Int)/\(((0:Int)<=6/\(0:Int)<=1)/\6<8/\((0:Int)<=6/\(0:Int)<=1)/\cP (p.tk (0+s.i) 6) (s_6.z=s_6.z/\s_6.c=s_6.c/\List.all [List.take 2 [Value.int .i64 (2+(x.k:Int)*8+6*spn x.c),Value.int .i64 (p.cls (0+s.i))]] (λ(l:List Value)=>Nat.beq (List.length l) 2&&List.all l Value.oneCell')=true/\jq s_6.c/\ ∃s_7:iO,Ot s_7 p s.i/\True/\jr s_7 s_6.c/\(s_7.z=false/\
 s_7.c=s_6.c+List.length [List.take 2 [Value.int .i64 (2+(x.k:Int)*8+6*spn x.c),Value.int .i64 (p.cls (0+s.i))]]/\ ∀q:Nat,q<s_7.c->Cs.eff s_7.f [] q=Cs.eff s_6.f [(s_6.c,List.take 2 [Value.int .i64 (2+(x.k:Int)*8+6*spn x.c),Value.int .i64 (p.cls (0+s.i))])] q)/\kV x p s.i) (∃s_7:iO,Ot s_7 p s.i/\True/\iQ s_7 s_6/\iP s_7 s_6/\kV x p s.i))/\(∀s_7:iO,Ot s_7 p s.i->I64 (7:Int)/\(((0:Int)<=7/\(0:Int)<=0)/\7<8/\((0:Int)<=7/\(0:Int)<=0)/\cP (p.tk (0+s.i) 7) (s_7.z=s_7.z/\s_7.c=s_7.c/\List.all [List.take 2 [Value.int .i64 (2+(x.k:Int)*8+7*spn x.c),Value.int .i64 (p.cls (0+s.i))]] (λ(l:List Value)=>Nat.beq (List.length l) 2&&List.all l Value.oneCell')=true/\jq s_7.c/\ ∃s_8:iO,Ou s_8 p s.i/\True/\jr s_8 s_7.c/\(s_8.z=false/\s_8.c=s_7.c+List.length [List.take 2 [Value.int .i64 (2+(x.k:Int)*8+7*spn x.c),Value.int .i64 (p.cls (0+s.i))]]/\ ∀q:Nat,q<s_8.c->Cs.eff s_8.f [] q=Cs.eff s_7.f [(s_7.c,List.take 2 [Value.int .i64 (2+(x.k:Int)*8+7*spn x.c),Value.int .i64 (p.cls (0+s.i))])] q)/\kV x p s.i) (∃s_8:iO,Ou s_8 p s.i/\True/\iQ s_8 s_7/\iP s_8 s_7/\kV x p s.i))/\(∀s_8:iO,Ou s_8 p s.i->I64 (8:Int)/\I64 ((s.i:Int)+1)/\ ∃s_9:iO,Gw s_9 p s.i s_8)/\True)/\True)/\True)/\True)/\True)/\True)/\True)/\True)/\(∀y:Unit,Hd (x.c=1)->(((0:Int)<=0/\(0:Int)<=3)/\0<4/\Bc/\cP (p.tk (0+s.i) 0) (s.z=s.z/\s.c=s.c/\Gx x p s.i/\jq s.c/\ ∃s_1:iO,kR s_1 p s.i/\True/\jr s_1 s.c/\Gu s_1 s x p/\qK x p s.i) (∃s_1:iO,kR s_1 p s.i/\True/\iQ s_1 s/\
 iP s_1 s/\qK x p s.i))/\(∀s_1:iO,kR s_1 p s.i->I64 (1:Int)/\(((0:Int)<=1/\(0:Int)<=2)/\1<4/\Gz/\cP (p.tk (0+s.i) 1) (s_1.z=s_1.z/\s_1.c=s_1.c/\Om x p s.i/\jq s_1.c/\ ∃s_2:iO,oW s_2 p s.i/\True/\jr s_2 s_1.c/\(s_2.z=false/\s_2.c=s_1.c+List.length [List.take 2 [Value.int .i64 (2+(x.k:Int)*8+1*spn x.c),Value.int .i64 (p.cls (0+s.i))]]/\ ∀q:Nat,q<s_2.c->Cs.eff s_2.f [] q=Cs.eff s_1.f [(s_1.c,List.take 2 [Value.int .i64 (2+(x.k:Int)*8+1*spn x.c),Value.int .i64 (p.cls (0+s.i))])] q)/\qK x p s.i) (∃s_2:iO,oW s_2 p s.i/\True/\iQ s_2 s_1/\iP s_2 s_1/\qK x p s.i))/\(∀s_2:iO,oW s_2 p s.i->I64 (2:Int)/\(((0:Int)<=2/\(0:Int)<=1)/\2<4/\((0:Int)<=2/\(0:Int)<=5)/\cP (p.tk (0+s.i) 2) (s_2.z=s_2.z/\s_2.c=s_2.c/\Y2 x p s.i/\jq s_2.c/\ ∃s_3:iO,wQ s_3 p s.i/\True/\jr s_3 s_2.c/\(s_3.z=false/\s_3.c=s_2.c+List.length [List.take 2 [Value.int .i64 (2+(x.k:Int)*8+2*spn x.c),Value.int .i64 (p.cls (0+s.i))]]/\ ∀q:Nat,q<s_3.c->Cs.eff s_3.f [] q=Cs.eff s_2.f [(s_2.c,List.take 2 [Value.int .i64 (2+(x.k:Int)*8+2*spn x.c),Value.int .i64 (p.cls (0+s.i))])] q)/\qK x p s.i) (∃s_3:iO,wQ s_3 p s.i/\True/\iQ s_3 s_2/\iP s_3 s_2/\qK x p s.i))/\(∀s_3:iO,wQ s_3 p s.i->I64 (3:Int)/\(((0:Int)<=3/\(0:Int)<=0)/\3<4/\((0:Int)<=3/\(0:Int)<=4)/\cP (p.tk (0+s.i) 3) (s_3.z=s_3.z/\s_3.c=s_3.c/\Y3 x p s.i/\jq s_3.c/\ ∃s_4:iO,wR s_4 p s.i/\True/\jr s_4 s_3.c/\(s_4.z=false/\
 s_4.c=s_3.c+List.length [List.take 2 [Value.int .i64 (2+(x.k:Int)*8+3*spn x.c),Value.int .i64 (p.cls (0+s.i))]]/\ ∀q:Nat,q<s_4.c->Cs.eff s_4.f [] q=Cs.eff s_3.f [(s_3.c,List.take 2 [Value.int .i64 (2+(x.k:Int)*8+3*spn x.c),Value.int .i64 (p.cls (0+s.i))])] q)/\qK x p s.i) (∃s_4:iO,wR s_4 p s.i/\True/\iQ s_4 s_3/\iP s_4 s_3/\qK x p s.i))/\(∀s_4:iO,wR s_4 p s.i->I64 (4:Int)/\I64 ((s.i:Int)+1)/\ ∃s_5:iO,Gw s_5 p s.i s_4)/\True)/\True)/\True)/\True)/\(∀y:Unit,Hd (x.c=2)->(((0:Int)<=0/\(0:Int)<=1)/\0<2/\Bc/\cP (p.tk (0+s.i) 0) (s.z=s.z/\s.c=s.c/\Gx x p s.i/\jq s.c/\ ∃s_1:iO,kR s_1 p s.i/\True/\jr s_1 s.c/\Gu s_1 s x p/\Gy x p s.i) (∃s_1:iO,kR s_1 p s.i/\True/\iQ s_1 s/\iP s_1 s/\Gy x p s.i))/\(∀s_1:iO,kR s_1 p s.i->I64 (1:Int)/\(((0:Int)<=1/\(0:Int)<=0)/\1<2/\Gz/\cP (p.tk (0+s.i) 1) (s_1.z=s_1.z/\s_1.c=s_1.c/\Om x p s.i/\jq s_1.c/\ ∃s_2:iO,oW s_2 p s.i/\True/\jr s_2 s_1.c/\(s_2.z=false/\s_2.c=s_1.c+List.length [List.take 2 [Value.int .i64 (2+(x.k:Int)*8+1*spn x.c),Value.int .i64 (p.cls (0+s.i))]]/\ ∀q:Nat,q<s_2.c->Cs.eff s_2.f [] q=Cs.eff s_1.f [(s_1.c,List.take 2 [Value.int .i64 (2+(x.k:Int)*8+1*spn x.c),Value.int .i64 (p.cls (0+s.i))])] q)/\Gy x p s.i) (∃s_2:iO,oW s_2 p s.i/\True/\iQ s_2 s_1/\iP s_2 s_1/\Gy x p s.i))/\(∀s_2:iO,oW s_2 p s.i->I64 (2:Int)/\I64 ((s.i:Int)+1)/\ ∃s_3:iO,Gw s_3 p s.i s_2)/\True)/\True)/\ ∀y:Unit,Hd (x.c=3)->(((0:Int)<=0/\(0:Int)<=0)/\
 0<1/\Bc/\cP (p.tk (0+s.i) 0) (s.z=s.z/\s.c=s.c/\Gx x p s.i/\jq s.c/\ ∃s_1:iO,kR s_1 p s.i/\True/\jr s_1 s.c/\Gu s_1 s x p/\(1=1/\ ∀q:Nat,q<1->Ba x q)/\Jy p s.i) (∃s_1:iO,kR s_1 p s.i/\True/\iQ s_1 s/\iP s_1 s/\(1=1/\ ∀q:Nat,q<1->Ba x q)/\Jy p s.i))/\(∀s_1:iO,kR s_1 p s.i->I64 (1:Int)/\I64 ((s.i:Int)+1)/\ ∃s_2:iO,Gw s_2 p s.i s_1)/\True) (∃y:Prod Bool (∀a:Nat,List Value),Hd (y.1=true->p.cntI p.n=0)/\(y.1=s.z/\p.cntI p.n=s.c)/\((0=0/\p.n=p.n/\p.n=p.n)/\True)/\(y.1=s.z/\p.cntI p.n=s.c/\ ∀q:Nat,q<p.cntI p.n->Cs.eff y.2 [] q=Cs.eff s.f [] q)/\(p.n=p.n/\akJ p)/\True))/\True
theorem Y4(p:ZPool):Ov p=wpF Tryz.prog [(73,ctrT akH)] tt (apM p) 200 6 40 (Ud.args p) (hO 2 (flatP 1 (Ud.l p))) (λv h'=>endsPK 1 p v h' Ud.outs):=by kernel_rfl
def Ox(a:ZSto):Prop:=
 abB a
theorem Y5(a:ZSto):Ox a=wpF Tryz.prog [] tt (noA a) 200 6 39 ((Ia 3).args a) (hO 11 (flatP 1 ((Ia 3).l a))) (λv h'=>endsPK 1 a v h' (Ia 3).outs):=by kernel_rfl
def abC(a:ZSto):Prop:=
 abB a
def Oy(a:ZSto):Prop:=
 abB a
theorem Y6(a:ZSto):Oy a=wpF Tryz.prog [] tt (noA a) 200 6 22 ((Ia 5).args a) (hO 11 (flatP 1 ((Ia 5).l a))) (λv h'=>endsPK 1 a v h' (Ia 5).outs):=by kernel_rfl
def abD(a:ZSto):Prop:=
 abB a
theorem Oz(p:ZPool)(hp:p.ok):Ov p:=by
 obtain⟨h1,h2,h3⟩:=hp;unfold Ov;simp only[Gv,Ue,iQ,iP,Bc,Gx,jq,kR,jr,Gu,kV,Gz,Om,oW,Y2,wQ,Y3,wR,Oo,Oq,Ot,Ou,Gw,qK,Gy,Ba,Jy,akJ];simp only[aZ,aV,aU,aA,aI,bQ,bF,aO,aK,ay,aX,aW,bT,bG,bH,bI,bU,bC,bJ,bn,eH,aH,aN,ah,ak,aB,aF,aC,aG];refine⟨⟨⟨0,0,true,λ_=>[]⟩,⟨Nat.zero_le _,rfl,λ_=>rfl⟩,⟨rfl,rfl,rfl⟩,rfl,rfl,λ_ _=>rfl⟩,λs hs=>bf (λh=> ?_) λh=> ?_⟩
 ·obtain⟨i1,i2,i3⟩:=hs
  have hi:s.i<p.n:=by have:=aS h;omega
  obtain⟨c1,c2,_⟩:=h3 s.i hi;have bi:=ZPool.akG p s.i;have bd: ∀j,j<=8->p.cntI s.i+p.gZ s.i j<=300:=λj hj=>by have:=ZPool.Y1 p s.i j;omega
  have z0:=i3;have k0:s.c=p.cntI s.i+p.gZ s.i 0:=i2;have done: ∀(t:iO) (m:Nat),p.qU s.i=m->t.c=p.cntI s.i+p.gZ s.i m->t.c=p.cntI (s.i+1):=λt m e h=>by
   show t.c=p.cntI s.i+p.gZ s.i (p.qU s.i);rw[e];exact h
  refine⟨⟨by omega,by omega⟩,by omega,⟨s.i,p.cls s.i⟩,⟨by show s.i<32;omega,c1,c2⟩,⟨rfl,rfl⟩,λhc=> ?_,λhc=> ?_,λhc=> ?_,λhc=> ?_,λhc=> ?_⟩
  ·have hc:p.cls s.i= -1:=hc
   exact⟨by unfold I64;omega,⟨s.i+1,s.c,s.z,s.f⟩,⟨by show s.i+1<=p.n;omega,done s 0 (by unfold ZPool.qU;rw[hc];rfl) k0,z0⟩,by show p.n-(s.i+1)<_;omega,⟨by show((s.i+1:Nat):Int)=_;omega,rfl,rfl⟩,rfl,rfl,λ_ _=>rfl⟩
  ·have hc:p.cls s.i=0:=hc
   refine⟨⟨by decide,by decide,by decide,bf (λh=>⟨rfl,by have:=bd 0 (by decide);omega,⟨0,s.c+1,false,_⟩,⟨?_,λh=>by cases h⟩,⟨rfl,rfl⟩,rfl,rfl,λ_ _=>rfl⟩) λh=>⟨⟨0,s.c,s.z,s.f⟩,⟨?_,z0⟩,⟨rfl,rfl⟩,rfl,rfl,λ_ _=>rfl⟩⟩,λt1 h1=>⟨by unfold I64;decide,?_⟩⟩
   ·show s.c+1=p.cntI s.i+(p.gZ s.i 0+if p.tk s.i 0=true then 1 else 0)
    rw[if_pos h];omega
   ·show s.c=p.cntI s.i+(p.gZ s.i 0+if p.tk s.i 0=true then 1 else 0)
    rw[h];show s.c=p.cntI s.i+(p.gZ s.i 0+0);omega
   obtain⟨k1,z1⟩:=h1;have k1:t1.c=p.cntI s.i+p.gZ s.i 1:=k1;refine⟨⟨by decide,by decide,by decide,bf (λh=>⟨rfl,by have:=bd 1 (by decide);omega,⟨0,t1.c+1,false,_⟩,⟨?_,λh=>by cases h⟩,⟨rfl,rfl⟩,rfl,rfl,λ_ _=>rfl⟩) λh=>⟨⟨0,t1.c,t1.z,t1.f⟩,⟨?_,z1⟩,⟨rfl,rfl⟩,rfl,rfl,λ_ _=>rfl⟩⟩,λt2 h2=>⟨by unfold I64;decide,?_⟩⟩
   ·show t1.c+1=p.cntI s.i+(p.gZ s.i 1+if p.tk s.i 1=true then 1 else 0)
    rw[if_pos h];omega
   ·show t1.c=p.cntI s.i+(p.gZ s.i 1+if p.tk s.i 1=true then 1 else 0)
    rw[h];show t1.c=p.cntI s.i+(p.gZ s.i 1+0);omega
   obtain⟨k2,z2⟩:=h2;have k2:t2.c=p.cntI s.i+p.gZ s.i 2:=k2;refine⟨⟨by decide,by decide,by decide,bf (λh=>⟨rfl,by have:=bd 2 (by decide);omega,⟨0,t2.c+1,false,_⟩,⟨?_,λh=>by cases h⟩,⟨rfl,rfl⟩,rfl,rfl,λ_ _=>rfl⟩) λh=>⟨⟨0,t2.c,t2.z,t2.f⟩,⟨?_,z2⟩,⟨rfl,rfl⟩,rfl,rfl,λ_ _=>rfl⟩⟩,λt3 h3=>⟨by unfold I64;decide,?_⟩⟩
   ·show t2.c+1=p.cntI s.i+(p.gZ s.i 2+if p.tk s.i 2=true then 1 else 0)
    rw[if_pos h];omega
   ·show t2.c=p.cntI s.i+(p.gZ s.i 2+if p.tk s.i 2=true then 1 else 0)
    rw[h];show t2.c=p.cntI s.i+(p.gZ s.i 2+0);omega
   obtain⟨k3,z3⟩:=h3;have k3:t3.c=p.cntI s.i+p.gZ s.i 3:=k3;refine⟨⟨by decide,by decide,by decide,bf (λh=>⟨rfl,by have:=bd 3 (by decide);omega,⟨0,t3.c+1,false,_⟩,⟨?_,λh=>by cases h⟩,⟨rfl,rfl⟩,rfl,rfl,λ_ _=>rfl⟩) λh=>⟨⟨0,t3.c,t3.z,t3.f⟩,⟨?_,z3⟩,⟨rfl,rfl⟩,rfl,rfl,λ_ _=>rfl⟩⟩,λt4 h4=>⟨by unfold I64;decide,?_⟩⟩
   ·show t3.c+1=p.cntI s.i+(p.gZ s.i 3+if p.tk s.i 3=true then 1 else 0)
    rw[if_pos h];omega
   ·show t3.c=p.cntI s.i+(p.gZ s.i 3+if p.tk s.i 3=true then 1 else 0)
    rw[h];show t3.c=p.cntI s.i+(p.gZ s.i 3+0);omega
   obtain⟨k4,z4⟩:=h4;have k4:t4.c=p.cntI s.i+p.gZ s.i 4:=k4;refine⟨⟨by decide,by decide,by decide,bf (λh=>⟨rfl,by have:=bd 4 (by decide);omega,⟨0,t4.c+1,false,_⟩,⟨?_,λh=>by cases h⟩,⟨rfl,rfl⟩,rfl,rfl,λ_ _=>rfl⟩) λh=>⟨⟨0,t4.c,t4.z,t4.f⟩,⟨?_,z4⟩,⟨rfl,rfl⟩,rfl,rfl,λ_ _=>rfl⟩⟩,λt5 h5=>⟨by unfold I64;decide,?_⟩⟩
   ·show t4.c+1=p.cntI s.i+(p.gZ s.i 4+if p.tk s.i 4=true then 1 else 0)
    rw[if_pos h];omega
   ·show t4.c=p.cntI s.i+(p.gZ s.i 4+if p.tk s.i 4=true then 1 else 0)
    rw[h];show t4.c=p.cntI s.i+(p.gZ s.i 4+0);omega
   obtain⟨k5,z5⟩:=h5;have k5:t5.c=p.cntI s.i+p.gZ s.i 5:=k5;refine⟨⟨by decide,by decide,by decide,bf (λh=>⟨rfl,by have:=bd 5 (by decide);omega,⟨0,t5.c+1,false,_⟩,⟨?_,λh=>by cases h⟩,⟨rfl,rfl⟩,rfl,rfl,λ_ _=>rfl⟩) λh=>⟨⟨0,t5.c,t5.z,t5.f⟩,⟨?_,z5⟩,⟨rfl,rfl⟩,rfl,rfl,λ_ _=>rfl⟩⟩,λt6 h6=>⟨by unfold I64;decide,?_⟩⟩
   ·show t5.c+1=p.cntI s.i+(p.gZ s.i 5+if p.tk s.i 5=true then 1 else 0)
    rw[if_pos h];omega
   ·show t5.c=p.cntI s.i+(p.gZ s.i 5+if p.tk s.i 5=true then 1 else 0)
    rw[h];show t5.c=p.cntI s.i+(p.gZ s.i 5+0);omega
   obtain⟨k6,z6⟩:=h6;have k6:t6.c=p.cntI s.i+p.gZ s.i 6:=k6;refine⟨⟨by decide,by decide,by decide,bf (λh=>⟨rfl,by have:=bd 6 (by decide);omega,⟨0,t6.c+1,false,_⟩,⟨?_,λh=>by cases h⟩,⟨rfl,rfl⟩,rfl,rfl,λ_ _=>rfl⟩) λh=>⟨⟨0,t6.c,t6.z,t6.f⟩,⟨?_,z6⟩,⟨rfl,rfl⟩,rfl,rfl,λ_ _=>rfl⟩⟩,λt7 h7=>⟨by unfold I64;decide,?_⟩⟩
   ·show t6.c+1=p.cntI s.i+(p.gZ s.i 6+if p.tk s.i 6=true then 1 else 0)
    rw[if_pos h];omega
   ·show t6.c=p.cntI s.i+(p.gZ s.i 6+if p.tk s.i 6=true then 1 else 0)
    rw[h];show t6.c=p.cntI s.i+(p.gZ s.i 6+0);omega
   obtain⟨k7,z7⟩:=h7;have k7:t7.c=p.cntI s.i+p.gZ s.i 7:=k7;refine⟨⟨by decide,by decide,by decide,bf (λh=>⟨rfl,by have:=bd 7 (by decide);omega,⟨0,t7.c+1,false,_⟩,⟨?_,λh=>by cases h⟩,⟨rfl,rfl⟩,rfl,rfl,λ_ _=>rfl⟩) λh=>⟨⟨0,t7.c,t7.z,t7.f⟩,⟨?_,z7⟩,⟨rfl,rfl⟩,rfl,rfl,λ_ _=>rfl⟩⟩,λt8 h8=>⟨by unfold I64;decide,?_⟩⟩
   ·show t7.c+1=p.cntI s.i+(p.gZ s.i 7+if p.tk s.i 7=true then 1 else 0)
    rw[if_pos h];omega
   ·show t7.c=p.cntI s.i+(p.gZ s.i 7+if p.tk s.i 7=true then 1 else 0)
    rw[h];show t7.c=p.cntI s.i+(p.gZ s.i 7+0);omega
   obtain⟨k8,z8⟩:=h8;have k8:t8.c=p.cntI s.i+p.gZ s.i 8:=k8;exact⟨by unfold I64;omega,⟨s.i+1,t8.c,t8.z,t8.f⟩,⟨by show s.i+1<=p.n;omega,done t8 8 (by unfold ZPool.qU;rw[hc];rfl) k8,z8⟩,by show p.n-(s.i+1)<_;omega,⟨by show((s.i+1:Nat):Int)=_;omega,rfl,rfl⟩,rfl,rfl,λ_ _=>rfl⟩
  ·have hc:p.cls s.i=1:=hc
   refine⟨⟨by decide,by decide,by decide,bf (λh=>⟨rfl,by have:=bd 0 (by decide);omega,⟨0,s.c+1,false,_⟩,⟨?_,λh=>by cases h⟩,⟨rfl,rfl⟩,rfl,rfl,λ_ _=>rfl⟩) λh=>⟨⟨0,s.c,s.z,s.f⟩,⟨?_,z0⟩,⟨rfl,rfl⟩,rfl,rfl,λ_ _=>rfl⟩⟩,λt1 h1=>⟨by unfold I64;decide,?_⟩⟩
   ·show s.c+1=p.cntI s.i+(p.gZ s.i 0+if p.tk s.i 0=true then 1 else 0)
    rw[if_pos h];omega
   ·show s.c=p.cntI s.i+(p.gZ s.i 0+if p.tk s.i 0=true then 1 else 0)
    rw[h];show s.c=p.cntI s.i+(p.gZ s.i 0+0);omega
   obtain⟨k1,z1⟩:=h1;have k1:t1.c=p.cntI s.i+p.gZ s.i 1:=k1;refine⟨⟨by decide,by decide,by decide,bf (λh=>⟨rfl,by have:=bd 1 (by decide);omega,⟨0,t1.c+1,false,_⟩,⟨?_,λh=>by cases h⟩,⟨rfl,rfl⟩,rfl,rfl,λ_ _=>rfl⟩) λh=>⟨⟨0,t1.c,t1.z,t1.f⟩,⟨?_,z1⟩,⟨rfl,rfl⟩,rfl,rfl,λ_ _=>rfl⟩⟩,λt2 h2=>⟨by unfold I64;decide,?_⟩⟩
   ·show t1.c+1=p.cntI s.i+(p.gZ s.i 1+if p.tk s.i 1=true then 1 else 0)
    rw[if_pos h];omega
   ·show t1.c=p.cntI s.i+(p.gZ s.i 1+if p.tk s.i 1=true then 1 else 0)
    rw[h];show t1.c=p.cntI s.i+(p.gZ s.i 1+0);omega
   obtain⟨k2,z2⟩:=h2;have k2:t2.c=p.cntI s.i+p.gZ s.i 2:=k2;refine⟨⟨by decide,by decide,by decide,bf (λh=>⟨rfl,by have:=bd 2 (by decide);omega,⟨0,t2.c+1,false,_⟩,⟨?_,λh=>by cases h⟩,⟨rfl,rfl⟩,rfl,rfl,λ_ _=>rfl⟩) λh=>⟨⟨0,t2.c,t2.z,t2.f⟩,⟨?_,z2⟩,⟨rfl,rfl⟩,rfl,rfl,λ_ _=>rfl⟩⟩,λt3 h3=>⟨by unfold I64;decide,?_⟩⟩
   ·show t2.c+1=p.cntI s.i+(p.gZ s.i 2+if p.tk s.i 2=true then 1 else 0)
    rw[if_pos h];omega
   ·show t2.c=p.cntI s.i+(p.gZ s.i 2+if p.tk s.i 2=true then 1 else 0)
    rw[h];show t2.c=p.cntI s.i+(p.gZ s.i 2+0);omega
   obtain⟨k3,z3⟩:=h3;have k3:t3.c=p.cntI s.i+p.gZ s.i 3:=k3;refine⟨⟨by decide,by decide,by decide,bf (λh=>⟨rfl,by have:=bd 3 (by decide);omega,⟨0,t3.c+1,false,_⟩,⟨?_,λh=>by cases h⟩,⟨rfl,rfl⟩,rfl,rfl,λ_ _=>rfl⟩) λh=>⟨⟨0,t3.c,t3.z,t3.f⟩,⟨?_,z3⟩,⟨rfl,rfl⟩,rfl,rfl,λ_ _=>rfl⟩⟩,λt4 h4=>⟨by unfold I64;decide,?_⟩⟩
   ·show t3.c+1=p.cntI s.i+(p.gZ s.i 3+if p.tk s.i 3=true then 1 else 0)
    rw[if_pos h];omega
   ·show t3.c=p.cntI s.i+(p.gZ s.i 3+if p.tk s.i 3=true then 1 else 0)
    rw[h];show t3.c=p.cntI s.i+(p.gZ s.i 3+0);omega
   obtain⟨k4,z4⟩:=h4;have k4:t4.c=p.cntI s.i+p.gZ s.i 4:=k4;exact⟨by unfold I64;omega,⟨s.i+1,t4.c,t4.z,t4.f⟩,⟨by show s.i+1<=p.n;omega,done t4 4 (by unfold ZPool.qU;rw[hc];rfl) k4,z4⟩,by show p.n-(s.i+1)<_;omega,⟨by show((s.i+1:Nat):Int)=_;omega,rfl,rfl⟩,rfl,rfl,λ_ _=>rfl⟩
  ·have hc:p.cls s.i=2:=hc
   refine⟨⟨by decide,by decide,by decide,bf (λh=>⟨rfl,by have:=bd 0 (by decide);omega,⟨0,s.c+1,false,_⟩,⟨?_,λh=>by cases h⟩,⟨rfl,rfl⟩,rfl,rfl,λ_ _=>rfl⟩) λh=>⟨⟨0,s.c,s.z,s.f⟩,⟨?_,z0⟩,⟨rfl,rfl⟩,rfl,rfl,λ_ _=>rfl⟩⟩,λt1 h1=>⟨by unfold I64;decide,?_⟩⟩
   ·show s.c+1=p.cntI s.i+(p.gZ s.i 0+if p.tk s.i 0=true then 1 else 0)
    rw[if_pos h];omega
   ·show s.c=p.cntI s.i+(p.gZ s.i 0+if p.tk s.i 0=true then 1 else 0)
    rw[h];show s.c=p.cntI s.i+(p.gZ s.i 0+0);omega
   obtain⟨k1,z1⟩:=h1;have k1:t1.c=p.cntI s.i+p.gZ s.i 1:=k1;refine⟨⟨by decide,by decide,by decide,bf (λh=>⟨rfl,by have:=bd 1 (by decide);omega,⟨0,t1.c+1,false,_⟩,⟨?_,λh=>by cases h⟩,⟨rfl,rfl⟩,rfl,rfl,λ_ _=>rfl⟩) λh=>⟨⟨0,t1.c,t1.z,t1.f⟩,⟨?_,z1⟩,⟨rfl,rfl⟩,rfl,rfl,λ_ _=>rfl⟩⟩,λt2 h2=>⟨by unfold I64;decide,?_⟩⟩
   ·show t1.c+1=p.cntI s.i+(p.gZ s.i 1+if p.tk s.i 1=true then 1 else 0)
    rw[if_pos h];omega
   ·show t1.c=p.cntI s.i+(p.gZ s.i 1+if p.tk s.i 1=true then 1 else 0)
    rw[h];show t1.c=p.cntI s.i+(p.gZ s.i 1+0);omega
   obtain⟨k2,z2⟩:=h2;have k2:t2.c=p.cntI s.i+p.gZ s.i 2:=k2;exact⟨by unfold I64;omega,⟨s.i+1,t2.c,t2.z,t2.f⟩,⟨by show s.i+1<=p.n;omega,done t2 2 (by unfold ZPool.qU;rw[hc];rfl) k2,z2⟩,by show p.n-(s.i+1)<_;omega,⟨by show((s.i+1:Nat):Int)=_;omega,rfl,rfl⟩,rfl,rfl,λ_ _=>rfl⟩
  ·have hc:p.cls s.i=3:=hc
   refine⟨⟨by decide,by decide,by decide,bf (λh=>⟨rfl,by have:=bd 0 (by decide);omega,⟨0,s.c+1,false,_⟩,⟨?_,λh=>by cases h⟩,⟨rfl,rfl⟩,rfl,rfl,λ_ _=>rfl⟩) λh=>⟨⟨0,s.c,s.z,s.f⟩,⟨?_,z0⟩,⟨rfl,rfl⟩,rfl,rfl,λ_ _=>rfl⟩⟩,λt1 h1=>⟨by unfold I64;decide,?_⟩⟩
   ·show s.c+1=p.cntI s.i+(p.gZ s.i 0+if p.tk s.i 0=true then 1 else 0)
    rw[if_pos h];omega
   ·show s.c=p.cntI s.i+(p.gZ s.i 0+if p.tk s.i 0=true then 1 else 0)
    rw[h];show s.c=p.cntI s.i+(p.gZ s.i 0+0);omega
   obtain⟨k1,z1⟩:=h1;have k1:t1.c=p.cntI s.i+p.gZ s.i 1:=k1;exact⟨by unfold I64;omega,⟨s.i+1,t1.c,t1.z,t1.f⟩,⟨by show s.i+1<=p.n;omega,done t1 1 (by unfold ZPool.qU;rw[hc];rfl) k1,z1⟩,by show p.n-(s.i+1)<_;omega,⟨by show((s.i+1:Nat):Int)=_;omega,rfl,rfl⟩,rfl,rfl,λ_ _=>rfl⟩
 ·obtain⟨i1,i2,i3⟩:=hs
  have hi:s.i=p.n:=by have:=aT h;omega
  have e:p.cntI p.n=s.c:=by rw[i2,hi]
  exact⟨(s.z,s.f),λh=>by rw[e];exact i3 h,⟨rfl,e⟩,rfl,e,λ_ _=>rfl⟩
theorem BX(a:ZSto):Ox a/\abC a/\Oy a/\abD a:=by
 unfold Ox abC Oy abD;simp only[aZ,aV,aU,aA,aI,bQ,bF,aO,aK,ay,aX,aW,bT,bG,bH,bI,bU,bC,bJ,bn,eH,aH,aN,ah,ak,aB,aF,aC,aG]
 repeat' (first|exact trivial|exact rfl|exactλ_ _=>rfl|refine And.intro ?_ ?_|refine⟨(),?_⟩)
theorem akK:bY Tryz.prog 40 Ud.ctr:=cO dD mixed (.cons (bM aeK) .nil) 2 apM 200 6 (λ_=>⟨rfl,rfl,rfl,rfl⟩) λx hx=>Eq.mp (Y4 x) (Oz x (aZ.1 hx))
theorem akL:bY Tryz.prog 39 (Ia 3).ctr:=cO dD mixed .nil 11 noA 200 6 (λ_=>⟨rfl,rfl,rfl,rfl⟩) λx _=>Eq.mp (Y5 x) (BX x).1
theorem akM:bY Tryz.prog 22 (Ia 5).ctr:=cO dD mixed .nil 11 noA 200 6 (λ_=>⟨rfl,rfl,rfl,rfl⟩) λx _=>Eq.mp (Y6 x) (BX x).2.2.1


def nN(a:Nat)(b:Nat):Prop:=0=0/\a=b/\a=b
def uD(a:DevM)(b:DevM):Prop:=a.ba=b.ba/\a.cu=b.cu/\True
def qg(a:eX)(b:eX):Prop:=a.t=b.t/\ ∀q:Nat,q<a.t->[Value.int .i64 (a.o q)]=[Value.int .i64 (b.o q)]
def Uf(a:qj)(b:ZCd):Prop:=qg a.c b.c/\(nN a.d.n b.d.n/\a.d.st=b.d.st/\a.d.fl=b.d.fl/\a.d.fe=b.d.fe/\uD a.d b.d)/\(a.d.n*193=b.d.n*193/\ ∀q:Nat,q<a.d.n*193->Cs.eff (gu a.d) [] q=Cs.eff (gu b.d) [] q)/\True
def qh(a:eX)(b:eX):Prop:=a.now=b.now/\a.dur=b.dur/\a.jJ=b.jJ/\nN a.t b.t/\True
def nO(a:eX)(b:eX):Prop:=258=258/\ ∀q:Nat,q<258->[Value.bool (a.N q)]=[Value.bool (b.N q)]
def uF(a:eX)(b:eX):Prop:=258=258/\ ∀q:Nat,q<258->[Value.bool (a.L q)]=[Value.bool (b.L q)]
def abE(a:ZCd)(b:qj):Prop:=(nN a.d.n b.d.n/\a.d.st=b.d.st/\a.d.fl=b.d.fl/\a.d.fe+1=b.d.fe+1/\uD a.d b.d)/\qg a.c b.c/\(a.d.n*193=b.d.n*193/\ ∀q:Nat,q<a.d.n*193->Cs.eff (gu a.d.fence) [] q=Cs.eff (gu b.d.fence) [] q)/\True
def uG:Prop:=(0=0/\True)/\True
def Ug:Prop:=(@Fn.func (57: @FuncId)= @Fn.func (57: @FuncId)/\uG)/\True
def abG(a:Nat)(b:eX):Prop:=Hd (a<258/\b.L a=true/\ ∀j:Nat,j<a->b.L j=false)
def abH(a:eX)(b:eX):Prop:=qh a b/\nO a b/\uF a b/\(@Fn.func (107: @FuncId)= @Fn.func (107: @FuncId)/\uG)/\True
def abI(a:eX)(b:eX):Prop:=qh a b/\nO a b/\uF a b/\(@Fn.func (165: @FuncId)= @Fn.func (165: @FuncId)/\uG)/\True
def abJ(a:eX)(b:eX):Prop:=qh a b/\nO a b/\uF a b/\(@Fn.func (212: @FuncId)= @Fn.func (212: @FuncId)/\uG)/\True
def OA(x:eX):Prop:=
 ∃x_1:eX,Hd (x_1.ok/\x_1.jJ=0)/\(0=0/\True)/\((qh x_1 x/\nO x_1 x/\uF x_1 x/\Value.nilFunc=Value.nilFunc/\True)/\qg x_1 x/\True)/\ ∀y:Unit,True-> ∃y_1:Unit,True/\(0:Int)=0/\((x.now+1=x_1.now+1/\x.dur=x_1.dur/\x.now=x_1.now/\nN x.t x_1.t/\True)/\(258=258/\ ∀q:Nat,q<258->[Value.bool false]=[Value.bool false])/\nO x x_1/\Ug)/\(x.t=x_1.t/\ ∀q:Nat,q<x.t->[Value.int .i64 0]=[Value.int .i64 0])/\True
theorem Y7(x:eX):OA x=ctrT Ey (TP.args x) (hO 2 (flatP 1 (TP.l x))) (λv h'=>endsPK 1 x v h' TP.outs):=by kernel_rfl
def OB(x:ZCd):Prop:=
 ∃x_1:qj,Hd x_1.ok/\(0=0/\0=0/\True)/\((qh x_1.c x.c/\nO x_1.c x.c/\uF x_1.c x.c/\Ug)/\Uf x_1 x)/\(∀y:Nat,abG y x_1.c->(∃y_1:Nat,abG y_1 x.c/\((1:Int)=1/\(0:Int)=0/\True)/\(qh x.c x_1.c/\nO x.c x_1.c/\(258=258/\ ∀q:Nat,q<258->[Value.bool (ite (q=y_1) false (x.c.L q))]=[Value.bool (ite (q=y) false (x_1.c.L q))])/\Ug)/\(nN x.d.n x_1.d.n/\x.d.st=x_1.d.st/\ite (y_1<x.d.n) (x.d.fl+1) x.d.fl=ite (y<x_1.d.n) (x_1.d.fl+1) x_1.d.fl/\x.d.fe=x_1.d.fe/\uD x.d x_1.d)/\qg x.c x_1.c/\(x.d.n*193=x_1.d.n*193/\ ∀q:Nat,q<x.d.n*193->Cs.eff (gu (x.d.flush y_1)) [] q=Cs.eff (gu (x_1.d.flush y)) [] q)/\True)\/ ∃y_1:Unit,Hd (∀j:Nat,j<258->x.c.L j=false)/\((2:Int)=1/\(0:Int)=0/\True)/\(qh x.c x_1.c/\nO x.c x_1.c/\(258=258/\ ∀q:Nat,q<258->[Value.bool (x.c.L q)]=[Value.bool (ite (q=y) false (x_1.c.L q))])/\(@Fn.func (107: @FuncId)= @Fn.func (57: @FuncId)/\uG)/\True)/\(nN x.d.n x_1.d.n/\x.d.st=x_1.d.st/\x.d.fl=ite (y<x_1.d.n) (x_1.d.fl+1) x_1.d.fl/\x.d.fe+1=x_1.d.fe/\uD x.d x_1.d)/\qg x.c x_1.c/\(x.d.n*193=x_1.d.n*193/\ ∀q:Nat,q<x.d.n*193->Cs.eff (gu x.d.fence) [] q=Cs.eff (gu (x_1.d.flush y)) [] q)/\True)/\ ∀y:Unit,Hd (∀j:Nat,j<258->x_1.c.L j=false)->(∃y_1:Nat,abG y_1 x.c/\((1:Int)=2/\(0:Int)=0/\True)/\(qh x.c x_1.c/\nO x.c x_1.c/\(258=258/\ ∀q:Nat,q<258->[Value.bool (ite (q=y_1) false (x.c.L q))]=[Value.bool (x_1.c.L q)])/\(@Fn.func (57: @FuncId)= @Fn.func (107: @FuncId)/\uG)/\True)/\(nN x.d.n x_1.d.n/\x.d.st=x_1.d.st/\
 ite (y_1<x.d.n) (x.d.fl+1) x.d.fl=x_1.d.fl/\x.d.fe=x_1.d.fe+1/\uD x.d x_1.d)/\qg x.c x_1.c/\(x.d.n*193=x_1.d.n*193/\ ∀q:Nat,q<x.d.n*193->Cs.eff (gu (x.d.flush y_1)) [] q=Cs.eff (gu x_1.d.fence) [] q)/\True)\/ ∃y_1:Unit,Hd (∀j:Nat,j<258->x.c.L j=false)/\((2:Int)=2/\(0:Int)=0/\True)/\abH x.c x_1.c/\abE x x_1
theorem Y8(x:ZCd):OB x=ctrT Ez (abu.args x) (hO 4 (flatP 2 (abu.l x))) (λv h'=>endsPK 2 x v h' abu.outs):=by kernel_rfl
def OC(x:ZCd):Prop:=
 ∃x_1:qj,Hd x_1.ok/\(0=0/\0=0/\True)/\(abH x_1.c x.c/\Uf x_1 x)/\ ∀y:Unit,True-> ∃y_1:Unit,True/\((3:Int)=3/\(0:Int)=0/\True)/\abI x.c x_1.c/\(nN x.d.n x_1.d.n/\x.d.st+1=x_1.d.st+1/\x.d.fl=x_1.d.fl/\x.d.fe=x_1.d.fe/\uD x.d x_1.d)/\qg x.c x_1.c/\(x.d.n*193=x_1.d.n*193/\ ∀q:Nat,q<x.d.n*193->Cs.eff (gu (x.d.store 1 0 64 (iE x.c.jJ))) [] q=Cs.eff (gu (x_1.d.store 1 0 64 (iE x_1.c.jJ))) [] q)/\True
theorem Y9(x:ZCd):OC x=ctrT EC (abv.args x) (hO 4 (flatP 2 (abv.l x))) (λv h'=>endsPK 2 x v h' abv.outs):=by kernel_rfl
def OD(x:ZCd):Prop:=
 ∃x_1:qj,Hd x_1.ok/\(0=0/\0=0/\True)/\(abI x_1.c x.c/\Uf x_1 x)/\ ∀y:Unit,True-> ∃y_1:Unit,True/\((1:Int)=1/\(0:Int)=0/\True)/\abJ x.c x_1.c/\(nN x.d.n x_1.d.n/\x.d.st=x_1.d.st/\ite (1<x.d.n) (x.d.fl+1) x.d.fl=ite (1<x_1.d.n) (x_1.d.fl+1) x_1.d.fl/\x.d.fe=x_1.d.fe/\uD x.d x_1.d)/\qg x.c x_1.c/\(x.d.n*193=x_1.d.n*193/\ ∀q:Nat,q<x.d.n*193->Cs.eff (gu (x.d.flush 1)) [] q=Cs.eff (gu (x_1.d.flush 1)) [] q)/\True
theorem Za(x:ZCd):OD x=ctrT ED (abw.args x) (hO 4 (flatP 2 (abw.l x))) (λv h'=>endsPK 2 x v h' abw.outs):=by kernel_rfl
def OE(x:ZCd):Prop:=
 ∃x_1:qj,Hd x_1.ok/\(0=0/\0=0/\True)/\(abJ x_1.c x.c/\Uf x_1 x)/\ ∀y:Unit,True-> ∃y_1:Unit,True/\((2:Int)=2/\(0:Int)=0/\True)/\((x.c.now=x_1.c.now/\x.c.jJ=x_1.c.jJ/\(0:Int)=0/\nN x.c.t x_1.c.t/\True)/\nO x.c x_1.c/\uF x.c x_1.c/\Value.nilFunc=Value.nilFunc/\True)/\abE x x_1
theorem Zb(x:ZCd):OE x=ctrT EF (abx.args x) (hO 4 (flatP 2 (abx.l x))) (λv h'=>endsPK 2 x v h' abx.outs):=by kernel_rfl
def OG(x:ZCd):Prop:=
 cP (BEq.beq x.c.jJ (0:Int)) (∃y:Unit,True/\((0:Int)=0/\(12:Int)=12/\True)/\((x.c.now=x.c.now/\x.c.dur=x.c.dur/\x.c.jJ=x.c.jJ/\(0=0/\x.c.t=x.c.t/\x.c.t=x.c.t)/\True)/\(258=258/\ ∀q:Nat,q<258->[Value.bool (x.c.N q)]=[Value.bool (x.c.N q)])/\(258=258/\ ∀q:Nat,q<258->[Value.bool (x.c.L q)]=[Value.bool (x.c.L q)])/\Value.nilFunc=Value.nilFunc/\True)/\((0=0/\x.d.n=x.d.n/\x.d.n=x.d.n)/\x.d.st=x.d.st/\x.d.fl=x.d.fl/\x.d.fe=x.d.fe/\x.d.ba=x.d.ba/\x.d.cu=x.d.cu/\True)/\(x.c.t=x.c.t/\ ∀q:Nat,q<x.c.t->[Value.int .i64 (x.c.o q)]=[Value.int .i64 (x.c.o q)])/\(x.d.n*193=x.d.n*193/\ ∀q:Nat,q<x.d.n*193->Cs.eff (gu x.d) [] q=Cs.eff (gu x.d) [] q)/\True) False
theorem Zc(x:ZCd):OG x=wpF Tryz.prog oZ tt (noA x) 200 5 24 (aby.args x) (hO 4 (flatP 2 (aby.l x))) (λv h'=>endsPK 2 x v h' aby.outs):=by kernel_rfl
theorem OH(x:eX)(hx:x.ok/\x.jJ=0):OA x:=by
 unfold OA;simp only[qh,nO,uF,qg,nN,Ug,uG];simp only[aZ,aV,aU,aA,aI,bQ,bF,aO,aK,ay,aX,aW,bT,bG,bH,bI,bU,bC,bJ,bn,eH,aH,aN,ah,ak,aB,aF,aC,aG];refine⟨x,hx,?_⟩
 repeat' (first|exact rfl|refine And.intro ?_ ?_|exactλ_ _=>rfl)
theorem OI(x:ZCd)(hx:x.cd.ok):OB x:=by
 unfold OB;simp only[qh,nO,uF,Ug,Uf,abG,nN,uD,qg,uG,abH,abE];simp only[aZ,aV,aU,aA,aI,bQ,bF,aO,aK,ay,aX,aW,bT,bG,bH,bI,bU,bC,bJ,bn,eH,aH,aN,ah,ak,aB,aF,aC,aG];refine⟨x.cd,hx,?_,λy hy=> .inl ⟨y,hy,?_⟩,λy=> .inr ⟨y,?_⟩⟩
 all_goals (repeat' (first|exact rfl|refine And.intro ?_ ?_|exactλ_ _=>rfl))
theorem OJ(x:ZCd)(hx:x.cd.ok):OC x:=by
 unfold OC;simp only[abH,Uf,abI,nN,uD,qg,qh,nO,uF,uG];simp only[aZ,aV,aU,aA,aI,bQ,bF,aO,aK,ay,aX,aW,bT,bG,bH,bI,bU,bC,bJ,bn,eH,aH,aN,ah,ak,aB,aF,aC,aG];refine⟨x.cd,hx,?_⟩
 all_goals (repeat' (first|exact rfl|refine And.intro ?_ ?_|exactλ_ _=>rfl))
theorem OL(x:ZCd)(hx:x.cd.ok):OD x:=by
 unfold OD;simp only[abI,Uf,abJ,nN,uD,qg,qh,nO,uF,uG];simp only[aZ,aV,aU,aA,aI,bQ,bF,aO,aK,ay,aX,aW,bT,bG,bH,bI,bU,bC,bJ,bn,eH,aH,aN,ah,ak,aB,aF,aC,aG];refine⟨x.cd,hx,?_⟩
 all_goals (repeat' (first|exact rfl|refine And.intro ?_ ?_|exactλ_ _=>rfl))
theorem OM(x:ZCd)(hx:x.cd.ok):OE x:=by
 unfold OE;simp only[abJ,Uf,nN,nO,uF,abE,uD,qg,qh,uG];simp only[aZ,aV,aU,aA,aI,bQ,bF,aO,aK,ay,aX,aW,bT,bG,bH,bI,bU,bC,bJ,bn,eH,aH,aN,ah,ak,aB,aF,aC,aG];refine⟨x.cd,hx,?_⟩
 all_goals (repeat' (first|exact rfl|refine And.intro ?_ ?_|exactλ_ _=>rfl))
theorem OO(x:ZCd)(hx:x.c.jJ=0):OG x:=by
 unfold OG;simp only[aZ,aV,aU,aA,aI,bQ,bF,aO,aK,ay,aX,aW,bT,bG,bH,bI,bU,bC,bJ,bn,eH,aH,aN,ah,ak,aB,aF,aC,aG];exact bf (λ_=>trivial) λh=>absurd hx (by simpa using h)
theorem akN:bY Tryz.prog 23 TP.ctr:=jw (bM amg) 2 (λ_=>⟨rfl,rfl,rfl,rfl⟩) λx hx=>Eq.mp (Y7 x) (OH x (aZ.1 hx))
theorem akO:bY Tryz.prog 24 abu.ctr:=jw (bM amh) 4 (λ_=>⟨rfl,rfl,rfl,rfl⟩) λx hx=>Eq.mp (Y8 x) (OI x (aZ.1 hx))
theorem akP:bY Tryz.prog 24 abv.ctr:=jw (bM ami) 4 (λ_=>⟨rfl,rfl,rfl,rfl⟩) λx hx=>Eq.mp (Y9 x) (OJ x (aZ.1 hx))
theorem akQ:bY Tryz.prog 24 abw.ctr:=jw (bM amj) 4 (λ_=>⟨rfl,rfl,rfl,rfl⟩) λx hx=>Eq.mp (Za x) (OL x (aZ.1 hx))
theorem akR:bY Tryz.prog 24 abx.ctr:=jw (bM amk) 4 (λ_=>⟨rfl,rfl,rfl,rfl⟩) λx hx=>Eq.mp (Zb x) (OM x (aZ.1 hx))
theorem akS:bY Tryz.prog 24 aby.ctr:=cO dD mixed dP 4 noA 200 5 (λ_=>⟨rfl,rfl,rfl,rfl⟩) λx hx=>Eq.mp (Zc x) (OO x (aZ.1 hx))






def wK(c:eX)(d:DevM)(ph:Nat)(Q:eX->DevM->Nat->Prop):Prop:=
 (ph=0/\c.jJ=0/\Q c d 0)\/
 (ph=1/\qj.ok ⟨c,d⟩/\(∀k,k<258->c.L k=true->(∀j,j<k->c.L j=false)->Q (c.aak k) (d.flush k) 1)/\((∀j,j<258->c.L j=false)->Q c d.fence 2))\/
 (ph=2/\qj.ok ⟨c,d⟩/\Q c (d.store 1 0 64 (iE c.jJ)) 3)\/
 (ph=3/\qj.ok ⟨c,d⟩/\Q c (d.flush 1) 4)\/
 (ph=4/\qj.ok ⟨c,d⟩/\Q c.fin d.fence 0)
def asK(d d0:DevM)(j:Nat):Prop:=d.ok/\d.n=d0.n/\d.st<=d0.st+j/\d.fl<=d0.fl+j/\d.fe<=d0.fe+j/\ ∀m r:Nat,2<=m->r<64->d.b (m*193+r)=d0.b (m*193+r)
theorem asL{d:DevM}{k m r:Nat}(hr:r<64):(d.flush k).b (m*193+r)=d.b (m*193+r):=by
 show(if k*193+128<=m*193+r/\m*193+r<k*193+192 then _ else _)=_;exact if_neg (by omega)
theorem asM{d:DevM}{m r:Nat}(hr:r<64):d.fence.b (m*193+r)=d.b (m*193+r):=by
 show(if (m*193+r)/193<d.n/\d.s ((m*193+r)/193)=true/\64<=(m*193+r)%193/\(m*193+r)%193<128 then _ else _)=_;exact if_neg (by omega)
section
variable{a:aiu}{T M:Nat}{b:Nat->ZBlk}
end

structure ZWkc where
 c:eX
 d:DevM
 ph:Nat
 q:eX->DevM->Nat->Prop
structure au2 where
 c:eX
 d:DevM
 ph:Nat
 u:Int
 v:Int
noncomputable def au3:Ctr:={X:=ZWkc,args:=λ_=>[.ptr 0 0,.ptr 1 0],k:=2,os:=λx=>[.abs (ownM (x.c.os x.ph)),.abs (ownM x.d.os)],pre:=λx=>Hd (wK x.c x.d x.ph x.q),outs:=[{Y:=au2,post:=λx y=>Hd (x.q y.c y.d y.ph),ret:=λ_ y=> .tup [i64 y.u,i64 y.v],m:=2,os:=λ_ y=>[.abs (ownM (y.c.os y.ph)),.abs (ownM y.d.os)]}]}
theorem aoG:bY Tryz.prog 24 au3:=jP λx hx=>by
 obtain⟨c,d,ph,q⟩:=x;rcases aZ.1 hx with ⟨hp,h,q1⟩|⟨hp,h,q1,q2⟩|⟨hp,h,q1⟩|⟨hp,h,q1⟩|⟨hp,h,q1⟩
 all_goals (have hp:ph=_:=hp;subst hp)
 ·refine⟨_,akS,rfl,⟨c,d,0⟩,aZ.2 h,rfl,rfl,λv h' hh=> ?_⟩
  obtain⟨y,h0,e1,e2⟩:=jh hh;exact eP ⟨⟨c,d,0,0,12⟩,aZ.2 q1,e1,e2⟩
 ·refine⟨_,akO,rfl,⟨c,d,1⟩,aZ.2 h,rfl,rfl,λv h' hh=> ?_⟩
  rcases pR hh with ⟨y,h0,e1,e2⟩|⟨y,h0,e1,e2⟩
  ·have h0:=aZ.1 h0
   exact eP ⟨⟨c.aak y,d.flush y,1,1,0⟩,aZ.2 (q1 y h0.1 h0.2.1 h0.2.2),e1,e2⟩
  ·have h0:=aZ.1 h0
   exact eP ⟨⟨c,d.fence,2,2,0⟩,aZ.2 (q2 h0),e1,e2⟩
 ·refine⟨_,akP,rfl,⟨c,d,2⟩,aZ.2 h,rfl,rfl,λv h' hh=> ?_⟩
  obtain⟨y,h0,e1,e2⟩:=jh hh;exact eP ⟨⟨c,d.store 1 0 64 (iE c.jJ),3,3,0⟩,aZ.2 q1,e1,e2⟩
 ·refine⟨_,akQ,rfl,⟨c,d,3⟩,aZ.2 h,rfl,rfl,λv h' hh=> ?_⟩
  obtain⟨y,h0,e1,e2⟩:=jh hh;exact eP ⟨⟨c,d.flush 1,4,1,0⟩,aZ.2 q1,e1,e2⟩
 ·refine⟨_,akR,rfl,⟨c,d,4⟩,aZ.2 h,rfl,rfl,λv h' hh=> ?_⟩
  obtain⟨y,h0,e1,e2⟩:=jh hh;exact eP ⟨⟨c.fin,d.fence,0,2,0⟩,aZ.2 q1,e1,e2⟩
structure apN where
 z:Int
 m:Nat
structure ZGh where
 c:eX
 d:DevM
 lo:Nat
structure ZEj where
 c:eX
 d:DevM
 ph:Nat
 j:Nat

theorem u64_nonneg(z:Int):0<=IntKind.wrap .u64 z:=by
 unfold IntKind.wrap;simp[IntKind.bits,IntKind.signed];omega
theorem Jz{f:Nat->Bool}{k:Nat}(hf:f k=true): ∀{n},k<n->yT (λq=>if q=k then false else f q) n+1=yT f n
 |n+1,h=>by
  simp only[yT];by_cases e:k=n
  ·subst e
   rw[pX (g:=f) λq hq=>if_neg (by omega),hf];simp
  ·have:=Jz hf (n:=n) (by omega)
   rw[if_neg (show¬n=k by omega)];omega
section
variable{a:aiu}{T M:Nat}{b:Nat->ZBlk}
end
def ZSto.aoH(a:ZSto)(c:eX)(d:DevM):ZSto:={a with c:=c,d:=d}
structure CSc (c0:eX) (d0:DevM) (m j:Nat) (c:eX) (d:DevM) (ph:Nat):Prop where
 t:c.t=c0.t
 ok:c.ok
 now:c.now=c0.now+1
 N: ∀k,c.N k=false
 o: ∀k,c.o k=0
 dev:asK d d0 j
 ph:(ph=0/\c.jJ=0)\/(c.jJ≠0/\((ph=1/\yT c.L 258+j<=m)\/(ph=2/\j<=m+1)\/(ph=3/\j<=m+2)\/(ph=4/\j<=m+3)))
theorem CSc.start{c0:eX}{d0:DevM}{m:Nat}(hc:c0.ok)(h1:1<=c0.now)(h2:c0.now+1<4611686018427387904)(hn:yT c0.N 258<=m)(hd:d0.ok):CSc c0 d0 m 0 c0.start d0 1:=by
 obtain⟨o1,o2,o3,o4,o5,o6⟩:=hc;have b0:U64 (c0.now+1):=⟨by omega,h2⟩;exact{t:=rfl,ok:=⟨o1,o2,b0,o4,o3,λ_=>⟨Int.le_refl 0,show(0:Int)<1099511627776 by decide⟩⟩,now:=rfl,N:=λ_=>rfl,o:=λ_=>rfl,dev:=⟨hd,rfl,by omega,by omega,by omega,λ_ _ _ _=>rfl⟩,ph:= .inr ⟨by show c0.now≠0;omega,.inl ⟨rfl,by show yT c0.N 258+0<=m;omega⟩⟩}
theorem CSc.next{c0:eX}{d0:DevM}{n j:Nat}{c:eX}{d:DevM}{ph:Nat}(h:CSc c0 d0 n j c d ph)(hb:d0.st<=1000000000/\d0.fl<=1000000000/\d0.fe<=1000000000)(hj:j<10000)(hn:1<d0.n):wK c d ph (CSc c0 d0 n (j+1)):=by
 obtain⟨k1,k2,k3,k4,k5,⟨e1,e2,e3,e4,e5,e6⟩,k7⟩:=h;have flu: ∀k,asK (d.flush k) d0 (j+1):=λk=>⟨DevM.zO e1 _ (by omega),e2,by show d.st<=_;omega,by show(if k<d.n then d.fl+1 else d.fl)<=_;split<;>omega,by show d.fe<=_;omega,λm r hm hr=>by rw[asL hr];exact e6 m r hm hr⟩
 have fen:asK d.fence d0 (j+1):=⟨DevM.Ji e1 (by omega),e2,by show d.st<=_;omega,by show d.fl<=_;omega,by show d.fe+1<=_;omega,λm r hm hr=>by rw[asM hr];exact e6 m r hm hr⟩;rcases k7 with ⟨rfl,k7⟩|⟨k8,⟨rfl,k7⟩|⟨rfl,k7⟩|⟨rfl,k7⟩|⟨rfl,k7⟩⟩
 ·exact .inl ⟨rfl,k7,k1,k2,k3,k4,k5,⟨e1,e2,by omega,by omega,by omega,e6⟩,.inl ⟨rfl,k7⟩⟩
 ·refine .inr (.inl ⟨rfl,⟨k2,e1,k8,by show 1<d.n;omega⟩,λk hk hL hmin=>⟨k1,k2,k3,k4,k5,flu k,.inr ⟨k8,.inl ⟨rfl,?_⟩⟩⟩,λhL=>⟨k1,k2,k3,k4,k5,fen,.inr ⟨k8,.inr (.inl ⟨rfl,by omega⟩)⟩⟩⟩)
  have:=Jz hL hk;show yT (λq=>if q=k then false else c.L q) 258+(j+1)<=n;omega
 ·refine .inr (.inr (.inl ⟨rfl,⟨k2,e1,k8,by show 1<d.n;omega⟩,k1,k2,k3,k4,k5,⟨DevM.pV e1 _ _ _ (yA _) (by omega),e2,by show d.st+1<=_;omega,by show d.fl<=_;omega,by show d.fe<=_;omega,λm r hm hr=> ?_⟩,.inr ⟨k8,.inr (.inr (.inl ⟨rfl,by omega⟩))⟩⟩))
  rw[zS _ _ _ _ _ hr,if_neg (by omega)];exact e6 m r hm hr
 ·exact .inr (.inr (.inr (.inl ⟨rfl,⟨k2,e1,k8,by show 1<d.n;omega⟩,k1,k2,k3,k4,k5,flu 1,.inr ⟨k8,.inr (.inr (.inr ⟨rfl,by omega⟩))⟩⟩)))
 ·exact .inr (.inr (.inr (.inr ⟨rfl,⟨k2,e1,k8,by show 1<d.n;omega⟩,k1,⟨k2.1,k2.2.1,k2.2.2.1,k2.2.2.2.2.1,⟨Int.le_refl 0,show(0:Int)<4611686018427387904 by decide⟩,k2.2.2.2.2.2⟩,k3,k4,k5,fen,.inl ⟨rfl,rfl⟩⟩)))
theorem Uh{f:Nat->Bool}(h: ∀k,f k=false): ∀n,yT f n=0
 |0=>rfl
 |n+1=>by simp only[yT];rw[Uh h n,h n];rfl
section
variable{a:ZSto}{T M N:Nat}{B:ByteArray->ZBlk}
theorem eu.begin(g:eu a T M N B)(hM:M<=1000000){m:Nat}(hn:yT a.c.N 258<=m):CSc a.c a.d m 0 a.c.start a.d 1:=
 CSc.start g.cok g.asD (by have:=g.apI;omega) hn g.dok
theorem eu.closing(g:eu a T M N B)(hM:M<=1000000){m j:Nat}(hj:j<10000){c:eX}{d:DevM}{ph:Nat}(h:CSc a.c a.d m j c d ph):wK c d ph (CSc a.c a.d m (j+1)):=by
 have:=g.dst;have:=g.dfl;have:=g.dfe;have:=g.fit;have:=g.pg.1.1;exact h.next ⟨by omega,by omega,by omega⟩ hj (by omega)
theorem eu.closed(g:eu a T M N B)(hM:M<=1000000){m j:Nat}(hj:m+4<=j/\j<=20){c:eX}{d:DevM}{ph:Nat}(h:CSc a.c a.d m j c d ph):ph=0/\eu (a.aoH c d) T (M+20) N B/\(∀m r:Nat,2<=m->r<64->d.b (m*193+r)=a.d.b (m*193+r))/\c.now=a.c.now+1/\ ∀k,c.N k=false:=by
 obtain⟨k1,k2,k3,k4,k5,⟨e1,e2,e3,e4,e5,e6⟩,k7⟩:=h;have hp:ph=0/\c.jJ=0:=by
  rcases k7 with k7|⟨_,⟨_,k7⟩|⟨_,k7⟩|⟨_,k7⟩|⟨_,k7⟩⟩
  ·exact k7
  all_goals (exfalso;omega)
 have:=g.dst;have:=g.dfl;have:=g.dfe;have:=g.asD;have:=g.apI;have gD:eu (a.GR d) T (M+20) N B:=g.dev (by omega) e1 e2 (by omega) (by omega) (by omega) (L:=0) (n:=0) (λm r hm hr _=>e6 m r hm hr) (λ_ _ _ _=> .inr (Nat.zero_le _));exact⟨hp.1,{gD with cok:=k2,ct:=by show c.t=T;rw[k1];exact g.ct,jJ:=hp.2,asD:=by show 1<=c.now;omega,apI:=by show c.now<=((M+20:Nat):Int);omega,owed:=λk=>by show c.o k<=_;rw[k5];omega},e6,k3,k4⟩
theorem akT{d d':DevM}{L n:Nat}{key v:ByteArray}(h:TR d L key v n)(hL:2<=L)(hd: ∀m r:Nat,2<=m->r<64->d'.b (m*193+r)=d.b (m*193+r)):TR d' L key v n:=λm r h1 h2 h3=>by
 rw[hd _ _ (by omega) h3];exact h m r h1 h2 h3
end
def epc(key v:ByteArray):Int:=ned ((key.size+v.size:Nat):Int)
def eps(key v:ByteArray):Nat:=(spn (epc key v)).toNat
structure EP0 (key v:ByteArray) (nw:Int) (M:Nat) (s:ZKs):Prop where
 base:eu s.a 1 M 0 (λ_=>zBk)
 n0:s.a.n=0
 now:s.a.c.now=nw
 note: ∀k,s.a.c.N k=false
 fk:s.f.key=key
 val:s.f.value=v
 k0:key.size≠0
 k1:key.size<=16
 size:v.size<=400
 code:s.f.code=0
 pos:s.f.pos=⟨#[]⟩
 past:s.f.past=false
def IEp(key v:ByteArray)(nw:Int)(n M:Nat)(s:ZKs)(r:Nat):Prop:=
 EP0 key v nw M s/\((s.ph=0/\s.a.r.has 0=0/\s.a.p=dV 3 3/\s.f.line= -1/\r=5+eps key v+2*n)\/
  (s.ph=1/\s.f.epoch=nw/\s.a.p=dV 3 3/\s.f.line= -1/\r=4+eps key v+2*n)\/
  (s.ph=3/\s.f.epoch=nw/\s.f.had=false/\s.a.p=dV 3 3/\r=3+eps key v+2*n)\/
  (s.ph=4/\s.f.epoch=nw/\s.f.had=false/\s.f.cls=epc key v/\s.a.p=(dV 3 3).take (epc key v) 0 0/\ ∃L p:Nat,s.f.line=L/\s.f.piece=p/\p<eps key v/\lI s.a L (epc key v)/\TR s.a.d L key v p/\r=eps key v-p+2+2*n)\/
  (s.ph=5/\s.f.epoch=nw/\s.f.had=false/\s.f.cls=epc key v/\s.a.p=(dV 3 3).take (epc key v) 0 0/\ ∃L:Nat,s.f.line=L/\lI s.a L (epc key v)/\TR s.a.d L key v (eps key v)/\r=2+2*n)\/
  (s.ph=1/\s.f.epoch=nw/\s.f.cls=epc key v/\s.a.p=(dV 3 3).take (epc key v) 0 0/\ ∃L:Nat,s.f.line=L/\lI s.a L (epc key v)/\TR s.a.d L key v (eps key v)/\r=3+2*n))
structure JEp (key v:ByteArray) (nw:Int) (M:Nat) (s:ZKs) (r:Nat):Prop where
 base: ∃B,eu s.a 1 M 1 B
 n1:s.a.n=1
 e:(s.a.e 0).epoch=nw
 now:s.a.c.now=nw
 code:s.f.code=0
 aep:s.f.aep=nw
 p:s.a.p=(dV 3 3).take (epc key v) 0 0
 ph:s.ph=6/\r=1\/s.ph=7/\r=0
def KEp(key v:ByteArray)(nw:Int)(n M:Nat)(s:ZKs)(r:Nat):Prop:=IEp key v nw n M s r\/n=0/\JEp key v nw M s r
section
variable{key v:ByteArray}{nw:Int}{n M M':Nat}{s:ZKs}{r:Nat}
theorem EP0.mono{s':ZKs}(h:EP0 key v nw M s)(ha:eu s'.a 1 M' 0 (λ_=>zBk))(hn:s'.a.n=s.a.n)(hc:s'.a.c=s.a.c)(hk:s'.f.key=s.f.key)(hv:s'.f.value=s.f.value)(hco:s'.f.code=s.f.code)(hp:s'.f.pos=s.f.pos)(hq:s'.f.past=s.f.past):EP0 key v nw M' s':=
 ⟨ha,by rw[hn];exact h.n0,by rw[hc];exact h.now,λk=>by rw[hc];exact h.note k,by rw[hk];exact h.fk,by rw[hv];exact h.val,h.k0,h.k1,h.size,by rw[hco];exact h.code,by rw[hp];exact h.pos,by rw[hq];exact h.past⟩
theorem KEp.upTo(h:KEp key v nw n M s r)(hM:M<=M'):KEp key v nw n M' s r:=by
 rcases h with ⟨h0,h⟩|⟨hn,h1⟩
 ·exact .inl ⟨{h0 with base:=h0.base.up hM (aY _)},h⟩
 ·exact .inr ⟨hn,{h1 with base:=let ⟨B,g⟩:=h1.base;⟨B,g.up hM (aY _)⟩}⟩
theorem apO(hk:key.size<=16)(hv:v.size<=400):(eps key v:Int)=spn (epc key v)/\1<=eps key v/\eps key v<=8/\0<=epc key v/\epc key v<=3:=by
 have h1:0<=epc key v/\epc key v<=3:=akz (n:=key.size+v.size) (by omega);have:=dM (epc key v);unfold eps;omega
theorem KEp.pos(h:KEp key v nw n M s r)(h7:s.ph≠7):1<=r:=by
 rcases h with ⟨_,⟨_,_,_,_,hr⟩|⟨_,_,_,_,hr⟩|⟨_,_,_,_,hr⟩|⟨_,_,_,_,_,_,_,_,_,_,_,_,hr⟩|⟨_,_,_,_,_,_,_,_,_,hr⟩|⟨_,_,_,_,_,_,_,_,hr⟩⟩|⟨_,h⟩
 ·omega
 ·omega
 ·omega
 ·omega
 ·omega
 ·omega
 ·rcases h.ph with ⟨_,hr⟩|⟨hp,_⟩
  ·omega
  ·exact absurd hp h7
theorem IEp.next(hM:M<=900000)(h:IEp key v nw n M s r)(hz:s.ph=5->n=0):wP 2 0 zBk 0 s (λ_ y=>KEp key v nw n (M+20) y (r-1)):=by
 obtain⟨h0,h⟩:=h;have g:=h0.base;have hL:s.a.L=[]:=List.length_eq_zero_iff.1 (Nat.le_zero.1 g.len);obtain⟨z1,z2,z3,z4,z5⟩:=apO h0.k1 h0.size;have ks:s.f.key.size<=16:=by rw[h0.fk];exact h0.k1
 have vs:s.f.value.size<=400:=by rw[h0.val];exact h0.size
 have ec:ndK 2 s.f=epc key v:=by unfold ndK epc;rw[if_pos rfl,h0.fk,h0.val]
 have miss: ∀{Q:Nat->ZKs->Prop},s.ph=1->Q 0 ⟨s.a,{s.f with had:=false,old:=iT},nx3 s.f 2 false⟩->wP 2 0 zBk 0 s Q:=λhp hq=>
  Gp g hp ⟨ks,by rw[h0.pos];exact Nat.zero_le _,λe=>by rw[h0.past]at e;cases e⟩ (λh=>by cases h) (λy hy=>by rw[hL]at hy;cases hy) (λy hy=>by rw[hL]at hy;cases hy) (λ_ _=>hq)
 rcases h with ⟨hp,h1,h2,h3,hr⟩|⟨hp,h1,h2,h3,hr⟩|⟨hp,h1,h2,h3,hr⟩|⟨hp,h1,h2,h3,h4,L,p,h5,h6,h7,h8,h9,hr⟩|⟨hp,h1,h2,h3,h4,L,h5,h6,h7,hr⟩|⟨hp,h1,h2,h3,L,h5,h6,h7,hr⟩
 ·refine wp0 g (by decide) h1 hp (λe=>absurd ?_ e) λ_ g'=> .inl ⟨h0.mono (g'.up (by omega) (aY _)) rfl rfl rfl rfl rfl rfl rfl,.inr (.inl ⟨rfl,h0.now,h2,h3,by omega⟩)⟩
  unfold goodP;rw[if_neg (by rw[h0.fk];exact h0.k0),if_neg (by omega)]
 ·refine miss hp (.inl ⟨h0.mono (g.up (by omega) (aY _)) rfl rfl rfl rfl rfl rfl rfl,.inr (.inr (.inl ⟨?_,h1,rfl,h2,by omega⟩))⟩)
  show nx3 s.f 2 false=3;unfold nx3;rw[if_neg (by decide),if_neg (by decide),if_pos (by omega)]
 ·refine wp3 g (.inl rfl) hp ks vs (λhf=>absurd (by rw[h3]at hf;exact hf) (Gt (n:=3) (c:=ndK 2 s.f) (by decide))) λi j K t1 t2 t3 t4 _=> ?_
  rw[h3]at t1;obtain⟨rfl,rfl⟩:=Uc (n:=3) (by rw[ec];exact z4) t1;rw[ec]at t3 t4 ⊢;refine .inl ⟨h0.mono (t3.up (by omega) (aY _)) rfl rfl rfl rfl rfl rfl rfl,.inr (.inr (.inr (.inl ⟨rfl,h1,h2,rfl,by show s.a.p.take _ 0 0=_;rw[h3],K,0,rfl,rfl,by omega,t4,λm r e1 e2 _=>absurd e2 (by omega),by omega⟩)))⟩
 ·refine wp4 g (by omega) hp ks vs (K:=L) (p:=p) (.inl rfl) h5 h6 (by rw[h3];omega) (by rw[h3];exact h8) (by rw[h0.fk,h0.val];exact h9) (λd' hne g' hh hd _=> ?_) λd' he g' hh hd _=> ?_
  ·rw[h3]at hh hne
   rw[h0.fk,h0.val]at hd;exact .inl ⟨h0.mono g' rfl rfl rfl rfl rfl rfl rfl,.inr (.inr (.inr (.inl ⟨rfl,h1,h2,h3,h4,L,p+1,h5,rfl,by omega,hh,hd,by omega⟩)))⟩
  ·rw[h3]at hh hd he
   rw[h0.fk,h0.val]at hd;exact .inl ⟨h0.mono g' rfl rfl rfl rfl rfl rfl rfl,.inr (.inr (.inr (.inr (.inl ⟨rfl,h1,h2,h3,h4,L,h5,hh,hd,by omega⟩))))⟩
 ·have hn:=hz hp
  subst hn;refine wp5p g (by omega) (by omega) rfl hp (K:=L) (by decide) h5 (by rw[h3];exact h6) (by rw[h0.fk];exact h0.k0) ks vs (by rw[h3,h0.fk,h0.val];rfl) (by rw[h1,h0.now]) (by rw[hL,h2];rfl) (by rw[h3,h0.fk,h0.val];exact h7) λgr=> .inr ⟨rfl,⟨⟨_,gr⟩,?_,?_,?_,h0.code,h1,h4,.inl ⟨rfl,by omega⟩⟩⟩
  ·show s.a.n+1=1
   rw[h0.n0]
  ·show(if 0=s.a.n then _ else s.a.e 0:ZEff).epoch=nw
   rw[if_pos h0.n0.symm];exact h1
  ·exact(pW _ _ _ _).trans h0.now
 ·refine miss hp (.inl ⟨h0.mono (g.up (by omega) (aY _)) rfl rfl rfl rfl rfl rfl rfl,.inr (.inr (.inr (.inr (.inl ⟨?_,h1,rfl,h2,h3,L,h5,h6,h7,by omega⟩))))⟩)
  show nx3 s.f 2 false=5;unfold nx3;rw[if_neg (by decide),if_neg (by decide),if_neg (by omega)]
theorem KEp.next(hM:M<=900000)(h:KEp key v nw n M s r)(hz:s.ph=5->n=0)(h7:s.ph≠7):wP 2 0 zBk 0 s (λ_ y=>KEp key v nw n (M+20) y (r-1)):=by
 rcases h with h|⟨hn,h⟩
 ·exact h.next hM hz
 ·obtain⟨⟨B,g⟩,h1,h2,h3,h4,h5,h6,hp⟩:=h
  rcases hp with ⟨hp,hr⟩|⟨hp,_⟩
  ·exact wp6 g hp (by decide) λgr=> .inr ⟨hn,⟨B,gr.up (by omega) (aY _)⟩,h1,h2,h3,h4,h5,h6,.inr ⟨rfl,by omega⟩⟩
  ·exact absurd hp h7
theorem KEp.closed(hM:M<=900000)(h:KEp key v nw (n+1) M s r)(h5:s.ph=5):eu s.a 1 M 0 (λ_=>zBk)/\(∀k,s.a.c.N k=false)/\s.a.c.now=nw/\ ∀c d ph,CSc s.a.c s.a.d 0 10 c d ph->ph=0/\wP 2 0 zBk 0 ⟨s.a.aoH c d,s.f,5⟩ (λ_ y=>KEp key v (nw+1) n (M+20) y (r-1)):=by
 rcases h with ⟨h0,h⟩|⟨hn,_⟩
 ·rcases h with ⟨hp,_⟩|⟨hp,_⟩|⟨hp,_⟩|⟨hp,_⟩|⟨hp,h1,h2,h3,h4,L,h6,h7,h8,hr⟩|⟨hp,_⟩
  ·omega
  ·omega
  ·omega
  ·omega
  ·refine⟨h0.base,h0.note,h0.now,λc d ph hcs=> ?_⟩
   obtain⟨c1,c2,c3,c4,c5⟩:=h0.base.closed (by omega) (by omega) hcs;have hnow:=h0.now;have hf:=h7.fits h0.base;have ks:s.f.key.size<=16:=by rw[h0.fk];exact h0.k1
   refine⟨c1,wp5r c2 (.inl rfl) rfl (K:=L) (by decide) h6 ks (.inl (by show c.now≠s.f.epoch;omega)) (.inl ⟨⟨c2,h0.n0,?_,c5,h0.fk,h0.val,h0.k0,h0.k1,h0.size,h0.code,rfl,rfl⟩,.inr (.inr (.inr (.inr (.inr ⟨rfl,?_,h3,h4,L,h6,h7,akT h8 hf.1 c3,by omega⟩))))⟩)⟩
   ·show c.now=nw+1
    omega
   ·show c.now=nw+1
    omega
  ·omega
 ·omega
end
noncomputable def akU:WTr:=λargs h K=>match args with
 |[.ptr i z]=>bif isAbs (h.get i)then ctrT (Ia 5).ctr [.ptr i z] h K else wpF Tryz.prog [] tt arG 200 6 22 [.ptr i z] h K
 |_=>False
noncomputable def asN:WTr:=λargs h K=>match args with
 |[.ptr i z]=>bif isAbs (h.get i)then ctrT (Ia 3).ctr [.ptr i z] h K else wpF Tryz.prog [] tt arG 200 6 39 [.ptr i z] h K
 |_=>False
theorem akV(args:List AV)(h:Heap)(K:AV->Heap->Prop)(hq:akU args h K):Sp Tryz.prog 22 args h K:=by
 unfold akU at hq;split at hq
 ·rename_i i z
  cases ha:isAbs (h.get i)<;>rw[ha]at hq
  ·exact vF dD mixed .nil _ _ _ _ _ _ _ hq
  ·exact bM akM _ _ _ hq
 ·exact hq.elim
theorem aoI(args:List AV)(h:Heap)(K:AV->Heap->Prop)(hq:asN args h K):Sp Tryz.prog 39 args h K:=by
 unfold asN at hq;split at hq
 ·rename_i i z
  cases ha:isAbs (h.get i)<;>rw[ha]at hq
  ·exact vF dD mixed .nil _ _ _ _ _ _ _ hq
  ·exact bM akL _ _ _ hq
 ·exact hq.elim
theorem abK{p:ZPool}{i:Nat}(h: ∀j,p.tk i j=decide (j=0)): ∀n,1<=n->p.gZ i n=1
 |1,_=>by unfold ZPool.gZ ZPool.gZ;rw[h 0];rfl
 |n+2,_=>by unfold ZPool.gZ;rw[abK h (n+1) (by omega),h (n+1)];rfl
theorem akW{p:ZPool}{i:Nat}(h:0<=p.cls i/\p.cls i<=3):1<=p.qU i:=by
 have:p.cls i=0\/p.cls i=1\/p.cls i=2\/p.cls i=3:=by omega
 unfold ZPool.qU;rcases this with e|e|e|e<;>rw[e]<;>decide
theorem Ui{p:ZPool}{i:Nat}(h:p.cls i= -1):p.qU i=0:=by
 unfold ZPool.qU;rw[h];rfl
theorem apP(a:ZSto)(h:a.n=1):({a with n:=1}:ZSto)=a:=by
 obtain⟨d,p,r,c,ph,b,l,L,id,ver,n,e⟩:=a;have h:n=1:=h;subst h;rfl
def qL(h:Heap)(i:Nat):List Nat:=match h.get i with
 |some (.cells _ (.av [d0,p,r,c,b,t,o,l,_,_,.slV _ j _ _]))=>match h.get (pOf d0)with
  |some (.cells _ (.av (d::_)))=>[i,pOf d0,pOf d,pOf p,pOf r,pOf c,pOf b,pOf t,pOf o,pOf l,j]
  |_=>[]
 |_=>[]
noncomputable def asO(T:WTr):WTr:=λargs h K=>match args with
 | .ptr i z::r=>bif isAbs (h.get i)then T (.ptr i z::r) h K else
  bif G5 0 (qL h i) 11&&Nat.beq (qL h i).length 11 then∃a:ZSto,DT (atL (qL h i)) 11 h 0 a.os/\T (.ptr i z::r) (aed (ownM a.os) (qL h i) h) K else False
 |_=>False
theorem aoJ{P:Program}{f:FuncId}{T:WTr}(hT: ∀args h K,T args h K->Sp P f args h K)(args:List AV)(h:Heap)(K:AV->Heap->Prop)(hq:asO T args h K):Sp P f args h K:=by
 unfold asO at hq;split at hq
 ·rename_i i z r
  cases ha:isAbs (h.get i)<;>rw[ha]at hq
  ·generalize qL h i=ids at hq
   cases hb:(G5 0 ids 11&&Nat.beq ids.length 11)<;>rw[hb]at hq
   ·exact hq.elim
   ·simp only[aJ]at hb
    obtain⟨b1,b2⟩:=hb;obtain⟨a,hs,hq⟩:=hq;refine Qd (Φ:=λh=>h=hOf a.os) 11 ids a.os rfl rfl b1 rfl hs (hT _ _ _ ?_);have e:qZ (λh=>h=hOf a.os) ids h=aed (ownM a.os) ids h:=by
     unfold qZ aed;rw[oM];rfl
    rw[e];exact hq
  ·exact hT _ _ _ hq
 ·exact hq.elim
noncomputable def akX:WTr:=asO (ctrT (TN 2))
theorem aeL(args:List AV)(h:Heap)(K:AV->Heap->Prop)(hq:akX args h K):Sp Tryz.prog 34 args h K:=aoJ (bM (Ju)) args h K hq
noncomputable def au4:jg:={X:=ZSto,args:=λ_=>[.ptr 0 0],k:=1,l:=λa=>[.m ({a with n:=1}:ZSto).os],pre:=λ_=>Hd True,outs:=[{Y:=Unit,post:=λ_ _=>True,ret:=λ_ _=> .slW 1 0 7 1,m:=2,l:=λa _=>[.m ({a with n:=1}:ZSto).os,.o (.room 95 (.row 7 1 (λi=>(a.e i).cs) []))]}]}
structure aeT where
 many:Int
 key:ByteArray
 v:ByteArray
structure ZEq where
 s:ZKs
 n:Nat
 k:Nat
 r:Nat
def BZ(z:Int)(m:Nat):Nat:=(IntKind.wrap .u64 z%(m:Int)).toNat
noncomputable def lowD:Ctr:=det apN (λx=>[i64 x.z,i64 x.m]) 0 (λ_=>[]) (λx=>Hd (1<=x.m/\x.m<=1000)) (λx=>i64 (BZ x.z x.m)) 0 (λ_=>[])
def fid9(fr:Fr):Nat:=rZ (SE.look fr 9)
noncomputable def au5(h:Heap):LGh:={G:=ZGh,forms:=λg=>[{σ:=ZEj,fr:=λs=>[(12,i64 s.j)],ob:=λs=>[((qL h 0).getD 5 0,some (.abs (ownM (s.c.os s.ph)))),((qL h 0).getD 2 0,some (.abs (ownM s.d.os)))],inv:=λs=>Hd (s.j<=10/\CSc g.c g.d 0 s.j s.c s.d s.ph),meas:=λs=>10-s.j}]}
def ak5(x:aeT)(s:ZEq):Prop:=s.n<=BZ x.many 7/\KEp x.key x.v ((1+BZ x.many 7-s.n:Nat):Int) s.n (40*s.k+10) s.s s.r/\s.k+s.r<=59
noncomputable def apQ(x:aeT):FuncId->qR:=λf=>bif Nat.beq f 9 then(λb fr h=>bif Nat.beq b 2 then(au5 h).an else bif Nat.beq b 0 then [
 {σ:=ZEq,fr:=λs=>[(11,i64 s.k),(10,i64 s.n)],ob:=λs=>[(0,some (.abs (ownM s.s.a.os))),(fid9 fr,some (s.s.f.st 2 s.s.ph ig))],inv:=λs=>Hd (ak5 x s),meas:=λs=>60-s.k}]else [])elseλ_ _ _=>[]
noncomputable def apR:jv:=akE++[(32,ctrT Dy),(14,ctrT lowD),(17,RU),(34,akX),(22,akU),(23,ctrT TP.ctr),(24,ctrT au3),(26,ctrT au4.ctr),(45,ctrT (nS 0).ctr),(39,asN),(40,ctrT Ud.ctr)]
def iY:Prop:=Value.slice none 0 0=Value.slice none 0 0
def Uj(a:ZKs)(b:ZKs):Prop:=(2:Int)=2/\a.f.key=b.f.key/\a.f.value=b.f.value/\a.f.to=b.f.to/\iY/\a.ph=b.ph/\a.f.epoch=b.f.epoch/\a.f.pos=b.f.pos/\a.f.past=b.f.past/\(0:Int)=0/\a.f.had=b.f.had/\a.f.old.key=b.f.old.key/\a.f.old.id=b.f.old.id/\a.f.old.ver=b.f.old.ver/\a.f.old.line=b.f.old.line/\a.f.old.cls=b.f.old.cls/\a.f.line=b.f.line/\a.f.cls=b.f.cls/\a.f.piece=b.f.piece/\iY/\(0:Int)=0/\iY/\a.f.code=b.f.code/\a.f.found=b.f.found/\a.f.ans=b.f.ans/\iY/\iY/\a.f.aep=b.f.aep/\True
def Zd:Prop:=True/\true=false/\True
def Ze:Prop:=True/\True/\Zd
def abL:Prop:=AV.lit (Value.tuple (@List.toArray Value (@List.nil Value)))=AV.lit (Value.tuple (@List.toArray Value (@List.nil Value)))/\True
def Zf:Prop:=abL/\abL/\Ze
def GH:Prop:=abL/\Zf
def OQ(a:Int):Prop:=AV.lit (Value.int .u64 a)=AV.lit (Value.int .u64 a)/\True
def akY(a0:ZEq)(b:aeT):Prop:= ∃x_3:ZSto,Hd True/\(0=0/\True)/\(ownM (ZSto.os (ZSto.mk x_3.d x_3.p x_3.r x_3.c x_3.ph x_3.b x_3.l x_3.L x_3.id x_3.ver 1 x_3.e))=ownM a0.s.a.os/\True)/\ ∀y_2:Unit,True->cP (BEq.beq a0.s.ph (7:Int)) (cP (BEq.beq a0.s.f.code (0:Int)) (cP (BEq.beq (a0.n:Int) (0:Int)) (((0:Int)<=0/\(0:Int)<=0)/\0<1/\cP (BEq.beq (ZEff.epoch (x_3.e 0)) a0.s.f.aep) (∃x_4:apN,Hd (1<=x_4.m/\x_4.m<=1000)/\(x_4.z=aeT.many b/\(x_4.m:Int)=7/\True)/\True/\ ∀y_3:Unit,True->OQ a0.s.f.aep/\I64 (1+((BZ x_4.z x_4.m:Nat):Int))/\cP (BEq.beq a0.s.f.aep (IntKind.wrap .u64 (1+((BZ x_4.z x_4.m:Nat):Int)))) (∃x_5:ZSto,Hd True/\(0=0/\True)/\(ownM x_5.os=ownM (ZSto.os (ZSto.mk x_3.d x_3.p x_3.r x_3.c x_3.ph x_3.b x_3.l x_3.L x_3.id x_3.ver 1 x_3.e))/\True)/\ ∀y_4:Unit,True->OQ a0.s.f.aep/\ ∃x_6:eX,Hd x_6.ok/\(0=0/\True)/\(ownM (x_6.os 0)=ownM x_5.ck.os/\True)/\ ∀y_5:Unit,True->OQ a0.s.f.aep/\cP (BEq.beq x_6.now a0.s.f.aep) (True/\ ∃x_7:ZPool,Hd x_7.ok/\(0=0/\True)/\(ownM x_7.osW=ownM x_5.p.os/\True)/\ ∀y_6:Prod Bool (∀a:Nat,List Value),Hd (y_6.1=true->x_7.cntI x_7.n=0)->True/\cP (BEq.beq ((x_7.cntI x_7.n:Nat):Int) (1:Int)) (∃x_8:Unit,True/\True/\True/\ ∀y_7:Unit,True->True/\true=true/\True) Zd) Ze) Zf) GH) GH) GH) GH
def GI(a:aeT):Prop:=(2:Int)=2/\a.key=a.key/\a.v=a.v/\ByteArray.mk #[]=ByteArray.mk #[]/\iY/\True
def Zg(a:ZKs)(b:aeT)(c:ZSto):Prop:=(0=0/\(1:Int)=1/\(0:Int)=0/\(0:Int)=0/\True)/\((2:Int)=2/\a.f.key=a.f.key/\a.f.value=a.f.value/\a.f.to=a.f.to/\iY/\a.ph=a.ph/\a.f.epoch=a.f.epoch/\a.f.pos=a.f.pos/\a.f.past=a.f.past/\(0:Int)=0/\a.f.had=a.f.had/\a.f.old.key=a.f.old.key/\a.f.old.id=a.f.old.id/\a.f.old.ver=a.f.old.ver/\a.f.old.line=a.f.old.line/\a.f.old.cls=a.f.old.cls/\a.f.line=a.f.line/\a.f.cls=a.f.cls/\a.f.piece=a.f.piece/\iY/\(0:Int)=0/\iY/\a.f.code=a.f.code/\a.f.found=a.f.found/\a.f.ans=a.f.ans/\iY/\iY/\a.f.aep=a.f.aep/\True)/\GI b/\(0=0/\0=0/\0=0/\0=0/\0=0/\0=0/\0=0/\0=0/\c.id=c.id/\c.ver=c.ver/\(Nat.beq c.n 0=Nat.beq c.n 0/\c.n=c.n)/\True)/\True
def OT(a:ZSto)(b:Nat):Prop:=[Value.int .i64 (ZEff.kind (a.e b)),Value.string (ZEff.key (a.e b)),Value.string (ZEff.value (a.e b)),Value.int .u64 (ZEff.id (a.e b)),Value.int .u64 (ZEff.ver (a.e b)),Value.int .u64 (ZEff.epoch (a.e b)),Value.int .i64 (ZEff.group (a.e b))]=[Value.int .i64 (ZEff.kind (a.e b)),Value.string (ZEff.key (a.e b)),Value.string (ZEff.value (a.e b)),Value.int .u64 (ZEff.id (a.e b)),Value.int .u64 (ZEff.ver (a.e b)),Value.int .u64 (ZEff.epoch (a.e b)),Value.int .i64 (ZEff.group (a.e b))]
def Zh(a:ZEq)(b:aeT):Prop:= ∃x_3:ZWk,Hd (x_3.n=0/\wP (2:Int) x_3.t x_3.b 0 x_3.s x_3.q)/\(0=0/\(x_3.t:Int)=0/\Uj x_3.s a.s/\True)/\(ownM x_3.s.a.os=ownM a.s.a.os/\True)/\ ∀y_2:ZKs,Hd (x_3.q 0 y_2)->I64 ((a.k:Int)+1)/\ ∃s_1:ZEq,Hd (@ak5 b s_1)/\60-s_1.k<60-a.k/\((s_1.k:Int)=(a.k:Int)+1/\(s_1.n:Int)=(a.n:Int)/\True)/\Uj s_1.s y_2/\GI b/\ownM s_1.s.a.os=ownM y_2.a.os/\True
def OU:Prop:= ∃x_1:Unit,True/\True/\True/\ ∀y:Unit,True->true=true/\True
def OV(a:ZEj)(b:ZGh):Prop:=Hd (a.j<=10/\CSc b.c b.d 0 a.j a.c a.d a.ph)
def Zi(a:ZSto):Prop:=Nat.beq a.n 0=Nat.beq a.n 0/\a.n=a.n/\ ∀q:Nat,q<a.n->OT a q
def akZ(x:apN):Prop:=
 (IntKind.wrap .u64 (x.m:Int)=0->False)/\I64 (Int.tmod (IntKind.wrap .u64 x.z) (IntKind.wrap .u64 (x.m:Int)))/\ ∃y:Unit,True/\((BZ x.z x.m:Nat):Int)=Int.tmod (IntKind.wrap .u64 x.z) (IntKind.wrap .u64 (x.m:Int))/\True
theorem ak0(x:apN):akZ x=wpF Tryz.prog [] tt (noA x) 200 6 14 (lowD.args x) (hO 0 []) (λv h'=>eG 0 x v h' lowD.outs):=by kernel_rfl
def ak1(a:ZSto):Prop:=
 0<1/\(2*(0+1)+1000)*72<=281474976710656/\ ∃y:Unit,True/\(0=0/\1=0+1)/\(0=0/\0=0/\0=0/\0=0/\0=0/\0=0/\0=0/\0=0/\a.id=a.id/\a.ver=a.ver/\(Nat.beq 1 0=false/\1=1)/\True)/\(1=1/\ ∀q:Nat,q<1->[Value.int .i64 (ZEff.kind (a.e q)),Value.string (ZEff.key (a.e q)),Value.string (ZEff.value (a.e q)),Value.int .u64 (ZEff.id (a.e q)),Value.int .u64 (ZEff.ver (a.e q)),Value.int .u64 (ZEff.epoch (a.e q)),Value.int .i64 (ZEff.group (a.e q))]=[Value.int .i64 (ZEff.kind (a.e (0+(q-0)))),Value.string (ZEff.key (a.e (0+(q-0)))),Value.string (ZEff.value (a.e (0+(q-0)))),Value.int .u64 (ZEff.id (a.e (0+(q-0)))),Value.int .u64 (ZEff.ver (a.e (0+(q-0)))),Value.int .u64 (ZEff.epoch (a.e (0+(q-0)))),Value.int .i64 (ZEff.group (a.e (0+(q-0))))])/\(0=0/\(1:Int)=1/\(0:Int)=0/\(0:Int)=0/\True)/\ownM a.d.os=ownM a.d.os/\ownM a.p.os=ownM a.p.os/\ownM a.r.os=ownM a.r.os/\ownM (ZCk.os (ZSto.ck (ZSto.mk a.d a.p a.r a.c a.ph a.b a.l a.L a.id a.ver 1 a.e)))=ownM (ZCk.os (ZSto.ck (ZSto.mk a.d a.p a.r a.c a.ph a.b a.l a.L a.id a.ver 1 a.e)))/\ownM a.b.os=ownM a.b.os/\tabA a.L=tabA a.L/\ordA a.L=ordA a.L/\ownM a.l.os=ownM a.l.os/\(Nat.beq 1 0=false/\1=1/\ ∀q:Nat,q<1->OT a q)/\True
theorem ak2(a:ZSto):ak1 a=wpF Tryz.prog [] tt (noA a) 200 6 26 (au4.args a) (hO 11 (flatP 1 (au4.l a))) (λv h'=>endsPK 1 a v h' au4.outs):=by kernel_rfl
def GK(x:aeT):Prop:=
 cP (decide ((x.key.size:Int)>(16:Int))) OU (cP (BEq.beq (ByteArray.toList x.key) (ByteArray.toList (ByteArray.mk #[]))) OU (cP (decide ((x.v.size:Int)>(400:Int))) OU (∃x_1:ZNew,Hd (10<=x_1.n/\x_1.n<=258/\1<=x_1.t/\x_1.t<=4)/\((x_1.n:Int)=26/\(x_1.t:Int)=1/\True)/\True/\ ∀y:DevM,Hd (y.ok/\y.n=x_1.n/\y.st=2/\y.fl=2/\y.fe=1)-> ∃x_2:apN,Hd (1<=x_2.m/\x_2.m<=1000)/\(x_2.z=aeT.many x/\(x_2.m:Int)=7/\True)/\True/\ ∀y_1:Unit,True->(∃s:ZEq,Hd (@ak5 x s)/\True/\((s.k:Int)=0/\(s.n:Int)=((BZ x_2.z x_2.m:Nat):Int)/\True)/\((2:Int)=2/\s.s.f.key=x.key/\s.s.f.value=x.v/\s.s.f.to=ByteArray.mk #[]/\iY/\s.s.ph=0/\s.s.f.epoch=0/\s.s.f.pos=ByteArray.mk #[]/\s.s.f.past=false/\(0:Int)=0/\s.s.f.had=false/\s.s.f.old.key=ByteArray.mk #[]/\s.s.f.old.id=0/\s.s.f.old.ver=0/\s.s.f.old.line=0/\s.s.f.old.cls=0/\s.s.f.line=(-(1:Int))/\s.s.f.cls=0/\s.s.f.piece=0/\iY/\(0:Int)=0/\iY/\s.s.f.code=0/\s.s.f.found=false/\s.s.f.ans=ByteArray.mk #[]/\iY/\iY/\s.s.f.aep=0/\True)/\GI x/\ownM s.s.a.os=ownM (ZSto.os (newSto x_1.n x_1.t y))/\True)/\(∀s:ZEq,Hd (@ak5 x s)->cP (decide ((s.k:Int)<60)) (cP (bne s.s.ph (7:Int)) (cP (BEq.beq s.s.ph (5:Int)) (cP (decide ((s.n:Int)>(0:Int))) (I64 ((s.n:Int)-1)/\ ∃x_3:ZSto,Hd True/\(0=0/\True)/\(ownM x_3.os=ownM s.s.a.os/\True)/\ ∀y_2:Unit,True-> ∃x_4:eX,Hd (x_4.ok/\x_4.jJ=0)/\(0=0/\True)/\(ownM (x_4.os 0)=ownM x_3.ck.os/\True)/\ ∀y_3:Unit,True-> ∃g:ZGh,(∃s_1:ZEj,OV s_1 g/\True/\((s_1.j:Int)=0/\True)/\Zi x_3/\ownM x_3.l.os=ownM x_3.l.os/\
 ordA x_3.L=ordA x_3.L/\tabA x_3.L=tabA x_3.L/\ownM x_3.b.os=ownM x_3.b.os/\ownM (s_1.c.os s_1.ph)=ownM (x_4.start.os 1)/\ownM x_3.r.os=ownM x_3.r.os/\ownM x_3.p.os=ownM x_3.p.os/\ownM s_1.d.os=ownM x_3.d.os/\Zg s.s x x_3)/\(∀s_1:ZEj,OV s_1 g->cP (decide ((s_1.j:Int)<10)) (∃x_5:ZWkc,Hd (wK x_5.c x_5.d x_5.ph x_5.q)/\(0=0/\0=0/\True)/\(ownM (x_5.c.os x_5.ph)=ownM (s_1.c.os s_1.ph)/\ownM x_5.d.os=ownM s_1.d.os/\True)/\ ∀y_4:au2,Hd (x_5.q y_4.c y_4.d y_4.ph)->I64 ((s_1.j:Int)+1)/\ ∃s_2:ZEj,OV s_2 g/\10-s_2.j<10-s_1.j/\((s_2.j:Int)=(s_1.j:Int)+1/\True)/\Zi x_3/\ownM x_3.l.os=ownM x_3.l.os/\ordA x_3.L=ordA x_3.L/\tabA x_3.L=tabA x_3.L/\ownM x_3.b.os=ownM x_3.b.os/\ownM (s_2.c.os s_2.ph)=ownM (y_4.c.os y_4.ph)/\ownM x_3.r.os=ownM x_3.r.os/\ownM x_3.p.os=ownM x_3.p.os/\ownM s_2.d.os=ownM y_4.d.os/\Zg s.s x x_3) (∃a:ZSto,((true=true/\false=false/\some (dA.cells (113: @TypeId) (Cs.av [AV.ptr 3 0,AV.ptr 5 0,AV.ptr 6 0,AV.ptr 7 0,AV.ptr 8 0,AV.ptr 9 0,AV.ptr 10 0,AV.ptr 11 0,AV.lit (Value.int .u64 x_3.id),AV.lit (Value.int .u64 x_3.ver),AV.slV (Nat.beq x_3.n 0) 12 7 x_3.n]))=some (dA.cells (113: @TypeId) (Cs.av [AV.ptr 3 0,AV.ptr 5 0,AV.ptr 6 0,AV.ptr 7 0,AV.ptr 8 0,AV.ptr 9 0,AV.ptr 10 0,AV.ptr 11 0,AV.lit (Value.int .u64 a.id),AV.lit (Value.int .u64 a.ver),AV.slV (Nat.beq a.n 0) 12 7 a.n])))/\(true=true/\false=false/\some (dA.cells (145: @TypeId) (Cs.av [AV.ptr 4 0,AV.lit (Value.int .u32 1),AV.lit (Value.int .i32 0),AV.lit (Value.int .u32 0)]))=some (dA.cells (145: @TypeId) (Cs.av [AV.ptr 4 0,AV.lit (Value.int .u32 1),AV.lit (Value.int .i32 0),AV.lit (Value.int .u32 0)])))/\(true=true/\
 false=false/\some (dA.abs (ownM s_1.d.os))=some (dA.abs (ownM a.d.os)))/\(true=true/\false=false/\some (dA.abs (ownM x_3.p.os))=some (dA.abs (ownM a.p.os)))/\(true=true/\false=false/\some (dA.abs (ownM x_3.r.os))=some (dA.abs (ownM a.r.os)))/\(true=true/\false=false/\some (dA.abs (ownM (s_1.c.os s_1.ph)))=some (dA.abs (ownM a.ck.os)))/\(true=true/\false=false/\some (dA.abs (ownM x_3.b.os))=some (dA.abs (ownM a.b.os)))/\(true=true/\false=false/\some (dA.abs (tabA x_3.L))=some (dA.abs (tabA a.L)))/\(true=true/\false=false/\some (dA.abs (ordA x_3.L))=some (dA.abs (ordA a.L)))/\(true=true/\false=false/\some (dA.abs (ownM x_3.l.os))=some (dA.abs (ownM a.l.os)))/\(true=true/\false=false/\some (dA.gX (Nat.beq x_3.n 0) (95: @TypeId) (Cs.row 7 x_3.n (λ(i:Nat)=>[Value.int .i64 (ZEff.kind (x_3.e i)),Value.string (ZEff.key (x_3.e i)),Value.string (ZEff.value (x_3.e i)),Value.int .u64 (ZEff.id (x_3.e i)),Value.int .u64 (ZEff.ver (x_3.e i)),Value.int .u64 (ZEff.epoch (x_3.e i)),Value.int .i64 (ZEff.group (x_3.e i))]) (@List.nil (Prod Nat (List Value)))))=some (dA.gX (Nat.beq a.n 0) (95: @TypeId) (Cs.row 7 a.n (λ(i:Nat)=>[Value.int .i64 (ZEff.kind (a.e i)),Value.string (ZEff.key (a.e i)),Value.string (ZEff.value (a.e i)),Value.int .u64 (ZEff.id (a.e i)),Value.int .u64 (ZEff.ver (a.e i)),Value.int .u64 (ZEff.epoch (a.e i)),Value.int .i64 (ZEff.group (a.e i))]) (@List.nil (Prod Nat (List Value))))))/\True)/\ ∃x_5:ZWk,Hd (x_5.n=0/\wP (2:Int) x_5.t x_5.b 0 x_5.s x_5.q)/\(0=0/\(x_5.t:Int)=0/\Uj x_5.s s.s/\True)/\(ownM x_5.s.a.os=ownM a.os/\True)/\ ∀y_4:ZKs,Hd (x_5.q 0 y_4)->I64 ((s.k:Int)+1)/\
 ∃s_2:ZEq,Hd (@ak5 x s_2)/\60-s_2.k<60-s.k/\((s_2.k:Int)=(s.k:Int)+1/\(s_2.n:Int)=(s.n:Int)-1/\True)/\Uj s_2.s y_4/\GI x/\ownM s_2.s.a.os=ownM y_4.a.os/\True))/\True) (Zh s x)) (Zh s x)) (akY s x)) (akY s x))/\True)))
theorem Uk(x:aeT):GK x=wpF Tryz.prog apR tt (apQ x) 200 6 9 [i64 x.many,.lit (.string x.key),.lit (.string x.v)] (hO 0 []) (λv h'=>endP 0 (boo true) [] v h'):=by kernel_rfl
theorem Zj(x:apN)(hx:1<=x.m/\x.m<=1000):akZ x:=by
 have e:IntKind.wrap .u64 (x.m:Int)=x.m:=iC (by omega) (by omega);have hz:=u64_nonneg x.z;unfold akZ;simp only[aZ,aV,aU,aA,aI,bQ,bF,aO,aK,ay,aX,aW,bT,bG,bH,bI,bU,bC,bJ,bn,eH,aH,aN,ah,ak,aB,aF,aC,aG,e];have h1:Int.tmod (IntKind.wrap .u64 x.z) (x.m:Int)=IntKind.wrap .u64 x.z%(x.m:Int):=Int.tmod_eq_emod_of_nonneg hz;have h2:=Int.emod_nonneg (IntKind.wrap .u64 x.z) (show(x.m:Int)≠0 by omega);have h3:=Int.emod_lt_of_pos (IntKind.wrap .u64 x.z) (show 0<(x.m:Int) by omega);rw[h1];exact⟨by omega,by unfold I64;omega,by unfold BZ;omega⟩
theorem asP(z:Int){m:Nat}(h:1<=m):BZ z m<m:=by
 have h2:=Int.emod_nonneg (IntKind.wrap .u64 z) (show(m:Int)≠0 by omega);have h3:=Int.emod_lt_of_pos (IntKind.wrap .u64 z) (show 0<(m:Int) by omega);unfold BZ;omega
theorem asQ:bY Tryz.prog 14 lowD:=dL dD mixed .nil noA 200 6 (λ_=>rfl) (λ_=>rfl) λx hx=>Eq.mp (ak0 x) (Zj x (aZ.1 hx))
theorem Zk(a:ZSto):ak1 a:=by
 unfold ak1;simp only[OT];simp only[aZ,aV,aU,aA,aI,bQ,bF,aO,aK,ay,aX,aW,bT,bG,bH,bI,bU,bC,bJ,bn,eH,aH,aN,ah,ak,aB,aF,aC,aG];exact⟨by decide,by decide,rfl⟩
theorem asR:bY Tryz.prog 26 au4.ctr:=cO dD mixed .nil 11 noA 200 6 (λ_=>⟨rfl,rfl,rfl,rfl⟩) λx _=>Eq.mp (ak2 x) (Zk x)
theorem ak3:dY Tryz.prog apR:= .append Ua (.cons (bM aeJ) (.cons (bM asQ) (.cons Fj (.cons aeL (.cons akV (.cons (bM akN) (.cons (bM aoG) (.cons (bM asR) (.cons (bM aaA) (.cons aoI (.cons (bM akK) .nil)))))))))))
set_option maxRecDepth 20000 in
theorem Ib(x:aeT):GK x:=by
 unfold GK;simp only[OU,iY,GI,OV,Zi,Zg,Uj,Zh,akY,OQ,Zd,Ze,Zf,GH,abL,OT];simp only[aZ,aV,aU,aA,aI,bQ,bF,aO,aK,ay,aX,aW,bT,bG,bH,bI,bU,bC,bJ,bn,eH,aH,aN,ah,ak,aB,aF,aC,aG];refine bf (λ_=>trivial) λhk=>bf (λ_=>trivial) λhk0=>bf (λ_=>trivial) λhv=> ?_
 have hk:x.key.size<=16:=by have:=aT hk;omega
 have hv:x.v.size<=400:=by have:=aT hv;omega
 have k0:x.key.size≠0:=λe=>by
  have:(x.key.toList==(⟨#[]⟩:ByteArray).toList)=true:=by
   rw[show x.key=⟨#[]⟩ from ByteArray.ext (Array.eq_empty_of_size_eq_zero e)];exact beq_self_eq_true _
  rw[this]at hk0;cases hk0
 obtain⟨z1,z2,z3,z4,z5⟩:=apO hk hv;have h7:BZ x.many 7<7:=asP _ (by decide);refine⟨⟨26,1⟩,by decide,⟨rfl,rfl⟩,λd hd=>⟨⟨x.many,7⟩,⟨by show 1<=7;decide,by show 7<=1000;decide⟩,⟨rfl,rfl⟩,⟨⟨⟨newSto 26 1 d,fK x.key x.v,0⟩,BZ x.many 7,0,5+eps x.key x.v+2*BZ x.many 7⟩,⟨aY _,.inl ⟨⟨eu.new hd (by decide) (by decide) _,rfl,?_,λ_=>rfl,rfl,rfl,k0,hk,hv,rfl,rfl,rfl⟩,.inl ⟨rfl,rfl,rfl,rfl,rfl⟩⟩,by show 0+(5+eps x.key x.v+2*BZ x.many 7)<=59;omega⟩,⟨rfl,rfl⟩,?_,rfl⟩,λs hs=> ?_⟩⟩
 ·show(0:Int)+1=((1+BZ x.many 7-BZ x.many 7:Nat):Int)
  omega
 ·repeat' (first|exact rfl|refine And.intro ?_ ?_)
 ·obtain⟨hn,h,hk2⟩:=hs
  have nxt: ∀(y:ZKs) (n:Nat) (nw:Int),n<=BZ x.many 7->nw=((1+BZ x.many 7-n:Nat):Int)->s.s.ph≠7->KEp x.key x.v nw n (40*s.k+30) y (s.r-1)->I64 ((s.k:Int)+1)/\ak5 x ⟨y,n,s.k+1,s.r-1⟩/\60-(s.k+1)<60-s.k:=λy n nw h1 h2 h3 h4=>by
   have:=h.pos h3;subst h2;exact⟨by unfold I64;omega,⟨h1,h4.upTo (by show _<=40*(s.k+1)+10;omega),by show s.k+1+(s.r-1)<=59;omega⟩,by omega⟩
  refine bf (λhk3=>bf (λhp7=> ?_) λhp7=> ?_) λhk3=>absurd (aT hk3) (by omega)
  ·have hp7:=bne_iff_ne.1 hp7
   have go:(s.s.ph=5->s.n=0)->wP 2 0 zBk 0 s.s (λ_ y=>KEp x.key x.v ((1+BZ x.many 7-s.n:Nat):Int) s.n (40*s.k+10+20) y (s.r-1)):=λhz=>h.next (by omega) hz hp7
   refine bf (λh5=>bf (λhn0=> ?_) λhn0=> ?_) λh5=> ?_
   ·have h5:=beq_iff_eq.1 h5
    have hn0:0<s.n:=by have:=aS hn0;omega
    obtain⟨n',hn'⟩: ∃n',s.n=n'+1:=⟨s.n-1,by omega⟩;rw[hn']at h;obtain⟨base,hno,hnw,hcl⟩:=h.closed (by omega) h5;have hM:40*s.k+10<=1000000:=by omega
    refine⟨by unfold I64;omega,s.s.a,rfl,s.s.a.c,⟨base.cok,base.jJ⟩,by rw[show s.s.a.ck=⟨s.s.a.c,0⟩ from by unfold ZSto.ck;rw[base.ph]];rfl,⟨s.s.a.c,s.s.a.d,0⟩,⟨⟨s.s.a.c.start,s.s.a.d,1,0⟩,⟨Nat.zero_le _,base.begin hM (by rw[Uh hno];exact Nat.zero_le _)⟩,rfl,rfl,rfl⟩,λs1 hs1=>bf (λhj=> ?_) λhj=> ?_⟩
    ·have hj:s1.j<10:=by have:=aS hj;omega
     exact⟨⟨s1.c,s1.d,s1.ph,_⟩,base.closing hM (by omega) hs1.2,⟨rfl,rfl⟩,λy hy=>⟨by unfold I64;omega,⟨y.c,y.d,y.ph,s1.j+1⟩,⟨hj,hy⟩,by show 10-(s1.j+1)<_;omega,by show((s1.j+1:Nat):Int)=_;omega,rfl,rfl⟩⟩
    ·have hj:s1.j=10:=by have:=aT hj;have:=hs1.1;omega
     have hcs:=hs1.2;rw[hj]at hcs;obtain⟨hp0,hw⟩:=hcl _ _ _ hcs;refine⟨s.s.a.aoH s1.c s1.d,⟨rfl,rfl,rfl,rfl,by rw[hp0];show dA.abs (ownM (s1.c.os 0))=dA.abs (ownM (ZCk.os ⟨s1.c,s.s.a.ph⟩));rw[base.ph];rfl,rfl,rfl,rfl,rfl,rfl⟩,⟨⟨s.s.a.aoH s1.c s1.d,s.s.f,5⟩,0,zBk,0,_⟩,⟨rfl,hw⟩,?_,rfl,λy hy=> ?_⟩
     ·exact⟨rfl,rfl,rfl,rfl,h5.symm,(by repeat' (first|exact rfl|refine And.intro ?_ ?_))⟩
     ·obtain⟨i1,i2,i3⟩:=nxt y n' _ (by omega) (by omega) hp7 hy
      exact⟨i1,_,i2,i3,⟨by show((s.k+1:Nat):Int)=_;omega,by show((n':Nat):Int)=_;omega⟩,(by repeat' (first|exact rfl|refine And.intro ?_ ?_)),rfl⟩
   ·have hn0:s.n=0:=by have:=aT hn0;omega
    refine⟨⟨s.s,0,zBk,0,_⟩,⟨rfl,go λ_=>hn0⟩,(by repeat' (first|exact rfl|refine And.intro ?_ ?_)),rfl,λy hy=> ?_⟩;obtain⟨i1,i2,i3⟩:=nxt y s.n _ hn rfl hp7 hy;exact⟨i1,_,i2,i3,⟨by show((s.k+1:Nat):Int)=_;omega,rfl⟩,(by repeat' (first|exact rfl|refine And.intro ?_ ?_)),rfl⟩
   ·have h5:=beq_eq_false_iff_ne.1 h5
    refine⟨⟨s.s,0,zBk,0,_⟩,⟨rfl,go λe=>absurd e h5⟩,(by repeat' (first|exact rfl|refine And.intro ?_ ?_)),rfl,λy hy=> ?_⟩;obtain⟨i1,i2,i3⟩:=nxt y s.n _ hn rfl hp7 hy;exact⟨i1,_,i2,i3,⟨by show((s.k+1:Nat):Int)=_;omega,rfl⟩,(by repeat' (first|exact rfl|refine And.intro ?_ ?_)),rfl⟩
  ·have hp7:s.s.ph=7:=by simpa using hp7
   rcases h with ⟨_,h⟩|⟨hn0,J⟩
   ·exfalso
    rcases h with ⟨e,_⟩|⟨e,_⟩|⟨e,_⟩|⟨e,_⟩|⟨e,_⟩|⟨e,_⟩<;>omega
   obtain⟨⟨B,base⟩,j1,j2,j3,j4,j5,j6,_⟩:=J;have wr:IntKind.wrap .u64 (1+(BZ x.many 7:Nat):Int)=1+(BZ x.many 7:Nat):=iC (by omega) (by omega);have nw:((1+BZ x.many 7-s.n:Nat):Int)=1+(BZ x.many 7:Nat):=by omega
   have pool:(s.s.a.p.cntI s.s.a.p.n:Int)=1:=by
    rw[j6];show((((dV 3 3).take (epc x.key x.v) 0 0).cntI 3:Nat):Int)=1
    have e0:((dV 3 3).take (epc x.key x.v) 0 0).gZ 0 (((dV 3 3).take (epc x.key x.v) 0 0).qU 0)=1:=abK (λj=>by
     show(if 0=0/\j=0 then true else false)=decide (j=0);by_cases e:j=0
     ·rw[if_pos ⟨rfl,e⟩,decide_eq_true e]
     ·rw[if_neg (λh=>e h.2),decide_eq_false e]) _ (akW (by rw[show((dV 3 3).take (epc x.key x.v) 0 0).cls 0=epc x.key x.v from rfl];exact⟨z4,z5⟩))
    have e1:((dV 3 3).take (epc x.key x.v) 0 0).qU 1=0:=Ui rfl;have e2:((dV 3 3).take (epc x.key x.v) 0 0).qU 2=0:=Ui rfl;unfold ZPool.cntI ZPool.cntI ZPool.cntI ZPool.cntI;rw[e0,e1,e2];rfl
   refine⟨s.s.a,by rw[apP _ j1],bf (λ_=>bf (λ_=>bf (λ_=>⟨by decide,by decide,bf (λ_=>⟨⟨x.many,7⟩,⟨by show 1<=7;decide,by show 7<=1000;decide⟩,⟨rfl,rfl⟩,by unfold I64;show _/\_;(have:(BZ (apN.mk x.many 7).z (apN.mk x.many 7).m)=BZ x.many 7:=rfl);omega,bf (λ_=>⟨s.s.a,by rw[apP _ j1],s.s.a.c,base.cok,by rw[show s.s.a.ck=⟨s.s.a.c,0⟩ from by unfold ZSto.ck;rw[base.ph]];rfl,bf (λ_=>⟨s.s.a.p,base.pg.1,(am7 _).symm,λ_ _=>bf (λ_=>trivial) λe=> ?_⟩) λe=> ?_⟩) λe=> ?_⟩) λe=> ?_⟩) λe=> ?_) λe=> ?_) λe=> ?_⟩
   ·rw[pool]at e;cases e
   ·have e:(s.s.a.c.now==s.s.f.aep)=false:=e
    rw[j3,j5,beq_self_eq_true]at e;cases e
   ·have e:(s.s.f.aep==IntKind.wrap .u64 (1+(BZ x.many 7:Nat):Int))=false:=e
    rw[wr,j5,nw,beq_self_eq_true]at e;cases e
   ·have e:((s.s.a.e 0).epoch==s.s.f.aep)=false:=e
    rw[j2,j5,beq_self_eq_true]at e;cases e
   ·rw[hn0]at e;cases e
   ·rw[j4]at e;cases e
   ·rw[hp7]at e;cases e
theorem aeM(x:aeT):Sp Tryz.prog 9 [i64 x.many,.lit (.string x.key),.lit (.string x.v)] (hO 0 []) (λv _=>v=boo true):=
 (atH dD mixed ak3 (apQ x) 200 6 (v0:=boo true) (os:=[]) (Eq.mp (Uk x) (Ib x))).mono λ_ _ hh=>hh.1
end Go.Proofs.YtenfleoejgjklaaGreat
end
