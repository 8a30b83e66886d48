import Derived.Test.YtenfleoejgjklaaGreatXa
import Derived.Test.YtenfleoejgjklaaGreatXb
import Derived.Test.YtenfleoejgjklaaGreatXc
import Derived.Test.YtenfleoejgjklaaGreatXd
import Derived.Test.YtenfleoejgjklaaGreatRows
import Derived.KernelRfl
set_option linter.unusedVariables false
set_option linter.unusedSimpArgs false
set_option linter.unnecessarySimpa false
section
namespace Go.Proofs.YtenfleoejgjklaaGreat
open Go SE
noncomputable def tt:TT:=asa Tryz.prog
theorem dD:tt.ok Tryz.prog:=λ_ _ h=>h
set_option maxRecDepth 20000
theorem mixed:Tryz.prog.follows .mixedOrders=true:=by kernel_rfl
def i64(n:Int):AV:= .lit (.int .i64 n)
end Go.Proofs.YtenfleoejgjklaaGreat
end
section
namespace Go.Proofs.YtenfleoejgjklaaGreat
open Go SE
def x32(a b:Int):Int:=IntKind.u32.wrap ((BitVec.ofInt 32 a^^^BitVec.ofInt 32 b).toNat:Nat)
def asO(c:Int):Int:=bif decide (c%2=0)then c/2 else x32 (c/2) 3988292384
def uY(c:Int):Nat->Int
 |0=>c
 |k+1=>asO (uY c k)
def stepM(c x:Int):Int:=uY (x32 c x) 8
def DR(s:ByteArray):Nat->Int
 |0=>4294967295
 |i+1=>stepM (DR s i) (dY s i)
noncomputable def oG(s:ByteArray):Int:=hide (x32 (DR s s.size) 4294967295)
theorem Za(s:ByteArray):oG s=x32 (DR s s.size) 4294967295:=gW _
def U32(c:Int):Prop:=0<=c/\c<4294967296
theorem wrap_u32(z:Int):U32 (IntKind.u32.wrap z):=by
 unfold IntKind.wrap U32;simp[IntKind.bits,IntKind.signed];omega
theorem DT{z:Int}(h:U32 z):IntKind.u32.wrap z=z:=by
 unfold IntKind.wrap U32 at*
 simp[IntKind.bits,IntKind.signed];omega
theorem Ue(a b:Int):U32 (x32 a b):=wrap_u32 _
theorem asP{c:Int}(h:U32 c):U32 (asO c):=by
 unfold asO;cases decide (c%2=0)
 ·exact Ue _ _
 ·unfold U32 at*;simp only[aP];omega
theorem JB{c:Int}(h:U32 c): ∀k,U32 (uY c k)
 |0=>h
 |k+1=>asP (JB h k)
theorem apR(s:ByteArray): ∀i,U32 (DR s i)
 |0=>by unfold DR U32;omega
 |i+1=>JB (Ue _ _) 8
theorem apS(s:ByteArray):U32 (oG s):=by rw[Za];exact Ue _ _
theorem alb(s:ByteArray)(k:Nat):0<=dY s k/\dY s k<256:=by
 unfold dY;have:=(s.data.toList.getD k 0).toNat_lt;omega
def u32(c:Int):AV:= .lit (.int .u32 c)
def O8:Ctr:=det (Int×Int) (λp=>[u32 p.1,.lit (.int .u8 p.2)]) 0 (λ_=>[]) (λp=>U32 p.1/\0<=p.2/\p.2<256) (λp=>u32 (stepM p.1 p.2)) 0 (λ_=>[])
def an8(p:Int×Int):FuncId->pX:=λf=>
 bif Nat.beq f 216 then(λb fr h=>bif Nat.beq b 0 then [{σ:=Nat,fr:=λk=>[(5,i64 k),(0,u32 (uY (x32 p.1 p.2) k))],ob:=λ_=>[],inv:=λk=>k<=8,meas:=λk=>8-k}]else [])else
 λ_ _ _=>[]
def strV(s:ByteArray):AV:= .lit (.string s)
noncomputable def Uf:Ctr:=det ByteArray (λs=>[strV s]) 0 (λ_=>[]) (λs=>s.size<1099511627776) (λs=>u32 (oG s)) 0 (λ_=>[])
def an9(s:ByteArray):FuncId->pX:=λf=>
 bif Nat.beq f 232 then(λb fr h=>bif Nat.beq b 0 then [{σ:=Nat,fr:=λi=>[(7,i64 i),(3,u32 (DR s i))],ob:=λ_=>[],inv:=λi=>i<=s.size,meas:=λi=>s.size-i}]else [])else
 λ_ _ _=>[]
def afB(p:Int×Int):Prop:=
 (∃s:Nat,s<=8/\True/\((s:Int)=0/\uY (x32 p.1 p.2) s=IntKind.wrap .u32 ((@BitVec.toNat 32 (@HXor.hXor (@BitVec 32) (@BitVec 32) (@BitVec 32) (@instHXorOfXorOp (@BitVec 32) (@BitVec.instXorOp 32)) (@BitVec.ofInt 32 p.1) (@BitVec.ofInt 32 (IntKind.wrap .u32 p.2))):Nat):Int)/\True)/\True)/\(∀s:Nat,s<=8->cP (decide ((s:Int)<8)) (I64 ((s:Int)+1)/\((2:Int)=0->False)/\cP (BEq.beq (Int.tmod (uY (x32 p.1 p.2) s) (2:Int)) (0:Int)) (((2:Int)=0->False)/\ ∃s_1:Nat,s_1<=8/\8-s_1<8-s/\((s_1:Int)=(s:Int)+1/\uY (x32 p.1 p.2) s_1=IntKind.wrap .u32 (Int.tdiv (uY (x32 p.1 p.2) s) (2:Int))/\True)/\True) (((2:Int)=0->False)/\ ∃s_1:Nat,s_1<=8/\8-s_1<8-s/\((s_1:Int)=(s:Int)+1/\uY (x32 p.1 p.2) s_1=IntKind.wrap .u32 ((@BitVec.toNat 32 (@HXor.hXor (@BitVec 32) (@BitVec 32) (@BitVec 32) (@instHXorOfXorOp (@BitVec 32) (@BitVec.instXorOp 32)) (@BitVec.ofInt 32 (IntKind.wrap .u32 (Int.tdiv (uY (x32 p.1 p.2) s) (2:Int)))) (@BitVec.ofInt 32 (3988292384:Int))):Nat):Int)/\True)/\True)) (∃y:Unit,True/\stepM p.1 p.2=uY (x32 p.1 p.2) s/\True))/\True
theorem afC(p:Int×Int):afB p=wpF Tryz.prog [] tt (an8 p) 200 5 216 (O8.args p) (hO O8.k (O8.os p)) (λv h'=>eF O8.k p v h' O8.outs):=by kernel_rfl
def afD(s:ByteArray):Prop:=
 (∃s_1:Nat,s_1<=s.size/\True/\((s_1:Int)=0/\DR s s_1=4294967295/\True)/\True)/\(∀s_1:Nat,s_1<=s.size->cP (decide ((s_1:Int)<(s.size:Int))) ((0<=(s_1:Int)/\(s_1:Int)<(s.size:Int))/\ ∃x:Prod Int Int,((0<=x.1/\x.1<4294967296)/\0<=x.2/\x.2<256)/\(x.1=DR s s_1/\x.2=dY s s_1/\True)/\True/\ ∀y:Unit,True->I64 ((s_1:Int)+1)/\ ∃s_2:Nat,s_2<=s.size/\s.size-s_2<s.size-s_1/\((s_2:Int)=(s_1:Int)+1/\DR s s_2=stepM x.1 x.2/\True)/\True) (∃y:Unit,True/\oG s=IntKind.wrap .u32 ((@BitVec.toNat 32 (@HXor.hXor (@BitVec 32) (@BitVec 32) (@BitVec 32) (@instHXorOfXorOp (@BitVec 32) (@BitVec.instXorOp 32)) (@BitVec.ofInt 32 (DR s s_1)) (@BitVec.ofInt 32 (4294967295:Int))):Nat):Int)/\True))/\True
theorem afE(s:ByteArray):afD s=wpF Tryz.prog [(216,ctrT O8)] tt (an9 s) 200 5 232 (Uf.args s) (hO Uf.k (Uf.os s)) (λv h'=>eF Uf.k s v h' Uf.outs):=by kernel_rfl
theorem half{c:Int}(h:U32 c):Int.tmod c 2=c%2/\IntKind.u32.wrap (Int.tdiv c 2)=c/2:=by
 have e:Int.tdiv c 2=c/2:=Int.tdiv_eq_ediv_of_nonneg h.1;refine⟨Int.tmod_eq_emod_of_nonneg h.1,?_⟩;rw[e];exact DT (by unfold U32 at*;omega)
theorem Ug(p:Int×Int)(hp:U32 p.1/\0<=p.2/\p.2<256):afB p:=by
 unfold afB;have hw:IntKind.u32.wrap p.2=p.2:=DT (by unfold U32;omega);have hx: ∀a b,IntKind.u32.wrap ((BitVec.ofInt 32 a^^^BitVec.ofInt 32 b).toNat:Nat)=x32 a b:=λ_ _=>rfl
 simp only[aV,aU,hw,hx];refine⟨⟨0,by omega,rfl,rfl⟩,λs hs=>bf (λhb=> ?_) (λhb=> ?_)⟩
 ·have hb:=aS hb
  obtain⟨h1,h2⟩:=half (JB (Ue p.1 p.2) s);rw[h1,h2];refine⟨by unfold I64;omega,by omega,bf (λhc=> ?_) (λhc=> ?_)⟩
  ·have hc:uY (x32 p.1 p.2) s%2=0:=by simpa using hc
   exact⟨by omega,s+1,by omega,by omega,rfl,by simp[uY,asO,hc]⟩
  ·have hc:uY (x32 p.1 p.2) s%2≠0:=by simpa using hc
   exact⟨by omega,s+1,by omega,by omega,rfl,by simp only[uY,asO,hc,decide_false,aQ]⟩
 ·have:s=8:=by have:=aT hb;omega
  subst this;exact⟨(),rfl⟩
theorem step_ok:bZ Tryz.prog 216 O8:=dM dD mixed dX.nil an8 200 5 (λ_=>rfl) (λ_=>rfl) λx hx=>Eq.mp (afC x) (Ug x hx)
theorem Uh(s:ByteArray)(hs:s.size<1099511627776):afD s:=by
 unfold afD;simp only[aV,aU];refine⟨⟨0,by omega,rfl,rfl⟩,λi hi=>bf (λhb=> ?_) (λhb=> ?_)⟩
 ·have hb:=aS hb
  refine⟨⟨by omega,by omega⟩,(DR s i,dY s i),⟨apR s i,alb s i⟩,⟨rfl,rfl⟩,λ_ _=>⟨by unfold I64;omega,i+1,by omega,by omega,rfl,rfl⟩⟩
 ·have:i=s.size:=by have:=aT hb;omega
  subst this;exact⟨(),Za s⟩
theorem apT:bZ Tryz.prog 232 Uf:=dM dD mixed (.cons (bM step_ok) .nil) an9 200 5 (λ_=>rfl) (λ_=>rfl) λx hx=>Eq.mp (afE x) (Uh x hx)
theorem bU(g:Nat->List Value)(q:Nat):Cs.eff g [] q=g q:=rfl
theorem eG(q:Nat):Nat.ble 0 q=true:=by simp
theorem bT(a b:Nat):Nat.blt a b=decide (a<b):=by
 by_cases h:a<b
 ·rw[bg.2 h];simp[h]
 ·have:Nat.blt a b=false:=by
   cases hb:Nat.blt a b with
   |false=>rfl
   |true=>exact absurd (bg.1 hb) h
  rw[this];simp[h]
theorem dw(a b:Nat):Nat.ble a b=decide (a<=b):=by
 by_cases h:a<=b
 ·rw[show Nat.ble a b=true by simpa using h];simp[h]
 ·have:Nat.ble a b=false:=by
   cases hb:Nat.ble a b with
   |false=>rfl
   |true=>exact absurd (by simpa using hb) h
  rw[this];simp[h]
theorem dI{α:Type}{p:Prop} [Decidable p]{x y:α}:(bif decide p then x else y)=if p then x else y:=by by_cases h:p<;>simp[h]
theorem dA(a b:Nat):Nat.beq a b=decide (a=b):=by
 by_cases h:a=b
 ·subst h;simp
 ·rw[eU h];simp[h]
theorem bG{b:Bool}{x y:Value}:(bif b then [x]else [y])=[bif b then x else y]:=by cases b<;>rfl
theorem bH{b:Bool}{k:IntKind}{x y:Int}:(bif b then Value.int k x else Value.int k y)= .int k (bif b then x else y):=by cases b<;>rfl
theorem bn{b:Bool}{x y:Bool}:(bif b then Value.bool x else Value.bool y)= .bool (bif b then x else y):=by cases b<;>rfl
theorem bI{k:IntKind}{x:Int}:([Value.int k x].length.beq 1&&[Value.int k x].all Value.oneCell')=true:=rfl
theorem bC{x:Bool}:([Value.bool x].length.beq 1&&[Value.bool x].all Value.oneCell')=true:=rfl
theorem bV{k:IntKind}{x y:Int}:([Value.int k x]=[Value.int k y])=(x=y):=by simp
theorem bJ{x y:Bool}:([Value.bool x]=[Value.bool y])=(x=y):=by simp
def u8(n:Int):AV:= .lit (.int .u8 n)
def u64(n:Int):AV:= .lit (.int .u64 n)
def rowB(g:Nat->Int)(n:Nat):Cs:= .row 1 n (λk=>[.int .u8 (g k)]) []
structure Bys where
 g:Nat->Int
 q:Nat
 n:Nat
 N:Nat
namespace Bys
def ok(b:Bys):Prop:=b.q+b.n<=b.N/\b.n<1099511627776/\ ∀k,0<=b.g k/\b.g k<256
def ro(b:Bys):dB:= .ro (rowB b.g b.N)
def av(b:Bys)(i:Nat):AV:= .slR i b.q 1 b.n
end Bys
def Bv(c:Int)(g:Nat->Int):Nat->Int
 |0=>c
 |i+1=>stepM (Bv c g i) (g i)
noncomputable def nM(c:Int)(g:Nat->Int)(n:Nat):Int:=hide (x32 (Bv (x32 c 4294967295) g n) 4294967295)
theorem apU{c:Int}(h:U32 c)(g:Nat->Int): ∀n,U32 (Bv c g n)
 |0=>h
 |n+1=>JB (Ue _ _) 8
theorem Zb(c:Int)(g:Nat->Int)(n:Nat):U32 (nM c g n):=by unfold nM;rw[gW];exact Ue _ _
structure apV where
 c:Int
 b:Bys
noncomputable def aoa:Ctr:=det apV (λx=>[u32 x.c,x.b.av 0]) 1 (λx=>[x.b.ro]) (λx=>Hd (U32 x.c/\x.b.ok)) (λx=>u32 (nM x.c (λk=>x.b.g (x.b.q+k)) x.b.n)) 1 (λx=>[x.b.ro])
def asQ(x:apV):FuncId->pX:=λf=>
 bif Nat.beq f 170 then(λb fr h=>bif Nat.beq b 0 then [{σ:=Nat,fr:=λk=>[(11,i64 k),(0,u32 (Bv (x32 x.c 4294967295) (λk=>x.b.g (x.b.q+k)) k))],ob:=λ_=>[],inv:=λk=>k<=x.b.n,meas:=λk=>x.b.n-k}]else [])else
 λ_ _ _=>[]
def pq(g:Nat->Int)(at_ w:Nat)(v:Int)(k:Nat):Int:=if at_<=k/\k<at_+w then v/256^(k-at_)%256 else g k
structure ug where
 b:Bys
 at_:Nat
 w:Nat
 v:Int
 c:Nat
def ug.ok(x:ug):Prop:=x.b.ok/\x.at_+x.w<=x.b.n/\1<=x.w/\x.w<=8/\0<=x.v/\x.v<256^x.w
def ug.res(x:ug):Nat->Int:=pq (λk=>x.b.g (x.b.q+k)) x.at_ x.w x.v
noncomputable def aob:Ctr:=det ug (λx=>[.slE 0 x.b.q 1 x.b.n x.c,i64 x.at_,i64 x.w,u64 x.v]) 1 (λx=>[x.b.ro]) (λx=>Hd x.ok) (λx=> .tup [.slW 1 0 1 x.b.n,i64 0]) 2 (λx=>[x.b.ro,.room 5 (rowB x.res x.b.n)])
def asR(x:ug):FuncId->pX:=λf=>
 bif Nat.beq f 215 then(λb fr h=>bif Nat.beq b 0 then [{σ:=Nat,fr:=λk=>[(32,i64 k)],ob:=λk=>[(1,none),(2,some (.room 5 (rowB (pq (λk=>x.b.g (x.b.q+k)) x.at_ k x.v) x.b.n)))],inv:=λk=>k<=x.w,meas:=λk=>x.w-k,nx:=0}]else [])else
 λ_ _ _=>[]
def xI(a:Bys):Prop:=rowB a.g a.N=rowB a.g a.N/\true=true
def apW(a:ug):Prop:=a.b.q+a.b.n<=a.b.N/\cP (Nat.beq a.b.n 0) ((∃s:Nat,s<=a.w/\True/\((s:Int)=0/\True)/\xI a.b/\True)/\(∀s:Nat,s<=a.w->cP (decide ((s:Int)<(a.w:Int))) (I64 ((a.at_:Int)+(s:Int))/\I64 (8*(s:Int))/\0<=8*(s:Int)/\(0<=(a.at_:Int)+(s:Int)/\(a.at_:Int)+(s:Int)<0)/\False) (∃y:Unit,True/\((a.b.n=0/\0=0/\0=0)/\(0:Int)=0/\True)/\xI a.b/\False/\True))/\True) ((2*(0+a.b.n)+1000)*1<=281474976710656/\(∃s:Nat,s<=a.w/\True/\((s:Int)=0/\True)/\(a.b.n=0+a.b.n/\ ∀q:Nat,q<a.b.n->[Value.int .u8 (pq (λ(k:Nat)=>a.b.g (a.b.q+k)) a.at_ s a.v q)]=[Value.int .u8 (a.b.g (a.b.q+(q-0)))])/\xI a.b/\True)/\(∀s:Nat,s<=a.w->cP (decide ((s:Int)<(a.w:Int))) (I64 ((a.at_:Int)+(s:Int))/\I64 (8*(s:Int))/\0<=8*(s:Int)/\(0<=(a.at_:Int)+(s:Int)/\(a.at_:Int)+(s:Int)<((0+a.b.n:Nat):Int))/\0+Int.toNat ((a.at_:Int)+(s:Int))<a.b.n/\I64 ((s:Int)+1)/\ ∃s_1:Nat,s_1<=a.w/\a.w-s_1<a.w-s/\((s_1:Int)=(s:Int)+1/\True)/\(a.b.n=a.b.n/\ ∀q:Nat,q<a.b.n->[Value.int .u8 (pq (λ(k:Nat)=>a.b.g (a.b.q+k)) a.at_ s_1 a.v q)]=Cs.eff (λ(k:Nat)=>[Value.int .u8 (pq (λ(k_1:Nat)=>a.b.g (a.b.q+k_1)) a.at_ s a.v k)]) [(0+Int.toNat ((a.at_:Int)+(s:Int)),[Value.int .u8 (IntKind.wrap .u8 (Int.fdiv a.v (@HPow.hPow Int Nat Int (@instHPow Int Nat (@instPowNat Int @Int.instNatPow)) (2:Int) (@Min.min Nat @instMinNat (Int.toNat (8*(s:Int))) 64))))])] q)/\xI a.b/\True) (∃y:Unit,True/\((0=0/\a.b.n=0+a.b.n)/\(0:Int)=0/\True)/\xI a.b/\(a.b.n=a.b.n/\
 ∀q:Nat,q<a.b.n->[Value.int .u8 (a.res q)]=[Value.int .u8 (pq (λ(k:Nat)=>a.b.g (a.b.q+k)) a.at_ s a.v q)])/\True))/\True)
def apX(x:apV):Prop:=
 (∃s:Nat,s<=x.b.n/\True/\((s:Int)=0/\Bv (x32 x.c (4294967295:Int)) (λ(k:Nat)=>x.b.g (x.b.q+k)) s=IntKind.wrap .u32 ((@BitVec.toNat 32 (@HXor.hXor (@BitVec 32) (@BitVec 32) (@BitVec 32) (@instHXorOfXorOp (@BitVec 32) (@BitVec.instXorOp 32)) (@BitVec.ofInt 32 x.c) (@BitVec.ofInt 32 (4294967295:Int))):Nat):Int)/\True)/\xI x.b/\True)/\(∀s:Nat,s<=x.b.n->cP (decide ((s:Int)<(x.b.n:Int))) ((0<=(s:Int)/\(s:Int)<(x.b.n:Int))/\x.b.q+s<x.b.N/\ ∃x_1:Prod Int Int,((0<=x_1.1/\x_1.1<4294967296)/\0<=x_1.2/\x_1.2<256)/\(x_1.1=Bv (x32 x.c (4294967295:Int)) (λ(k:Nat)=>x.b.g (x.b.q+k)) s/\x_1.2=x.b.g (x.b.q+s)/\True)/\True/\ ∀y:Unit,True->I64 ((s:Int)+1)/\ ∃s_1:Nat,s_1<=x.b.n/\x.b.n-s_1<x.b.n-s/\((s_1:Int)=(s:Int)+1/\Bv (x32 x.c (4294967295:Int)) (λ(k:Nat)=>x.b.g (x.b.q+k)) s_1=stepM x_1.1 x_1.2/\True)/\xI x.b/\True) (∃y:Unit,True/\nM x.c (λ(k:Nat)=>x.b.g (x.b.q+k)) x.b.n=IntKind.wrap .u32 ((@BitVec.toNat 32 (@HXor.hXor (@BitVec 32) (@BitVec 32) (@BitVec 32) (@instHXorOfXorOp (@BitVec 32) (@BitVec.instXorOp 32)) (@BitVec.ofInt 32 (Bv (x32 x.c (4294967295:Int)) (λ(k:Nat)=>x.b.g (x.b.q+k)) s)) (@BitVec.ofInt 32 (4294967295:Int))):Nat):Int)/\xI x.b/\True))/\True
theorem alc(x:apV):apX x=wpF Tryz.prog [(216,ctrT O8)] tt (asQ x) 200 5 170 (aoa.args x) (hO aoa.k (aoa.os x)) (λv h'=>eF aoa.k x v h' aoa.outs):=by kernel_rfl
def apY(x:ug):Prop:=
 cP (decide ((x.w:Int)<1)) (∃y:Unit,True/\(False/\(0:Int)=1/\True)/\xI x.b/\False/\True) (cP (decide ((x.w:Int)>(8:Int))) (∃y:Unit,True/\(False/\(0:Int)=1/\True)/\xI x.b/\False/\True) (I64 ((x.b.n:Int)-(x.w:Int))/\cP (decide ((x.at_:Int)>(x.b.n:Int)-(x.w:Int))) (∃y:Unit,True/\(False/\(0:Int)=2/\True)/\xI x.b/\False/\True) (cP (decide ((x.w:Int)<8)) (I64 (8*(x.w:Int))/\0<=8*(x.w:Int)/\cP (bne (Int.fdiv x.v (@HPow.hPow Int Nat Int (@instHPow Int Nat (@instPowNat Int @Int.instNatPow)) (2:Int) (@Min.min Nat @instMinNat (Int.toNat (8*(x.w:Int))) 64))) (0:Int)) (∃y:Unit,True/\(False/\(0:Int)=11/\True)/\xI x.b/\False/\True) (apW x)) (apW x))))
theorem ald(x:ug):apY x=wpF Tryz.prog [] tt (asR x) 200 5 215 (aob.args x) (hO aob.k (aob.os x)) (λv h'=>eF aob.k x v h' aob.outs):=by kernel_rfl
theorem abt(x:apV)(hx:U32 x.c/\x.b.ok):apX x:=by
 obtain⟨hc,h1,h2,h3⟩:=hx;unfold apX;simp only[xI];have hw: ∀a b,IntKind.u32.wrap ((BitVec.ofInt 32 a^^^BitVec.ofInt 32 b).toNat:Nat)=x32 a b:=λ_ _=>rfl
 simp only[aZ,aV,aU,aA,aI,bQ,bF,aO,aK,ay,aX,aW,hw];refine⟨⟨0,by omega,rfl,rfl⟩,λs hs=>bf (λhb=> ?_) (λhb=> ?_)⟩
 ·have hb:=aS hb
  refine⟨⟨by omega,by omega⟩,by omega,(Bv (x32 x.c 4294967295) (λk=>x.b.g (x.b.q+k)) s,x.b.g (x.b.q+s)),⟨apU (Ue _ _) _ s,h3 _⟩,⟨rfl,rfl⟩,by unfold I64;omega,s+1,by omega,by omega,by omega,rfl⟩
 ·have:s=x.b.n:=by have:=aT hb;omega
  subst this;unfold nM;rw[gW]
theorem DU{c:Int}{g g':Nat->Int}: ∀{n:Nat},(∀k,k<n->g k=g' k)->Bv c g n=Bv c g' n
 |0,_=>rfl
 |n+1,h=>by simp only[Bv];rw[DU (n:=n) λk hk=>h k (by omega),h n (by omega)]
theorem yX{c:Int}{g g':Nat->Int}{n:Nat}(h: ∀k,k<n->g k=g' k):nM c g n=nM c g' n:=by unfold nM;rw[gW,gW,DU h]
theorem aoc:bZ Tryz.prog 170 aoa:=dM dD mixed (.cons (bM step_ok) .nil) asQ 200 5 (λ_=>rfl) (λ_=>rfl) λx hx=>Eq.mp (alc x) (abt x (aZ.1 hx))
theorem Ui{s:Nat}(h:s<=8):(2:Int)^(min (((8:Int)*(s:Nat)).toNat) 64)=256^s:=by
 have e:((8:Int)*(s:Nat)).toNat=8*s:=by omega
 rw[e,Nat.min_eq_left (by omega)];rw[show(256:Int)=2^8 by rfl,<-Int.pow_mul]
theorem aod(z:Int):IntKind.u8.wrap z=z%256:=by
 unfold IntKind.wrap;simp[IntKind.bits,IntKind.signed]
theorem afF(g:Nat->Int)(a s:Nat)(v:Int)(q:Nat):pq g a (s+1) v q=if q=a+s then v/256^s%256 else pq g a s v q:=by
 unfold pq;by_cases h:q=a+s
 ·subst h;simp
 ·rw[if_neg h]
  by_cases h2:a<=q/\q<a+s
  ·rw[if_pos h2,if_pos (by omega)]
  ·rw[if_neg h2,if_neg (by omega)]
theorem abu(x:ug)(hx:x.ok):apY x:=by
 obtain⟨⟨h1,h2,h3⟩,h4,h5,h6,h7,h8⟩:=hx;have z0: ∀(g:Nat->Int) a v q,pq g a 0 v q=g q:=λg a v q=>by unfold pq;rw[if_neg (by omega)]
 have key: ∀s:Nat,s<x.w-> ∀q,[Value.int .u8 (pq (λk=>x.b.g (x.b.q+k)) x.at_ (s+1) x.v q)]=Cs.eff (λk=>[Value.int .u8 (pq (λk=>x.b.g (x.b.q+k)) x.at_ s x.v k)]) [((((x.at_:Int)+(s:Int)).toNat),[Value.int .u8 (IntKind.u8.wrap (Int.fdiv x.v (2^(min ((8*(s:Int)).toNat) 64))))])] q:=λs hs q=>by
  rw[Ui (by omega),aod,show((x.at_:Int)+(s:Int)).toNat=x.at_+s by omega,afF];simp only[Cs.eff];by_cases h:q=x.at_+s
  ·subst h
   have:Int.fdiv x.v (256^s)=x.v/256^s:=Int.fdiv_eq_ediv_of_nonneg _ (Int.le_of_lt (Int.pow_pos (by omega)));simp[this]
  ·simp[h,eU h]
 unfold apY;simp only[xI,apW];have hn:x.b.n≠0:=by omega
 simp only[aZ,aV,aU,aA,aI,bQ,bF,aO,aK,ay,aX,aW,z0];have i64: ∀z:Int,-9223372036854775808<=z->z<=9223372036854775807->I64 z:=λz a b=>⟨a,b⟩
 refine bf (λh=>absurd (aS h) (by omega)) λ_=>bf (λh=>absurd (aS h) (by omega)) λ_=>⟨i64 _ (by omega) (by omega),bf (λh=>absurd (aS h) (by omega)) λ_=>
  bf (λhb=>⟨i64 _ (by omega) (by omega),by omega,bf (λh=> ?_) (λ_=> ?_)⟩) (λ_=> ?_)⟩
 ·rw[Ui h6,show Int.fdiv x.v (256^x.w)=0 by rw[Int.fdiv_eq_ediv_of_nonneg _ (Int.le_of_lt (Int.pow_pos (by omega)))];exact Int.ediv_eq_zero_of_lt h7 h8]at h
  cases h
 all_goals
  refine⟨h1,bf (λh=>absurd (au h) hn) λ_=>⟨by omega,⟨0,by omega,rfl,λq _=>by rw[z0];rfl⟩,λs hs=>bf (λh=> ?_) (λh=> ?_)⟩⟩
  ·have h:=aS h
   exact⟨i64 _ (by omega) (by omega),i64 _ (by omega) (by omega),by omega,⟨by omega,by omega⟩,by omega,i64 _ (by omega) (by omega),s+1,by omega,by omega,by omega,λq _=>key s (by omega) q⟩
  ·have:s=x.w:=by have:=aT h;omega
   subst this;exactλq _=>rfl
theorem aoe:bZ Tryz.prog 215 aob:=dM dD mixed dX.nil asR 200 5 (λ_=>rfl) (λ_=>rfl) λx hx=>Eq.mp (ald x) (abu x (aZ.1 hx))
noncomputable def abv:Ctr:=det Bys (λb=>[b.av 0]) 1 (λb=>[b.ro]) (λb=>Hd b.ok) (λb=>u32 (nM 0 (λk=>b.g (b.q+k)) b.n)) 1 (λb=>[b.ro])
noncomputable def ale:WTr:=λargs h K=>match args with
 |[x]=>abo h x 1 λe=> ∃(n:Nat) (g:Nat->Int),e.len=n/\n<1099511627776/\(∀k,k<n->e.el k=[.int .u8 (g k)])/\(∀k,0<=g k/\g k<256)/\K (u32 (nM 0 g n)) h
 |_=>False
def isE:List AV->Bool
 | .slE .. ::_=>true
 |_=>false
def abw(v:Int)(k:Nat):Int:=if k=0 then 3 else v/256^(k-1)%256
noncomputable def mZ(v:Int)(k:Nat):Int:=if k<9 then abw v k else if k<13 then nM 0 (abw v) 9/256^(k-9)%256 else 0
noncomputable def DV:Ctr:=det Int (λv=>[u64 v]) 0 (λ_=>[]) (λv=>Hd (0<=v/\v<18446744073709551616)) (λ_=> .slE 0 0 1 64 64) 1 (λv=>[.cells 312 (rowB (mZ v) 64)])
noncomputable def tblK:jd:=[(171,ale),(215,orT isE (ctrT aob) (λargs h K=>wpF Tryz.prog [] tt (λ_ _ _ _=>[]) 200 5 215 args h K))]
def apZ(a:ug)(b:Nat):Prop:=(Nat.beq (List.length [Value.int .u8 (a.res (0+b))]) 1&&List.all [Value.int .u8 (a.res (0+b))] Value.oneCell')=true
def alf(a:ug):Prop:= ∀k:Nat,k<a.b.n->apZ a k
def alg(a:ug):Prop:= ∀k:Nat,k<64->apZ a k
def Gh:Prop:=0<=64/\64<=64/\64<=64
def ap0(a:ug)(b: ∀a:Nat,Int)(c:Nat):Prop:=(a.b.q=0/\a.b.n=64/\a.c=64)/\(a.at_:Int)=9/\(a.w:Int)=4/\a.v=IntKind.wrap .u64 (nM (0:Int) b c)/\True
def afG:Prop:=0=0/\64=64/\64=64
def afH(b:Bys):Prop:=
 ∃x:apV,Hd (U32 x.c/\x.b.ok)/\(x.c=0/\(x.b.q=b.q/\x.b.n=b.n)/\True)/\((x.b.N=b.N/\ ∀q:Nat,q<x.b.N->[Value.int .u8 (x.b.g q)]=[Value.int .u8 (b.g q)])/\True)/\ ∀y:Unit,True-> ∃y_1:Unit,True/\nM (0:Int) (λ(k:Nat)=>b.g (b.q+k)) b.n=nM x.c (λ(k:Nat)=>x.b.g (x.b.q+k)) x.b.n/\(rowB b.g b.N=rowB b.g b.N/\true=true)/\True
theorem afI(b:Bys):afH b=wpF Tryz.prog [(170,ctrT aoa)] tt (λ_ _ _ _=>[]) 200 5 171 (abv.args b) (hO abv.k (abv.os b)) (λv h'=>eF abv.k b v h' abv.outs):=by kernel_rfl
def Uj(x:Int):Prop:=
 ∃x_1:ug,Hd x_1.ok/\((x_1.b.q=0/\x_1.b.n=9/\x_1.c=9)/\(x_1.at_:Int)=1/\(x_1.w:Int)=8/\x_1.v=x/\True)/\((x_1.b.N=9/\ ∀q:Nat,q<x_1.b.N->[Value.int .u8 (x_1.b.g q)]=[List.getD [Value.int .u8 3,Value.int .u8 0,Value.int .u8 0,Value.int .u8 0,Value.int .u8 0,Value.int .u8 0,Value.int .u8 0,Value.int .u8 0,Value.int .u8 0] q (@Inhabited.default Value @instInhabitedValue)])/\True)/\ ∀y:Unit,True->Gh/\64<=64/\cP (Nat.ble x_1.b.n 64) (0+x_1.b.n<=x_1.b.n/\alf x_1/\Gh/\0+x_1.b.n<=x_1.b.n/\ ∃n:Nat,∃g: ∀a:Nat,Int,x_1.b.n=n/\n<1099511627776/\(∀k:Nat,k<n->[Value.int .u8 (x_1.res (0+k))]=[Value.int .u8 (g k)])/\(∀k:Nat,0<=g k/\g k<256)/\True/\ ∃x_2:ug,Hd x_2.ok/\ap0 x_2 g n/\((x_2.b.N=64/\ ∀q:Nat,q<x_2.b.N->[Value.int .u8 (x_2.b.g q)]=Cs.eff (λ(p:Nat)=>cond (Nat.ble 0 p&&Nat.blt p (0+x_1.b.n)) [Value.int .u8 (x_1.res (0+(p-0)))] [Value.int .u8 0]) [] q)/\True)/\ ∀y_1:Unit,True->True/\Gh/\64<=64/\cP (Nat.ble x_2.b.n 64) (0+x_2.b.n<=x_2.b.n/\alf x_2/\(∀k:Nat,k<64->(Nat.beq (List.length (Cs.eff (λ(p:Nat)=>cond (Nat.ble 0 p&&Nat.blt p (0+x_2.b.n)) [Value.int .u8 (x_2.res (0+(p-0)))] (Cs.eff (λ(p_1:Nat)=>cond (Nat.ble 0 p_1&&Nat.blt p_1 (0+x_1.b.n)) [Value.int .u8 (x_1.res (0+(p_1-0)))] [Value.int .u8 0]) [] p)) [] k)) 1&&List.all (Cs.eff (λ(p:Nat)=>cond (Nat.ble 0 p&&Nat.blt p (0+x_2.b.n)) [Value.int .u8 (x_2.res (0+(p-0)))] (Cs.eff (λ(p_1:Nat)=>cond (Nat.ble 0 p_1&&Nat.blt p_1 (0+x_1.b.n)) [Value.int .u8 (x_1.res (0+(p_1-0)))] [Value.int .u8 0]) [] p)) [] k) Value.oneCell')=true)/\
 (∀k:Nat,k<64->(Nat.beq (List.length (Cs.eff (Cs.eff (λ(p:Nat)=>cond (Nat.ble 0 p&&Nat.blt p (0+x_2.b.n)) [Value.int .u8 (x_2.res (0+(p-0)))] (Cs.eff (λ(p_1:Nat)=>cond (Nat.ble 0 p_1&&Nat.blt p_1 (0+x_1.b.n)) [Value.int .u8 (x_1.res (0+(p_1-0)))] [Value.int .u8 0]) [] p)) []) [] k)) 1&&List.all (Cs.eff (Cs.eff (λ(p:Nat)=>cond (Nat.ble 0 p&&Nat.blt p (0+x_2.b.n)) [Value.int .u8 (x_2.res (0+(p-0)))] (Cs.eff (λ(p_1:Nat)=>cond (Nat.ble 0 p_1&&Nat.blt p_1 (0+x_1.b.n)) [Value.int .u8 (x_1.res (0+(p_1-0)))] [Value.int .u8 0]) [] p)) []) [] k) Value.oneCell')=true)/\(∀k:Nat,k<64->(Nat.beq (List.length (Cs.eff (Cs.eff (Cs.eff (λ(p:Nat)=>cond (Nat.ble 0 p&&Nat.blt p (0+x_2.b.n)) [Value.int .u8 (x_2.res (0+(p-0)))] (Cs.eff (λ(p_1:Nat)=>cond (Nat.ble 0 p_1&&Nat.blt p_1 (0+x_1.b.n)) [Value.int .u8 (x_1.res (0+(p_1-0)))] [Value.int .u8 0]) [] p)) []) []) [] k)) 1&&List.all (Cs.eff (Cs.eff (Cs.eff (λ(p:Nat)=>cond (Nat.ble 0 p&&Nat.blt p (0+x_2.b.n)) [Value.int .u8 (x_2.res (0+(p-0)))] (Cs.eff (λ(p_1:Nat)=>cond (Nat.ble 0 p_1&&Nat.blt p_1 (0+x_1.b.n)) [Value.int .u8 (x_1.res (0+(p_1-0)))] [Value.int .u8 0]) [] p)) []) []) [] k) Value.oneCell')=true)/\Gh/\ ∃y_2:Unit,True/\afG/\(64=64/\ ∀q:Nat,q<64->[Value.int .u8 (mZ x q)]=Cs.eff (Cs.eff (Cs.eff (Cs.eff (λ(p:Nat)=>cond (Nat.ble 0 p&&Nat.blt p (0+x_2.b.n)) [Value.int .u8 (x_2.res (0+(p-0)))] (Cs.eff (λ(p_1:Nat)=>cond (Nat.ble 0 p_1&&Nat.blt p_1 (0+x_1.b.n)) [Value.int .u8 (x_1.res (0+(p_1-0)))] [Value.int .u8 0]) [] p)) []) []) []) [] q)/\True) (64<=x_2.b.n/\alg x_2/\
 (∀k:Nat,k<64->(Nat.beq (List.length (Cs.eff (λ(p:Nat)=>cond (Nat.ble 0 p&&Nat.blt p 64) [Value.int .u8 (x_2.res (0+(p-0)))] (Cs.eff (λ(p_1:Nat)=>cond (Nat.ble 0 p_1&&Nat.blt p_1 (0+x_1.b.n)) [Value.int .u8 (x_1.res (0+(p_1-0)))] [Value.int .u8 0]) [] p)) [] k)) 1&&List.all (Cs.eff (λ(p:Nat)=>cond (Nat.ble 0 p&&Nat.blt p 64) [Value.int .u8 (x_2.res (0+(p-0)))] (Cs.eff (λ(p_1:Nat)=>cond (Nat.ble 0 p_1&&Nat.blt p_1 (0+x_1.b.n)) [Value.int .u8 (x_1.res (0+(p_1-0)))] [Value.int .u8 0]) [] p)) [] k) Value.oneCell')=true)/\(∀k:Nat,k<64->(Nat.beq (List.length (Cs.eff (Cs.eff (λ(p:Nat)=>cond (Nat.ble 0 p&&Nat.blt p 64) [Value.int .u8 (x_2.res (0+(p-0)))] (Cs.eff (λ(p_1:Nat)=>cond (Nat.ble 0 p_1&&Nat.blt p_1 (0+x_1.b.n)) [Value.int .u8 (x_1.res (0+(p_1-0)))] [Value.int .u8 0]) [] p)) []) [] k)) 1&&List.all (Cs.eff (Cs.eff (λ(p:Nat)=>cond (Nat.ble 0 p&&Nat.blt p 64) [Value.int .u8 (x_2.res (0+(p-0)))] (Cs.eff (λ(p_1:Nat)=>cond (Nat.ble 0 p_1&&Nat.blt p_1 (0+x_1.b.n)) [Value.int .u8 (x_1.res (0+(p_1-0)))] [Value.int .u8 0]) [] p)) []) [] k) Value.oneCell')=true)/\
 (∀k:Nat,k<64->(Nat.beq (List.length (Cs.eff (Cs.eff (Cs.eff (λ(p:Nat)=>cond (Nat.ble 0 p&&Nat.blt p 64) [Value.int .u8 (x_2.res (0+(p-0)))] (Cs.eff (λ(p_1:Nat)=>cond (Nat.ble 0 p_1&&Nat.blt p_1 (0+x_1.b.n)) [Value.int .u8 (x_1.res (0+(p_1-0)))] [Value.int .u8 0]) [] p)) []) []) [] k)) 1&&List.all (Cs.eff (Cs.eff (Cs.eff (λ(p:Nat)=>cond (Nat.ble 0 p&&Nat.blt p 64) [Value.int .u8 (x_2.res (0+(p-0)))] (Cs.eff (λ(p_1:Nat)=>cond (Nat.ble 0 p_1&&Nat.blt p_1 (0+x_1.b.n)) [Value.int .u8 (x_1.res (0+(p_1-0)))] [Value.int .u8 0]) [] p)) []) []) [] k) Value.oneCell')=true)/\Gh/\ ∃y_2:Unit,True/\afG/\(64=64/\ ∀q:Nat,q<64->[Value.int .u8 (mZ x q)]=Cs.eff (Cs.eff (Cs.eff (Cs.eff (λ(p:Nat)=>cond (Nat.ble 0 p&&Nat.blt p 64) [Value.int .u8 (x_2.res (0+(p-0)))] (Cs.eff (λ(p_1:Nat)=>cond (Nat.ble 0 p_1&&Nat.blt p_1 (0+x_1.b.n)) [Value.int .u8 (x_1.res (0+(p_1-0)))] [Value.int .u8 0]) [] p)) []) []) []) [] q)/\True)) (64<=x_1.b.n/\alg x_1/\Gh/\0+x_1.b.n<=x_1.b.n/\ ∃n:Nat,∃g: ∀a:Nat,Int,x_1.b.n=n/\n<1099511627776/\(∀k:Nat,k<n->[Value.int .u8 (x_1.res (0+k))]=[Value.int .u8 (g k)])/\(∀k:Nat,0<=g k/\g k<256)/\True/\ ∃x_2:ug,Hd x_2.ok/\ap0 x_2 g n/\((x_2.b.N=64/\ ∀q:Nat,q<x_2.b.N->[Value.int .u8 (x_2.b.g q)]=Cs.eff (λ(p:Nat)=>cond (Nat.ble 0 p&&Nat.blt p 64) [Value.int .u8 (x_1.res (0+(p-0)))] [Value.int .u8 0]) [] q)/\True)/\ ∀y_1:Unit,True->True/\Gh/\64<=64/\cP (Nat.ble x_2.b.n 64) (0+x_2.b.n<=x_2.b.n/\alf x_2/\
 (∀k:Nat,k<64->(Nat.beq (List.length (Cs.eff (λ(p:Nat)=>cond (Nat.ble 0 p&&Nat.blt p (0+x_2.b.n)) [Value.int .u8 (x_2.res (0+(p-0)))] (Cs.eff (λ(p_1:Nat)=>cond (Nat.ble 0 p_1&&Nat.blt p_1 64) [Value.int .u8 (x_1.res (0+(p_1-0)))] [Value.int .u8 0]) [] p)) [] k)) 1&&List.all (Cs.eff (λ(p:Nat)=>cond (Nat.ble 0 p&&Nat.blt p (0+x_2.b.n)) [Value.int .u8 (x_2.res (0+(p-0)))] (Cs.eff (λ(p_1:Nat)=>cond (Nat.ble 0 p_1&&Nat.blt p_1 64) [Value.int .u8 (x_1.res (0+(p_1-0)))] [Value.int .u8 0]) [] p)) [] k) Value.oneCell')=true)/\(∀k:Nat,k<64->(Nat.beq (List.length (Cs.eff (Cs.eff (λ(p:Nat)=>cond (Nat.ble 0 p&&Nat.blt p (0+x_2.b.n)) [Value.int .u8 (x_2.res (0+(p-0)))] (Cs.eff (λ(p_1:Nat)=>cond (Nat.ble 0 p_1&&Nat.blt p_1 64) [Value.int .u8 (x_1.res (0+(p_1-0)))] [Value.int .u8 0]) [] p)) []) [] k)) 1&&List.all (Cs.eff (Cs.eff (λ(p:Nat)=>cond (Nat.ble 0 p&&Nat.blt p (0+x_2.b.n)) [Value.int .u8 (x_2.res (0+(p-0)))] (Cs.eff (λ(p_1:Nat)=>cond (Nat.ble 0 p_1&&Nat.blt p_1 64) [Value.int .u8 (x_1.res (0+(p_1-0)))] [Value.int .u8 0]) [] p)) []) [] k) Value.oneCell')=true)/\
 (∀k:Nat,k<64->(Nat.beq (List.length (Cs.eff (Cs.eff (Cs.eff (λ(p:Nat)=>cond (Nat.ble 0 p&&Nat.blt p (0+x_2.b.n)) [Value.int .u8 (x_2.res (0+(p-0)))] (Cs.eff (λ(p_1:Nat)=>cond (Nat.ble 0 p_1&&Nat.blt p_1 64) [Value.int .u8 (x_1.res (0+(p_1-0)))] [Value.int .u8 0]) [] p)) []) []) [] k)) 1&&List.all (Cs.eff (Cs.eff (Cs.eff (λ(p:Nat)=>cond (Nat.ble 0 p&&Nat.blt p (0+x_2.b.n)) [Value.int .u8 (x_2.res (0+(p-0)))] (Cs.eff (λ(p_1:Nat)=>cond (Nat.ble 0 p_1&&Nat.blt p_1 64) [Value.int .u8 (x_1.res (0+(p_1-0)))] [Value.int .u8 0]) [] p)) []) []) [] k) Value.oneCell')=true)/\Gh/\ ∃y_2:Unit,True/\afG/\(64=64/\ ∀q:Nat,q<64->[Value.int .u8 (mZ x q)]=Cs.eff (Cs.eff (Cs.eff (Cs.eff (λ(p:Nat)=>cond (Nat.ble 0 p&&Nat.blt p (0+x_2.b.n)) [Value.int .u8 (x_2.res (0+(p-0)))] (Cs.eff (λ(p_1:Nat)=>cond (Nat.ble 0 p_1&&Nat.blt p_1 64) [Value.int .u8 (x_1.res (0+(p_1-0)))] [Value.int .u8 0]) [] p)) []) []) []) [] q)/\True) (64<=x_2.b.n/\alg x_2/\(∀k:Nat,k<64->(Nat.beq (List.length (Cs.eff (λ(p:Nat)=>cond (Nat.ble 0 p&&Nat.blt p 64) [Value.int .u8 (x_2.res (0+(p-0)))] (Cs.eff (λ(p_1:Nat)=>cond (Nat.ble 0 p_1&&Nat.blt p_1 64) [Value.int .u8 (x_1.res (0+(p_1-0)))] [Value.int .u8 0]) [] p)) [] k)) 1&&List.all (Cs.eff (λ(p:Nat)=>cond (Nat.ble 0 p&&Nat.blt p 64) [Value.int .u8 (x_2.res (0+(p-0)))] (Cs.eff (λ(p_1:Nat)=>cond (Nat.ble 0 p_1&&Nat.blt p_1 64) [Value.int .u8 (x_1.res (0+(p_1-0)))] [Value.int .u8 0]) [] p)) [] k) Value.oneCell')=true)/\
 (∀k:Nat,k<64->(Nat.beq (List.length (Cs.eff (Cs.eff (λ(p:Nat)=>cond (Nat.ble 0 p&&Nat.blt p 64) [Value.int .u8 (x_2.res (0+(p-0)))] (Cs.eff (λ(p_1:Nat)=>cond (Nat.ble 0 p_1&&Nat.blt p_1 64) [Value.int .u8 (x_1.res (0+(p_1-0)))] [Value.int .u8 0]) [] p)) []) [] k)) 1&&List.all (Cs.eff (Cs.eff (λ(p:Nat)=>cond (Nat.ble 0 p&&Nat.blt p 64) [Value.int .u8 (x_2.res (0+(p-0)))] (Cs.eff (λ(p_1:Nat)=>cond (Nat.ble 0 p_1&&Nat.blt p_1 64) [Value.int .u8 (x_1.res (0+(p_1-0)))] [Value.int .u8 0]) [] p)) []) [] k) Value.oneCell')=true)/\(∀k:Nat,k<64->(Nat.beq (List.length (Cs.eff (Cs.eff (Cs.eff (λ(p:Nat)=>cond (Nat.ble 0 p&&Nat.blt p 64) [Value.int .u8 (x_2.res (0+(p-0)))] (Cs.eff (λ(p_1:Nat)=>cond (Nat.ble 0 p_1&&Nat.blt p_1 64) [Value.int .u8 (x_1.res (0+(p_1-0)))] [Value.int .u8 0]) [] p)) []) []) [] k)) 1&&List.all (Cs.eff (Cs.eff (Cs.eff (λ(p:Nat)=>cond (Nat.ble 0 p&&Nat.blt p 64) [Value.int .u8 (x_2.res (0+(p-0)))] (Cs.eff (λ(p_1:Nat)=>cond (Nat.ble 0 p_1&&Nat.blt p_1 64) [Value.int .u8 (x_1.res (0+(p_1-0)))] [Value.int .u8 0]) [] p)) []) []) [] k) Value.oneCell')=true)/\Gh/\ ∃y_2:Unit,True/\afG/\(64=64/\ ∀q:Nat,q<64->[Value.int .u8 (mZ x q)]=Cs.eff (Cs.eff (Cs.eff (Cs.eff (λ(p:Nat)=>cond (Nat.ble 0 p&&Nat.blt p 64) [Value.int .u8 (x_2.res (0+(p-0)))] (Cs.eff (λ(p_1:Nat)=>cond (Nat.ble 0 p_1&&Nat.blt p_1 64) [Value.int .u8 (x_1.res (0+(p_1-0)))] [Value.int .u8 0]) [] p)) []) []) []) [] q)/\True))
theorem abx(x:Int):Uj x=wpF Tryz.prog tblK tt (λ_ _ _ _=>[]) 200 5 150 (DV.args x) (hO DV.k (DV.os x)) (λv h'=>eF DV.k x v h' DV.outs):=by kernel_rfl
theorem Uk(b:Bys)(hb:b.ok):afH b:=by
 unfold afH;simp only[aZ,aV,aU,aA,aI,bQ,bF,aO,aK,ay,aX,aW];exact⟨⟨0,b⟩,⟨(show U32 0 from ⟨by omega,by omega⟩),hb⟩,⟨rfl,rfl,rfl⟩,⟨rfl,λ_ _=>rfl⟩,rfl⟩
theorem l7(v:Int)(k:Nat):0<=v/256^k%256/\v/256^k%256<256:=⟨Int.emod_nonneg _ (by omega),Int.emod_lt_of_pos _ (by omega)⟩
theorem yY{g:Nat->Int}(h: ∀k,0<=g k/\g k<256)(a w:Nat)(v:Int)(k:Nat):0<=pq g a w v k/\pq g a w v k<256:=by
 unfold pq;split
 ·exact l7 _ _
 ·exact h k
theorem O9(v:Int)(hv:0<=v/\v<18446744073709551616):Uj v:=by
 unfold Uj;simp only[Gh,alf,ap0,afG,alg,apZ];simp only[aZ,aV,aU,aA,aI,bQ,bF,aO,aK,ay,aX,aW];let b0:Bys:=⟨λk=>if k=0 then 3 else 0,0,9,9⟩
 let x1:ug:=⟨b0,1,8,v,9⟩
 have ok1:x1.ok:=⟨⟨by simp[x1,b0],by simp[x1,b0],λk=>by simp only[x1,b0];split<;>omega⟩,by simp[x1,b0],by simp[x1],by simp[x1],hv.1,hv.2⟩;have r1: ∀k,k<9->x1.res k=abw v k:=λk hk=>by
  simp only[ug.res,pq,abw,x1,b0];by_cases h:k=0
  ·subst h;simp
  ·rw[if_pos (by omega),if_neg h]
 have u1: ∀k,0<=x1.res k/\x1.res k<256:=yY (λk=>ok1.1.2.2 _) _ _ _;let b1:Bys:=⟨λk=>if k<9 then x1.res k else 0,0,64,64⟩
 let x2:ug:=⟨b1,9,4,nM 0 x1.res 9,64⟩
 have c1:nM 0 x1.res 9=nM 0 (abw v) 9:=yX r1;have hU:=Zb 0 x1.res 9
 have ok2:x2.ok:=⟨⟨by simp[x2,b1],by simp[x2,b1],λk=>by
  show 0<=(if k<9 then x1.res k else 0)/\(if k<9 then x1.res k else 0)<256;split
  ·exact u1 k
  ·exact⟨by omega,by omega⟩⟩,by simp[x2,b1],by simp[x2],by simp[x2],hU.1,hU.2⟩
 have w64:IntKind.u64.wrap (nM 0 x1.res 9)=nM 0 x1.res 9:=by
  have:=hU.1;have:=hU.2;unfold IntKind.wrap;simp[IntKind.bits,IntKind.signed];omega
 have nb:x1.b.n=9:=rfl;have nb2:x2.b.n=64:=rfl;have ble9:Nat.ble 9 64=true:=rfl;have ap1:Nat.ble 64 64=true:=rfl;refine⟨x1,ok1,⟨⟨rfl,rfl,rfl⟩,rfl,rfl,rfl⟩,⟨rfl,λq hq=> ?_⟩,by omega,by omega,?_⟩
 ·have hq:q<9:=hq
  match q,hq with
  |0,_|1,_|2,_|3,_|4,_|5,_|6,_|7,_|8,_=>rfl
 simp only[nb,ble9,cP,bU,bG,bH,bI,bV,bC,bJ,bn,eG,aH,aN,ah,ak,aB,aF,aC,aG,aK,aU];refine⟨by omega,by omega,by omega,9,x1.res,rfl,by omega,λ_ _=>rfl,u1,x2,ok2,⟨⟨rfl,rfl,rfl⟩,rfl,rfl,w64.symm⟩,⟨rfl,λq hq=> ?_⟩,by omega,by omega,?_⟩
 ·show(if q<9 then x1.res q else 0)=_
  rw[bT,dI]
 simp only[nb2,ap1,cP,bU,bG,bH,bI,bV,bC,bJ,bn,eG,aH,aN,ah,ak,aB,aF,aC,aG,aK,aU];refine⟨by omega,by omega,λq hq=> ?_⟩;simp[bg.2 hq];show mZ v q=pq (λk=>if 0+k<9 then x1.res (0+k)else 0) 9 4 (nM 0 x1.res 9) q;simp only[mZ,pq,c1,aA];by_cases h:q<9
 ·rw[if_pos h,if_neg (by omega),if_pos h,r1 q h]
 ·by_cases h2:q<13
  ·rw[if_neg h,if_pos h2,if_pos (by omega)]
  ·rw[if_neg h,if_neg h2,if_neg (by omega),if_neg h]
theorem Ul{P:Program}{f:FuncId}{X:Type}{args:X->List AV}{k m:Nat}{os os':X->List dB}{pre:X->Prop}{ret:X->AV}(hC:bZ P f (det X args k os pre ret m os'))(x:X)(hp:pre x):Sp P f (args x) (hO k (os x)) (λv _=>v=ret x):=
 (hC x hp).2.mono λ_ _ hh=>by
  have ha:Jw x (λv _=>v=ret x) (det X args k os pre ret m os').outs:=λ_ _=>rfl
  exact yT ha hh
theorem afJ:bZ Tryz.prog 171 abv:=dM dD mixed (.cons (bM aoc) .nil) (λ_ _ _ _ _=>[]) 200 5 (λ_=>rfl) (λ_=>rfl) λx hx=>Eq.mp (afI x) (Uk x (aZ.1 hx))
theorem Zc(args:List AV)(h:Heap)(K:AV->Heap->Prop)(hq:ale args h K):Sp Tryz.prog 171 args h K:=by
 unfold ale at hq;split at hq
 ·refine akX (afJ ⟨λ_=>0,0,0,0⟩ (aZ.2 ⟨by simp,by simp,λ_=>by simp⟩)).2.1 (by omega) hq λe he=> ?_
  obtain⟨n,g,h1,h2,h3,h4,hK⟩:=he;have hs:=Ul afJ ⟨g,0,n,n⟩ (aZ.2 ⟨by simp,h2,h4⟩);refine⟨n,λk=>[.int .u8 (g k)],u32 (nM 0 (λk=>g (0+k)) n),h1,h3,rfl,?_,hs⟩;simpa only[aA]using hK
 ·exact hq.elim
theorem afK:dX Tryz.prog tblK:= .cons Zc (.cons (asN (bM aoe) λ_ _ _ hq=>qN dD mixed dX.nil _ _ _ _ _ _ _ hq) .nil)
theorem alh:bZ Tryz.prog 150 DV:=dM dD mixed afK (λ_ _ _ _ _=>[]) 200 5 (λ_=>rfl) (λ_=>rfl) λx hx=>Eq.mp (abx x) (O9 x (aZ.1 hx))
theorem aby:qO Tryz.prog 102 (Extern.Atomic.loadT (.int .u64)):=⟨Tryz.f102,by kernel_rfl,by kernel_rfl,by kernel_rfl,by kernel_rfl,by kernel_rfl⟩
def Zd:jd:=[(102,ak2 .u64)]
theorem Um:dX Tryz.prog Zd:= .Gf (λ_ _ _ hq=>Y8 _ _ _ aby hq) .nil
theorem Un:qO Tryz.prog 104 Extern.Atomic.storeT:=⟨Tryz.f104,by kernel_rfl,by kernel_rfl,by kernel_rfl,by kernel_rfl,by kernel_rfl⟩
def Pg:jd:=[(104,Y7 .u64)]
theorem Ph:dX Tryz.prog Pg:= .Gf (λ_ _ _ hq=>O4 _ _ _ Un hq) .nil
theorem afL:qO Tryz.prog 103 (Extern.Atomic.casT (.int .u64)):=⟨Tryz.f103,by kernel_rfl,by kernel_rfl,by kernel_rfl,by kernel_rfl,by kernel_rfl⟩
def afM:jd:=[(103,casX .u64)]
theorem abz:dX Tryz.prog afM:= .Gf (λ_ _ _ hq=>apO _ _ _ afL hq) .nil
theorem afN:qO Tryz.prog 108 (Extern.Atomic.update (Op.intArith .add) .u64 true):=⟨Tryz.f108,by kernel_rfl,by kernel_rfl,by kernel_rfl,by kernel_rfl,by kernel_rfl⟩
def afO:jd:=[(108,addX .u64)]
theorem abA:dX Tryz.prog afO:= .Gf (λ_ _ _ hq=>afr _ _ _ afN hq) .nil
theorem abB:qO Tryz.prog 285 (Extern.Atomic.swapT (.int .u64)):=⟨Tryz.f285,by kernel_rfl,by kernel_rfl,by kernel_rfl,by kernel_rfl,by kernel_rfl⟩
def Ze:jd:=[(285,apM .u64)]
theorem Uo:dX Tryz.prog Ze:= .Gf (λ_ _ _ hq=>ak3 _ _ _ abB hq) .nil
theorem abC:qO Tryz.prog 168 (Extern.Atomic.update (Op.intArith .add) .i64 true):=⟨Tryz.f168,by kernel_rfl,by kernel_rfl,by kernel_rfl,by kernel_rfl,by kernel_rfl⟩
def Zf:jd:=[(168,addX .i64)]
theorem Ur:dX Tryz.prog Zf:= .Gf (λ_ _ _ hq=>afr _ _ _ abC hq) .nil
def Pj:jd:=[]
theorem Pm:dX Tryz.prog Pj:= .nil
theorem abD:qO Tryz.prog 193 (Extern.Atomic.loadT (.int .u32)):=⟨Tryz.f193,by kernel_rfl,by kernel_rfl,by kernel_rfl,by kernel_rfl,by kernel_rfl⟩
def Zg:jd:=[(193,ak2 .u32)]
theorem Us:dX Tryz.prog Zg:= .Gf (λ_ _ _ hq=>Y8 _ _ _ abD hq) .nil
theorem Ut:qO Tryz.prog 239 Extern.Atomic.storeT:=⟨Tryz.f239,by kernel_rfl,by kernel_rfl,by kernel_rfl,by kernel_rfl,by kernel_rfl⟩
def Pn:jd:=[(239,Y7 .u32)]
theorem Po:dX Tryz.prog Pn:= .Gf (λ_ _ _ hq=>O4 _ _ _ Ut hq) .nil
noncomputable def pJ:jd:=Zd++Pg++afM++afO++Ze++Zf++Pj++Zg++Pn
theorem dQ:dX Tryz.prog pJ:= .append (.append (.append (.append (.append (.append (.append (.append (Um) Ph) abz) abA) Uo) Ur) Pm) Us) Po
structure DevM where
 n:Nat
 b:Nat->Int
 s:Nat->Bool
 st:Int
 fl:Int
 fe:Int
 ba:Int
 cu:Int
def small(z:Int):Prop:=0<=z/\z<1099511627776
noncomputable def kR(d:DevM)(p:Nat):List Value:=hide [if p%193=192 then .bool (d.s (p/193))else .int .u8 (d.b p)]
theorem oH(d:DevM)(p:Nat):kR d p=[if p%193=192 then .bool (d.s (p/193))else .int .u8 (d.b p)]:=gW _
namespace DevM
def ok(d:DevM):Prop:=d.n<=258/\(∀p,0<=d.b p/\d.b p<256)/\small d.st/\small d.fl/\small d.fe/\small d.ba/\small d.cu
def dev(i:Nat)(d:DevM):dB:= .cells 201 (.av [.slE i 0 193 d.n d.n,i64 d.st,i64 d.fl,i64 d.fe,i64 d.ba,i64 d.cu])
noncomputable def cells(d:DevM):dB:= .cells 229 (.row 1 (d.n*193) (kR d) [])
noncomputable def os(d:DevM):List dB:=[d.dev 1,d.cells]
def _root_.Go.Proofs.YtenfleoejgjklaaGreat.xJ(n:Nat):DevM:=⟨n,λ_=>0,λ_=>false,0,0,0,0,0⟩
def flush(d:DevM)(k:Nat):DevM:={d with b:=λp=>if k*193+128<=p/\p<k*193+192 then d.b (p-128)else d.b p,s:=λq=>if q=k then true else d.s q,fl:=if k<d.n then d.fl+1 else d.fl}
def iG(d:DevM)(k:Nat):DevM:={d with b:=λp=>if p/193<k/\d.s (p/193)=true/\64<=p%193/\p%193<128 then d.b (p+64)else d.b p,s:=λq=>if q<k then false else d.s q}
def fence(d:DevM):DevM:={d.iG d.n with fe:=d.fe+1}
def store(d:DevM)(k a n:Nat)(g:Nat->Int):DevM:={d with b:=λp=>if k*193+a<=p/\p<k*193+a+n then g (p-(k*193+a))else d.b p,st:=d.st+1}
end DevM
structure Pq where
 d:DevM
 k:Nat
noncomputable def DW:Ctr:=det Pq (λx=>[.ptr 0 0,i64 x.k]) 2 (λx=>x.d.os) (λx=>Hd (x.d.ok/\x.k<258)) (λx=>i64 (if x.k<x.d.n then 0 else 2)) 2 (λx=>(x.d.flush x.k).os)
noncomputable def DX:Ctr:=det DevM (λ_=>[.ptr 0 0]) 2 (λd=>d.os) (λd=>Hd d.ok) (λ_=>i64 0) 2 (λd=>d.fence.os)
noncomputable def afP(d:DevM):FuncId->pX:=λf=>
 bif Nat.beq f 106 then(λb fr h=>bif Nat.beq b 0 then [{σ:=Nat,fr:=λk=>[(12,i64 k)],ob:=λk=>[(1,some (d.iG k).cells)],inv:=λk=>k<=d.n,meas:=λk=>d.n-k}]else [])else
 λ_ _ _=>[]
structure lX where
 d:DevM
 k:Nat
 a:Nat
 b:Bys
noncomputable def DY:Ctr:=det lX (λx=>[.ptr 0 0,i64 x.k,i64 x.a,x.b.av 2]) 3 (λx=>x.d.os++[x.b.ro]) (λx=>Hd (x.d.ok/\x.k<x.d.n/\x.b.ok/\x.a+x.b.n<=64)) (λ_=>i64 0) 3 (λx=>(x.d.store x.k x.a x.b.n (λq=>x.b.g (x.b.q+q))).os++[x.b.ro])
def abE(a:DevM):Prop:=a.ba=a.ba/\a.cu=a.cu/\True
def Uu(a:DevM):Prop:=a.fe=a.fe/\abE a
def lJ(a:Nat):Prop:=a*193=a*193
def nX(a:Nat):Prop:=0=0/\a=a/\a=a
def Pv(a:Bys):Prop:=(rowB a.g a.N=rowB a.g a.N/\true=true)/\True
def Uw(a:DevM):Prop:=a.fl=a.fl/\Uu a
def ali(a:lX):Prop:= ∃y:Unit,True/\(0:Int)=2/\(nX a.d.n/\a.d.st+1=a.d.st/\Uw a.d)/\(lJ a.d.n/\ ∀q:Nat,q<a.d.n*193->Cs.eff (kR (a.d.store a.k a.a a.b.n (λ(q_1:Nat)=>a.b.g (a.b.q+q_1)))) [] q=Cs.eff (kR a.d) [] q)/\Pv a.b
def alj(a:DevM):Prop:=(nX a.n/\a.st=a.st/\Uw a)/\True
def Zh(a:Bys)(b:Nat):Prop:=(Nat.beq (List.length [Value.int .u8 (a.g (a.q+b))]) 1&&List.all [Value.int .u8 (a.g (a.q+b))] Value.oneCell')=true
def Zi:Prop:= ∃y:Unit,True/\(False/\(0:Int)=2/\True)/\False/\False/\True
def afQ(n:Nat):Prop:=
 cP (decide ((n:Int)<1)) Zi (cP (decide ((n:Int)>(258:Int))) Zi ((0<=(n:Int)/\(n:Int)<=(n:Int)/\193*(n:Int)<=281474976710656/\(n:Int)<4611686018427387904)/\ ∃y:Unit,True/\(0=0/\(0:Int)=0/\True)/\(nX n/\(0:Int)=0/\(0:Int)=0/\(0:Int)=0/\(0:Int)=0/\(0:Int)=0/\True)/\(lJ n/\ ∀q:Nat,∀j:Nat,q<n->j<193-> ∃v:Value,getElem? (List.replicate 192 (Value.int .u8 0)++[Value.bool false]) j=some v/\Cs.eff (kR (xJ n)) [] (q*193+j)=[v])/\True))
def Ux(x:Pq):Prop:=
 cP (decide ((x.k:Int)>=(x.d.n:Int))) (∃y:Unit,True/\ite (x.k<x.d.n) (0:Int) (2:Int)=2/\(nX x.d.n/\x.d.st=x.d.st/\ite (x.k<x.d.n) (x.d.fl+1) x.d.fl=x.d.fl/\Uu x.d)/\(lJ x.d.n/\ ∀q:Nat,q<x.d.n*193->Cs.eff (kR (x.d.flush x.k)) [] q=Cs.eff (kR x.d) [] q)/\True) (I64 (64:Int)/\(0<=(x.k:Int)/\(x.k:Int)<(x.d.n:Int))/\(0+x.k)*193+0+64<=x.d.n*193/\(0+x.k)*193+128+64<=x.d.n*193/\(∀k:Nat,k<64->(Nat.beq (List.length (Cs.eff (kR x.d) [] ((0+x.k)*193+0+k))) 1&&List.all (Cs.eff (kR x.d) [] ((0+x.k)*193+0+k)) Value.oneCell')=true)/\(0+x.k)*193+192<x.d.n*193/\I64 (x.d.fl+1)/\ ∃y:Unit,True/\ite (x.k<x.d.n) (0:Int) (2:Int)=0/\(nX x.d.n/\x.d.st=x.d.st/\ite (x.k<x.d.n) (x.d.fl+1) x.d.fl=x.d.fl+1/\Uu x.d)/\(lJ x.d.n/\ ∀q:Nat,q<x.d.n*193->Cs.eff (kR (x.d.flush x.k)) [] q=Cs.eff (λ(p:Nat)=>cond (Nat.ble ((0+x.k)*193+128) p&&Nat.blt p ((0+x.k)*193+128+64)) (Cs.eff (kR x.d) [] ((0+x.k)*193+0+(p-((0+x.k)*193+128)))) (Cs.eff (kR x.d) [] p)) [((0+x.k)*193+192,[Value.bool true])] q)/\True)
theorem abG(x:Pq):Ux x=wpF Tryz.prog pJ tt (λ_ _ _ _=>[]) 200 5 105 (DW.args x) (hO DW.k (DW.os x)) (λv h'=>eF DW.k x v h' DW.outs):=by kernel_rfl
def Uy(d:DevM):Prop:=
 (∃s:Nat,s<=d.n/\True/\((s:Int)=0/\True)/\(lJ d.n/\ ∀q:Nat,q<d.n*193->Cs.eff (kR (d.iG s)) [] q=Cs.eff (kR d) [] q)/\alj d)/\(∀s:Nat,s<=d.n->cP (decide ((s:Int)<(d.n:Int))) ((0<=(s:Int)/\(s:Int)<(d.n:Int))/\(0+s)*193+192<d.n*193/\ ∃b:Bool,getElem? (kR (d.iG s) ((0+s)*193+192)) 0=some (Value.bool b)/\cP b ((0+s)*193+128+64<=d.n*193/\(0+s)*193+64+64<=d.n*193/\(∀k:Nat,k<64->(Nat.beq (List.length (Cs.eff (kR (d.iG s)) [] ((0+s)*193+128+k))) 1&&List.all (Cs.eff (kR (d.iG s)) [] ((0+s)*193+128+k)) Value.oneCell')=true)/\(0+s)*193+192<d.n*193/\I64 ((s:Int)+1)/\ ∃s_1:Nat,s_1<=d.n/\d.n-s_1<d.n-s/\((s_1:Int)=(s:Int)+1/\True)/\(lJ d.n/\ ∀q:Nat,q<d.n*193->Cs.eff (kR (d.iG s_1)) [] q=Cs.eff (λ(p:Nat)=>cond (Nat.ble ((0+s)*193+64) p&&Nat.blt p ((0+s)*193+64+64)) (Cs.eff (kR (d.iG s)) [] ((0+s)*193+128+(p-((0+s)*193+64)))) (Cs.eff (kR (d.iG s)) [] p)) [((0+s)*193+192,[Value.bool false])] q)/\alj d) (I64 ((s:Int)+1)/\ ∃s_1:Nat,s_1<=d.n/\d.n-s_1<d.n-s/\((s_1:Int)=(s:Int)+1/\True)/\(lJ d.n/\ ∀q:Nat,q<d.n*193->Cs.eff (kR (d.iG s_1)) [] q=Cs.eff (kR (d.iG s)) [] q)/\alj d)) (I64 (d.fe+1)/\ ∃y:Unit,True/\(0:Int)=0/\(nX d.n/\d.st=d.st/\d.fl=d.fl/\d.fe+1=d.fe+1/\abE d)/\(lJ d.n/\ ∀q:Nat,q<d.n*193->Cs.eff (kR d.fence) [] q=Cs.eff (kR (d.iG s)) [] q)/\True))/\True
theorem abH(d:DevM):Uy d=wpF Tryz.prog pJ tt (afP d) 200 5 106 (DX.args d) (hO DX.k (DX.os d)) (λv h'=>eF DX.k d v h' DX.outs):=by kernel_rfl
def JC(x:lX):Prop:=
 cP (decide ((x.k:Int)>=(x.d.n:Int))) (ali x) (I64 (64-(x.b.n:Int))/\cP (decide ((x.a:Int)>64-(x.b.n:Int))) (ali x) ((0<=(x.k:Int)/\(x.k:Int)<(x.d.n:Int))/\0<=(x.a:Int)/\(x.a<=64/\64<=64/\64<=64)/\(0+x.k)*193+0+x.a+(64-x.a)<=x.d.n*193/\cP (Nat.ble x.b.n (64-x.a)) (x.b.q+x.b.n<=x.b.N/\(∀k:Nat,k<x.b.n->Zh x.b k)/\I64 (x.d.st+1)/\ ∃y:Unit,True/\(0:Int)=0/\(nX x.d.n/\x.d.st+1=x.d.st+1/\Uw x.d)/\(lJ x.d.n/\ ∀q:Nat,q<x.d.n*193->Cs.eff (kR (x.d.store x.k x.a x.b.n (λ(q_1:Nat)=>x.b.g (x.b.q+q_1)))) [] q=Cs.eff (λ(p:Nat)=>cond (Nat.ble ((0+x.k)*193+0+x.a) p&&Nat.blt p ((0+x.k)*193+0+x.a+x.b.n)) [Value.int .u8 (x.b.g (x.b.q+(p-((0+x.k)*193+0+x.a))))] (Cs.eff (kR x.d) [] p)) [] q)/\Pv x.b) (x.b.q+(64-x.a)<=x.b.N/\(∀k:Nat,k<64-x.a->Zh x.b k)/\I64 (x.d.st+1)/\ ∃y:Unit,True/\(0:Int)=0/\(nX x.d.n/\x.d.st+1=x.d.st+1/\Uw x.d)/\(lJ x.d.n/\ ∀q:Nat,q<x.d.n*193->Cs.eff (kR (x.d.store x.k x.a x.b.n (λ(q_1:Nat)=>x.b.g (x.b.q+q_1)))) [] q=Cs.eff (λ(p:Nat)=>cond (Nat.ble ((0+x.k)*193+0+x.a) p&&Nat.blt p ((0+x.k)*193+0+x.a+(64-x.a))) [Value.int .u8 (x.b.g (x.b.q+(p-((0+x.k)*193+0+x.a))))] (Cs.eff (kR x.d) [] p)) [] q)/\Pv x.b)))
theorem abI(x:lX):JC x=wpF Tryz.prog pJ tt (λ_ _ _ _=>[]) 200 5 62 (DY.args x) (hO DY.k (DY.os x)) (λv h'=>eF DY.k x v h' DY.outs):=by kernel_rfl
theorem afR(d:DevM)(p:Nat):((kR d p).length.beq 1&&(kR d p).all Value.oneCell')=true:=by
 rw[oH];split<;>rfl
theorem Uz(n:Nat)(hn:1<=n/\n<=258):afQ n:=by
 unfold afQ;simp only[Zi,nX,lJ];simp only[aZ,aV,aU,aA,aI,bQ,bF,aO,aK,ay,aX,aW,bU,bG,bH,bI,bV,bC,bJ,bn,eG,aH,aN,ah,ak,aB,aF,aC,aG];refine bf (λh=>absurd (aS h) (by omega)) λ_=>bf (λh=>absurd (aS h) (by omega)) λ_=>⟨by omega,λq j _ hj=> ?_⟩
 rw[oH,show(q*193+j)%193=j by omega];by_cases h:j=192
 ·subst h;exact⟨_,rfl,rfl⟩
 ·rw[if_neg h]
  refine⟨.int .u8 0,?_,rfl⟩;rw[List.getElem?_append_left (by rw[List.length_replicate];omega),List.getElem?_replicate,if_pos (by omega)]
theorem Px(x:Pq)(hx:x.d.ok/\x.k<258):Ux x:=by
 obtain⟨⟨h1,h2,h3,h4,h5,h6⟩,hk⟩:=hx;unfold small at*
 unfold Ux;simp only[nX,Uu,lJ,abE];simp only[aZ,aV,aU,aA,aI,bQ,bF,aO,aK,ay,aX,aW,bU,bG,bH,bI,bV,bC,bJ,bn,eG,aH,aN,ah,ak,aB,aF,aC,aG];refine bf (λh=> ?_) λh=> ?_
 ·have h:=aS h
  refine⟨by rw[if_neg (by omega)],by rw[if_neg (by omega)],λq hq=> ?_⟩;simp only[oH,DevM.flush];grind
 ·have h:x.k<x.d.n:=by have:=aT h;omega
  rw[if_pos h,if_pos h];refine⟨by unfold I64;omega,by omega,by omega,by omega,λk _=>afR _ _,by omega,by unfold I64;omega,rfl,rfl,λq hq=> ?_⟩;simp only[Cs.eff,bT,dw,dA,dI,<-Bool.decide_and,oH,DevM.flush];grind
theorem Py(d:DevM)(hd:d.ok):Uy d:=by
 obtain⟨h1,h2,h3,h4,h5,h6⟩:=hd;unfold small at*
 unfold Uy;simp only[lJ,alj,nX,abE,Uw,Uu];simp only[aZ,aV,aU,aA,aI,bQ,bF,aO,aK,ay,aX,aW,bU,bG,bH,bI,bV,bC,bJ,bn,eG,aH,aN,ah,ak,aB,aF,aC,aG];refine⟨⟨0,by omega,by omega,λq hq=> ?_⟩,λs hs=>bf (λhb=> ?_) (λhb=> ?_)⟩
 ·simp only[oH,DevM.iG];grind
 ·have hb:=aS hb
  refine⟨by omega,by omega,d.s s,?_,bf (λhc=> ?_) (λhc=> ?_)⟩
  ·simp only[oH,DevM.iG];grind
  ·refine⟨by omega,by omega,λk _=>afR _ _,by omega,by unfold I64;omega,s+1,by omega,by omega,by omega,λq hq=> ?_⟩
   simp only[Cs.eff,bT,dw,dA,dI,<-Bool.decide_and,oH,DevM.iG];grind (splits:=30)
  ·refine⟨by unfold I64;omega,s+1,by omega,by omega,by omega,λq hq=> ?_⟩
   simp only[oH,DevM.iG];grind
 ·have:s=d.n:=by have:=aT hb;omega
  subst this;exact⟨by unfold I64;omega,λq _=>rfl⟩
theorem AL(x:lX)(hx:x.d.ok/\x.k<x.d.n/\x.b.ok/\x.a+x.b.n<=64):JC x:=by
 obtain⟨⟨h1,h2,h3,h4,h5,h6⟩,hk,hb,ha⟩:=hx;unfold small at*
 unfold JC;simp only[ali,Zh,nX,Uw,lJ,Pv,Uu,abE];simp only[aZ,aV,aU,aA,aI,bQ,bF,aO,aK,ay,aX,aW,bU,bG,bH,bI,bV,bC,bJ,bn,eG,aH,aN,ah,ak,aB,aF,aC,aG];obtain⟨b1,b2,b3⟩:=hb;refine bf (λh=>absurd (aS h) (by omega)) λ_=>⟨by unfold I64;omega,bf (λh=>absurd (aS h) (by omega)) λ_=>⟨by omega,by omega,by omega,by omega,bf (λh=> ?_) (λh=> ?_)⟩⟩
 ·refine⟨b1,by unfold I64;omega,λq hq=> ?_⟩
  simp only[Cs.eff,bT,dw,dA,dI,<-Bool.decide_and,oH,DevM.store];grind
 ·have: ¬x.b.n<=64-x.a:=λhh=>by rw[show Nat.ble x.b.n (64-x.a)=true by simpa using hh]at h;cases h
  omega
theorem alk:bZ Tryz.prog 105 DW:=dM dD mixed dQ (λ_ _ _ _ _=>[]) 200 5 (λ_=>rfl) (λ_=>rfl) λx hx=>Eq.mp (abG x) (Px x (aZ.1 hx))
theorem alm:bZ Tryz.prog 106 DX:=dM dD mixed dQ afP 200 5 (λ_=>rfl) (λ_=>rfl) λx hx=>Eq.mp (abH x) (Py x (aZ.1 hx))
theorem aln:bZ Tryz.prog 62 DY:=dM dD mixed dQ (λ_ _ _ _ _=>[]) 200 5 (λ_=>rfl) (λ_=>rfl) λx hx=>Eq.mp (abI x) (AL x (aZ.1 hx))
structure iP where
 t:Nat
 now:Int
 dur:Int
 Pz:Int
 o:Nat->Int
 N:Nat->Bool
 L:Nat->Bool
def asT(f:Nat->Bool):Cs:= .row 1 258 (λk=>[.bool (f k)]) []
def U64(z:Int):Prop:=0<=z/\z<4611686018427387904
def stA(i:Nat):Nat->AV
 |0=> .lit .nilFunc
 |1=> .fn (.func 57) [.ptr i 0] []
 |2=> .fn (.func 107) [.ptr i 0] []
 |3=> .fn (.func 165) [.ptr i 0] []
 |_=> .fn (.func 212) [.ptr i 0] []
def stV(ph:Nat):AV:=stA 0 ph
namespace iP
def ok(c:iP):Prop:=1<=c.t/\c.t<=4/\U64 c.now/\U64 c.dur/\U64 c.Pz/\ ∀k,small (c.o k)
def clkA(c:iP)(i:Nat)(st:AV):dB:= .cells 131 (.cat (.av [u64 c.now,u64 c.dur,u64 c.Pz,.slE i 0 1 c.t c.t]) (.cat (asT c.N) (.cat (asT c.L) (.av [st]))))
def clk(c:iP)(ph:Nat):dB:=c.clkA 1 (stV ph)
def owed(c:iP):dB:= .cells 3 (.row 1 c.t (λk=>[.int .i64 (c.o k)]) [])
def os(c:iP)(ph:Nat):List dB:=[c.clk ph,c.owed]
def note(c:iP)(t:Nat)(l:Int):iP:={c with o:=λk=>if k=t/\0<=l/\l<258 then c.o k+1 else c.o k,N:=λq=>c.N q||decide (l=(q:Nat))}
end iP
def afS(t:Nat)(d:Int):iP:=⟨t,d+1,d,0,λ_=>0,λ_=>false,λ_=>false⟩
structure uZ where
 c:iP
 t:Nat
 l:Int
structure ClkD where
 c:iP
 d:DevM
namespace ClkD
end ClkD
def aof(a:Nat):Prop:=0=0/\a=a/\a=a
def ap2(a:iP):Prop:=a.now=a.now/\a.dur=a.dur/\a.Pz=a.Pz/\aof a.t/\True
def H9:Prop:=Value.nilFunc=Value.nilFunc/\True
def ap3(a:iP):Prop:=258=258/\ ∀q:Nat,q<258->[Value.bool (a.L q)]=[Value.bool (a.L q)]
def alo(a:uZ):Prop:=(ap2 a.c/\(258=258/\ ∀q:Nat,q<258->[Value.bool (Bool.or (a.c.N q) (decide (a.l=(q:Int))))]=[Value.bool (a.c.N q)])/\ap3 a.c/\H9)/\(a.c.t=a.c.t/\ ∀q:Nat,q<a.c.t->[Value.int .i64 (ite (q=a.t/\0<=a.l/\a.l<258) (a.c.o q+1) (a.c.o q))]=[Value.int .i64 (a.c.o q)])/\True
def Zj:Prop:=258=258/\ ∀q:Nat,q<258->[Value.bool false]=[Value.bool false]
def Zk:Prop:= ∃y:Unit,True/\(False/\(0:Int)=2/\True)/\False/\False/\True
def afT(p:Nat×Int):Prop:=
 cP (decide ((p.1:Int)<1)) Zk (cP (decide ((p.1:Int)>(4:Int))) Zk (cP (decide (p.2>(1152921504606846976:Int))) (∃y:Unit,True/\(False/\(0:Int)=10/\True)/\False/\False/\True) ((0<=(p.1:Int)/\(p.1:Int)<=(p.1:Int)/\8*(p.1:Int)<=281474976710656/\(p.1:Int)<4611686018427387904)/\ ∃y:Unit,True/\(0=0/\(0:Int)=0/\True)/\((p.2+1=IntKind.wrap .u64 (p.2+1)/\p.2=p.2/\(0:Int)=0/\(0=0/\p.1=p.1/\p.1=p.1)/\True)/\Zj/\Zj/\H9)/\(p.1=p.1/\ ∀q:Nat,q<p.1->[Value.int .i64 0]=[Value.int .i64 0])/\True)))
def aog(x:uZ):Prop:=
 cP (decide ((x.t:Int)>=(x.c.t:Int))) (∃y:Unit,True/\ite (0<=x.l/\x.l<258) (0:Int) (2:Int)=1/\alo x) (cP (decide (x.l<0)) (∃y:Unit,True/\ite (0<=x.l/\x.l<258) (0:Int) (2:Int)=2/\alo x) (cP (decide (x.l>=(258:Int))) (∃y:Unit,True/\ite (0<=x.l/\x.l<258) (0:Int) (2:Int)=2/\alo x) ((0<=(x.t:Int)/\(x.t:Int)<(x.c.t:Int))/\0+x.t<x.c.t/\I64 (x.c.o (0+x.t)+1)/\(0<=(x.t:Int)/\(x.t:Int)<(x.c.t:Int))/\0+x.t<x.c.t/\(0<=x.l/\x.l<258)/\Int.toNat x.l<258/\ ∃y:Unit,True/\ite (0<=x.l/\x.l<258) (0:Int) (2:Int)=0/\(ap2 x.c/\(258=258/\ ∀q:Nat,q<258->[Value.bool (Bool.or (x.c.N q) (decide (x.l=(q:Int))))]=Cs.eff (λ(k:Nat)=>[Value.bool (x.c.N k)]) [(Int.toNat x.l,[Value.bool true])] q)/\ap3 x.c/\H9)/\(x.c.t=x.c.t/\ ∀q:Nat,q<x.c.t->[Value.int .i64 (ite (q=x.t/\0<=x.l/\x.l<258) (x.c.o q+1) (x.c.o q))]=Cs.eff (λ(k:Nat)=>[Value.int .i64 (x.c.o k)]) [(0+x.t,[Value.int .i64 (x.c.o (0+x.t)+1)])] q)/\True)))
theorem UA(p:Nat×Int)(hp:1<=p.1/\p.1<=4/\0<=p.2/\p.2<=1152921504606846976):afT p:=by
 unfold afT;simp only[Zk,Zj,H9];simp only[aZ,aV,aU,aA,aI,bQ,bF,aO,aK,ay,aX,aW,bU,bG,bH,bI,bV,bC,bJ,bn,eG,aH,aN,ah,ak,aB,aF,aC,aG];refine bf (λh=>absurd (aS h) (by omega)) λ_=>bf (λh=>absurd (aS h) (by omega)) λ_=>bf (λh=>absurd (aS h) (by omega)) λ_=>⟨by omega,?_⟩
 unfold IntKind.wrap;simp[IntKind.bits,IntKind.signed];omega
theorem UC(x:uZ)(hx:x.c.ok/\x.t<x.c.t):aog x:=by
 obtain⟨⟨h1,h2,h3,h4,h5,h6⟩,ht⟩:=hx;have hs:=h6 x.t;unfold small at hs;unfold aog;simp only[alo,ap2,ap3,H9,aof];simp only[aZ,aV,aU,aA,aI,bQ,bF,aO,aK,ay,aX,aW,bU,bG,bH,bI,bV,bC,bJ,bn,eG,aH,aN,ah,ak,aB,aF,aC,aG];refine bf (λh=>absurd (aS h) (by omega)) λ_=>bf (λh=> ?_) λh=>bf (λh2=> ?_) λh2=> ?_
 ·have h:=aS h
  exact⟨by rw[if_neg (by omega)],λq hq=>by simp;intro;omega,λq hq=>by rw[if_neg (by omega)]⟩
 ·have h:=aS h2
  exact⟨by rw[if_neg (by omega)],λq hq=>by simp;intro;omega,λq hq=>by rw[if_neg (by omega)]⟩
 ·have h:=aT h
  have h2:=aT h2;have hl:0<=x.l/\x.l<258:=by omega
  refine⟨by omega,by omega,by unfold I64;omega,by omega,by omega,hl,by omega,by rw[if_pos hl],λq hq=> ?_,λq hq=> ?_⟩
  ·simp only[Cs.eff,bT,dw,dA,dI,<-Bool.decide_and]
   by_cases e:q=x.l.toNat
   ·rw[if_pos e,show decide (x.l=(q:Int))=true by simp;omega,Bool.or_true]
   ·rw[if_neg e,show decide (x.l=(q:Int))=false by simp;omega,Bool.or_false]
  ·simp only[Cs.eff,bT,dw,dA,dI,<-Bool.decide_and]
   by_cases e:q=x.t
   ·subst e;rw[if_pos ⟨rfl,hl⟩,if_pos rfl]
   ·rw[if_neg (by omega),if_neg e]
theorem PD(v:Int)(k:Nat):0<=mZ v k/\mZ v k<256:=by
 unfold mZ abw;split
 ·split
  ·omega
  ·exact l7 _ _
 ·split
  ·exact l7 _ _
  ·omega
theorem jU{x y:Prop}:cP true x y=x:=rfl
theorem iq{x y:Prop}:cP false x y=y:=rfl
def noA{X:Type}:X->FuncId->pX:=λ_ _ _ _ _=>[]
def boo(b:Bool):AV:= .lit (.bool b)
def gV:AV:= .lit (.slice none 0 0)
def qC(X:Type)(args:X->List AV)(k:Nat)(l:X->List PO)(pre:X->Prop)(ret:X->AV)(m:Nat)(l':X->List PO):jw:=
 {X:=X,args:=args,k:=k,l:=l,pre:=pre,outs:=[{Y:=Unit,post:=λ_ _=>True,ret:=λx _=>ret x,m:=m,l:=λx _=>l' x}]}
def spn(c:Int):Int:=if c=0 then 1 else if c=1 then 2 else if c=2 then 4 else if c=3 then 8 else 0
def cpc(c:Int):Int:=if c=0 then 28 else if c=1 then 91 else if c=2 then 217 else if c=3 then 469 else 0
def ned(n:Int):Int:=if n<0 then-1 else if n<=28 then 0 else if n<=91 then 1 else if n<=217 then 2 else if n<=469 then 3 else-1
def yZ:Ctr:=det Int (λc=>[i64 c]) 0 (λ_=>[]) (λ_=>True) (λc=>i64 (spn c)) 0 (λ_=>[])
def aoh:Ctr:=det Int (λc=>[i64 c]) 0 (λ_=>[]) (λ_=>True) (λc=>i64 (cpc c)) 0 (λ_=>[])
def UD:Ctr:=det Int (λc=>[i64 c]) 0 (λ_=>[]) (λ_=>True) (λc=>i64 (ned c)) 0 (λ_=>[])
def slb(l:Int):Int:=if l<2\/258<=l then-1 else(l-2)/8
def PE:Ctr:=det Int (λk=>[i64 k]) 0 (λ_=>[]) (λ_=>True) (λk=>i64 (if k<0\/32<=k then-1 else 2+k*8)) 0 (λ_=>[])
def vg:Ctr:=det Int (λk=>[i64 k]) 0 (λ_=>[]) (λ_=>True) (λk=>i64 (slb k)) 0 (λ_=>[])
structure iH where
 k:Nat
 c:Int
def y5(x:iH)(n:Nat):Cs:= .row 1 n (λi=>[.int .i64 (2+x.k*8+i*spn x.c)]) []
def vk:Ctr:={X:=iH,args:=λx=>[i64 x.k,i64 x.c],k:=0,os:=λ_=>[],pre:=λx=>Hd (x.k<32),outs:=[
 {Y:=Unit,post:=λx _=>Hd (spn x.c=0),ret:=λ_ _=>gV,m:=0,os:=λ_ _=>[]},
 {Y:=Unit,post:=λx _=>Hd (spn x.c≠0),ret:=λx _=> .slW 0 0 1 (8/spn x.c).toNat,m:=1,os:=λx _=>[.room 3 (y5 x (8/spn x.c).toNat)]}]}
def Zl(x:iH):FuncId->pX:=λf=>bif Nat.beq f 73 then(λb _ _=>bif Nat.beq b 0 then [
 {σ:=Unit,fr:=λ_=>[(21,i64 0),(7,gV)],ob:=λ_=>[],inv:=λ_=>Hd (spn x.c≠0),meas:=λ_=>9,test:=λfr _=>(match SE.look fr 7 with| .lit _=>true|_=>false)},
 {σ:=Nat,fr:=λi=>[(21,i64 i),(7,.slW 0 0 1 i)],ob:=λi=>[(0,some (.room 3 (y5 x i)))],inv:=λi=>Hd (spn x.c≠0/\1<=i/\i<=(8/spn x.c).toNat),meas:=λi=>8-i,nx:=1,test:=λfr _=>(match SE.look fr 7 with| .lit _=>false|_=>true)}]else [])elseλ_ _ _=>[]
structure afU where
 g:Nat->Int
 n:Nat
 v:Int
def afU.os(x:afU):List dB:=[.room 3 (.row 1 x.n (λi=>[.int .i64 (x.g i)]) [])]
def ap4:Ctr:={X:=afU,args:=λx=>[.slW 0 0 1 x.n,i64 x.v],k:=1,os:=afU.os,pre:=λx=>Hd (x.n<1000),outs:=[
 {Y:=Nat,post:=λx i=>Hd (i<x.n/\x.g i=x.v/\ ∀j,j<i->x.g j≠x.v),ret:=λ_ i=>i64 i,m:=1,os:=λx _=>x.os},
 {Y:=Unit,post:=λx _=>Hd (∀j,j<x.n->x.g j≠x.v),ret:=λ_ _=>i64 (-1),m:=1,os:=λx _=>x.os}]}
def asU(x:afU):FuncId->pX:=λf=>bif Nat.beq f 173 then(λb _ _=>bif Nat.beq b 0 then [
 {σ:=Nat,fr:=λi=>[(8,i64 i)],ob:=λ_=>[],inv:=λi=>Hd (i<=x.n/\ ∀j,j<i->x.g j≠x.v),meas:=λi=>x.n-i}]else [])elseλ_ _ _=>[]
def alp:jd:=[(113,ctrT yZ)]
def tblS2:jd:=[(115,ctrT aoh)]
def tblS3:jd:=[(113,ctrT yZ),(131,ctrT PE)]
def UE(a:afU):Prop:=(a.n=a.n/\ ∀q:Nat,q<a.n->[Value.int .i64 (a.g q)]=[Value.int .i64 (a.g q)])/\True
def ap5:Prop:=Value.slice none 0 0=Value.slice none 0 0/\True
def alq(a:Int):Prop:=(∃y_2:Unit,Hd (spn a=0)/\ap5)\/ ∃y_2:Unit,Hd (spn a≠(0:Int))/\False/\False/\True
def alr(a:Int)(b:Nat):Prop:=Hd (spn a≠(0:Int)/\1<=b/\b<=Int.toNat ((8:Int)/spn a))
def ap6(a:Int):Prop:= ∃y:Unit,True/\ite (a<0\/32<=a) (-(1:Int)) (2+a*8)=(-(1:Int))/\True
def afV(c:Int):Prop:=
 cP (decide (c<0)) (∃y:Unit,True/\spn c=0/\True) (cP (decide (c>(3:Int))) (∃y:Unit,True/\spn c=0/\True) (0<=c/\ ∃y:Unit,True/\spn c=IntKind.wrap .i64 (1* @HPow.hPow Int Nat Int (@instHPow Int Nat (@instPowNat Int @Int.instNatPow)) (2:Int) (@Min.min Nat @instMinNat (Int.toNat c) 64))/\True))
theorem afW(c:Int):afV c=wpF Tryz.prog [] tt (noA c) 200 5 113 (yZ.args c) (hO yZ.k (yZ.os c)) (λv h'=>eF yZ.k c v h' yZ.outs):=by kernel_rfl
def ap7(c:Int):Prop:=
 ∃x:Int,True/\(x=c/\True)/\True/\ ∀y:Unit,True->cP (decide (spn x>(0:Int))) (I64 (spn x-1)/\I64 ((spn x-1)*63)/\I64 (28+(spn x-1)*63)/\ ∃y_1:Unit,True/\cpc c=28+(spn x-1)*63/\True) (∃y_1:Unit,True/\cpc c=0/\True)
theorem als(c:Int):ap7 c=wpF Tryz.prog alp tt (noA c) 200 5 115 (aoh.args c) (hO aoh.k (aoh.os c)) (λv h'=>eF aoh.k c v h' aoh.outs):=by kernel_rfl
def afX(c:Int):Prop:=
 cP (decide (c<0)) (∃y:Unit,True/\ned c=(-(1:Int))/\True) (∃x:Int,True/\(x=0/\True)/\True/\ ∀y:Unit,True->cP (decide (cpc x>=c)) (∃y_1:Unit,True/\ned c=0/\True) (I64 (1:Int)/\ ∃x_1:Int,True/\(x_1=1/\True)/\True/\ ∀y_1:Unit,True->cP (decide (cpc x_1>=c)) (∃y_2:Unit,True/\ned c=1/\True) (I64 (2:Int)/\ ∃x_2:Int,True/\(x_2=2/\True)/\True/\ ∀y_2:Unit,True->cP (decide (cpc x_2>=c)) (∃y_3:Unit,True/\ned c=2/\True) (I64 (3:Int)/\ ∃x_3:Int,True/\(x_3=3/\True)/\True/\ ∀y_3:Unit,True->cP (decide (cpc x_3>=c)) (∃y_4:Unit,True/\ned c=3/\True) (I64 (4:Int)/\ ∃y_4:Unit,True/\ned c=(-(1:Int))/\True)))))
theorem afY(c:Int):afX c=wpF Tryz.prog tblS2 tt (noA c) 200 5 201 (UD.args c) (hO UD.k (UD.os c)) (λv h'=>eF UD.k c v h' UD.outs):=by kernel_rfl
def afZ(c:Int):Prop:=
 cP (decide (c<0)) (ap6 c) (cP (decide (c>=(32:Int))) (ap6 c) (I64 (c*8)/\I64 (2+c*8)/\ ∃y:Unit,True/\ite (c<0\/32<=c) (-(1:Int)) (2+c*8)=2+c*8/\True))
theorem af0(c:Int):afZ c=wpF Tryz.prog [] tt (noA c) 200 5 131 (PE.args c) (hO PE.k (PE.os c)) (λv h'=>eF PE.k c v h' PE.outs):=by kernel_rfl
def JD(c:Int):Prop:=
 cP (decide (c<2)) (∃y:Unit,True/\slb c=(-(1:Int))/\True) (cP (decide (c>=(258:Int))) (∃y:Unit,True/\slb c=(-(1:Int))/\True) (I64 (c-2)/\((8:Int)=0->False)/\I64 (Int.tdiv (c-2) (8:Int))/\ ∃y:Unit,True/\slb c=Int.tdiv (c-2) (8:Int)/\True))
theorem UF(c:Int):JD c=wpF Tryz.prog [] tt (noA c) 200 5 172 (vg.args c) (hO vg.k (vg.os c)) (λv h'=>eF vg.k c v h' vg.outs):=by kernel_rfl
def JE(x:iH):Prop:=
 ∃x_1:Int,True/\(x_1=x.c/\True)/\True/\ ∀y:Unit,True-> ∃x_2:Int,True/\(x_2=(x.k:Int)/\True)/\True/\ ∀y_1:Unit,True->cP (BEq.beq (spn x_1) (0:Int)) (alq x.c) (cP (decide (ite (x_2<0\/32<=x_2) (-(1:Int)) (2+x_2*8)<0)) (alq x.c) ((spn x_1=0->False)/\I64 (Int.tdiv (8:Int) (spn x_1))/\(∃s:Unit,Hd (spn x.c≠(0:Int))/\True/\((0:Int)=0/\ap5)/\True)/\(∀s:Unit,Hd (spn x.c≠(0:Int))->cP (decide (0<Int.tdiv (8:Int) (spn x_1))) (I64 (0*spn x_1)/\I64 (ite (x_2<0\/32<=x_2) (-(1:Int)) (2+x_2*8)+0*spn x_1)/\(2*(0+1)+1000)*8<=281474976710656/\I64 (1:Int)/\ ∃s_1:Nat,alr x.c s_1/\8-s_1<9/\((s_1:Int)=1/\(0=0/\s_1=1)/\True)/\(s_1=0+List.length [List.take 1 [Value.int .i64 (ite (x_2<0\/32<=x_2) (-(1:Int)) (2+x_2*8)+0*spn x_1)]]/\ ∀q:Nat,q<s_1->[Value.int .i64 (2+(x.k:Int)*8+(q:Int)*spn x.c)]=Cs.eff (λ(x_3:Nat)=>[]) [(0,List.take 1 [Value.int .i64 (ite (x_2<0\/32<=x_2) (-(1:Int)) (2+x_2*8)+0*spn x_1)])] q)/\True) (alq x.c))/\(∀s:Nat,alr x.c s->cP (decide ((s:Int)<Int.tdiv (8:Int) (spn x_1))) (I64 ((s:Int)*spn x_1)/\I64 (ite (x_2<0\/32<=x_2) (-(1:Int)) (2+x_2*8)+(s:Int)*spn x_1)/\s=s/\List.all [List.take 1 [Value.int .i64 (ite (x_2<0\/32<=x_2) (-(1:Int)) (2+x_2*8)+(s:Int)*spn x_1)]] (λ(l:List Value)=>Nat.beq (List.length l) 1&&List.all l Value.oneCell')=true/\(2*(s+1)+1000)*8<=281474976710656/\I64 ((s:Int)+1)/\ ∃s_1:Nat,alr x.c s_1/\8-s_1<8-s/\((s_1:Int)=(s:Int)+1/\(0=0/\s_1=s+1)/\True)/\
 (s_1=s+List.length [List.take 1 [Value.int .i64 (ite (x_2<0\/32<=x_2) (-(1:Int)) (2+x_2*8)+(s:Int)*spn x_1)]]/\ ∀q:Nat,q<s_1->[Value.int .i64 (2+(x.k:Int)*8+(q:Int)*spn x.c)]=Cs.eff (λ(i:Nat)=>[Value.int .i64 (2+(x.k:Int)*8+(i:Int)*spn x.c)]) [(s,List.take 1 [Value.int .i64 (ite (x_2<0\/32<=x_2) (-(1:Int)) (2+x_2*8)+(s:Int)*spn x_1)])] q)/\True) ((∃y_2:Unit,Hd (spn x.c=0)/\False/\True)\/ ∃y_2:Unit,Hd (spn x.c≠(0:Int))/\(0=0/\Int.toNat ((8:Int)/spn x.c)=s)/\(Int.toNat ((8:Int)/spn x.c)=s/\ ∀q:Nat,q<Int.toNat ((8:Int)/spn x.c)->[Value.int .i64 (2+(x.k:Int)*8+(q:Int)*spn x.c)]=[Value.int .i64 (2+(x.k:Int)*8+(q:Int)*spn x.c)])/\True))/\True))
theorem UG(x:iH):JE x=wpF Tryz.prog tblS3 tt (Zl x) 200 5 73 (vk.args x) (hO vk.k (vk.os x)) (λv h'=>eF vk.k x v h' vk.outs):=by kernel_rfl
def ap8(x:afU):Prop:=
 (∃s:Nat,Hd (s<=x.n/\ ∀j:Nat,j<s->x.g j≠x.v)/\True/\((s:Int)=0/\True)/\UE x)/\(∀s:Nat,Hd (s<=x.n/\ ∀j:Nat,j<s->x.g j≠x.v)->cP (decide ((s:Int)<(x.n:Int))) ((0<=(s:Int)/\(s:Int)<(x.n:Int))/\0+s<x.n/\cP (BEq.beq x.v (x.g (0+s))) ((∃y:Nat,Hd (y<x.n/\x.g y=x.v/\ ∀j:Nat,j<y->x.g j≠x.v)/\(y:Int)=(s:Int)/\UE x)\/ ∃y:Unit,Hd (∀j:Nat,j<x.n->x.g j≠x.v)/\(-(1:Int))=(s:Int)/\UE x) (I64 ((s:Int)+1)/\ ∃s_1:Nat,Hd (s_1<=x.n/\ ∀j:Nat,j<s_1->x.g j≠x.v)/\x.n-s_1<x.n-s/\((s_1:Int)=(s:Int)+1/\True)/\UE x)) ((∃y:Nat,Hd (y<x.n/\x.g y=x.v/\ ∀j:Nat,j<y->x.g j≠x.v)/\(y:Int)=(-(1:Int))/\UE x)\/ ∃y:Unit,Hd (∀j:Nat,j<x.n->x.g j≠x.v)/\(-(1:Int))=(-(1:Int))/\UE x))/\True
theorem alu(x:afU):ap8 x=wpF Tryz.prog [] tt (asU x) 200 5 173 (ap4.args x) (hO ap4.k (ap4.os x)) (λv h'=>eF ap4.k x v h' ap4.outs):=by kernel_rfl
theorem dR(c:Int):(c=0/\spn c=1/\cpc c=28)\/(c=1/\spn c=2/\cpc c=91)\/(c=2/\spn c=4/\cpc c=217)\/(c=3/\spn c=8/\cpc c=469)\/((c<0\/3<c)/\spn c=0/\cpc c=0):=by
 by_cases h0:c=0
 ·subst h0;simp[spn,cpc]
 by_cases h1:c=1
 ·subst h1;simp[spn,cpc]
 by_cases h2:c=2
 ·subst h2;simp[spn,cpc]
 by_cases h3:c=3
 ·subst h3;simp[spn,cpc]
 simp[spn,cpc,h0,h1,h2,h3];omega
theorem UH(c:Int):afV c:=by
 unfold afV;simp only[aZ,aV,aU,aA,aI,bQ,bF,aO,aK,ay,aX,aW,bU,bG,bH,bI,bV,bC,bJ,bn,eG,aH,aN,ah,ak,aB,aF,aC,aG,qy,decide_eq_true_eq,decide_eq_false_iff_not];refine⟨λh=> ?_,λh=>⟨λh2=> ?_,λh2=>⟨by omega,?_⟩⟩⟩
 ·rcases dR c with h'|h'|h'|h'|h'<;>omega
 ·rcases dR c with h'|h'|h'|h'|h'<;>omega
 ·have:c=0\/c=1\/c=2\/c=3:=by omega
  rcases this with rfl|rfl|rfl|rfl<;>decide
theorem abJ(c:Int):ap7 c:=by
 unfold ap7;simp only[aZ,aV,aU,aA,aI,bQ,bF,aO,aK,ay,aX,aW,bU,bG,bH,bI,bV,bC,bJ,bn,eG,aH,aN,ah,ak,aB,aF,aC,aG,qy,decide_eq_true_eq,decide_eq_false_iff_not];unfold I64;rcases dR c with h'|h'|h'|h'|h'<;>omega
theorem UJ(c:Int):afX c:=by
 unfold afX;simp only[aZ,aV,aU,aA,aI,bQ,bF,aO,aK,ay,aX,aW,bU,bG,bH,bI,bV,bC,bJ,bn,eG,aH,aN,ah,ak,aB,aF,aC,aG,qy,decide_eq_true_eq,decide_eq_false_iff_not];unfold I64 ned;have e:cpc 0=28/\cpc 1=91/\cpc 2=217/\cpc 3=469:=⟨rfl,rfl,rfl,rfl⟩;obtain⟨e0,e1,e2,e3⟩:=e;rw[e0,e1,e2,e3];grind
theorem UK(c:Int):afZ c:=by
 unfold afZ;simp only[ap6];simp only[aZ,aV,aU,aA,aI,bQ,bF,aO,aK,ay,aX,aW,bU,bG,bH,bI,bV,bC,bJ,bn,eG,aH,aN,ah,ak,aB,aF,aC,aG,qy,decide_eq_true_eq,decide_eq_false_iff_not];unfold I64;grind
theorem JF(c:Int):JD c:=by
 unfold JD;simp only[aZ,aV,aU,aA,aI,bQ,bF,aO,aK,ay,aX,aW,bU,bG,bH,bI,bV,bC,bJ,bn,eG,aH,aN,ah,ak,aB,aF,aC,aG,qy,decide_eq_true_eq,decide_eq_false_iff_not];refine⟨λh=>by unfold slb;rw[if_pos (by omega)],λh=>⟨λh2=>by unfold slb;rw[if_pos (by omega)],λh2=> ?_⟩⟩;have e:(c-2).tdiv 8=(c-2)/8:=Int.tdiv_eq_ediv_of_nonneg (by omega);rw[e];exact⟨by unfold I64;omega,by decide,by unfold I64;omega,by unfold slb;rw[if_neg (by omega)]⟩
theorem JG(x:iH)(hx:x.k<32):JE x:=by
 unfold JE;simp only[alq,ap5,alr];simp only[aZ,aV,aU,aA,aI,bQ,bF,aO,aK,ay,aX,aW,bU,bG,bH,bI,bV,bC,bJ,bn,eG,aH,aN,ah,ak,aB,aF,aC,aG];have hf:(if (x.k:Int)<0\/32<=(x.k:Int)then(-1:Int)else 2+x.k*8)=2+x.k*8:=if_neg (by omega);rw[hf];have hs:=dR x.c;have hdiv:spn x.c≠0->Int.tdiv 8 (spn x.c)=8/spn x.c/\1<=8/spn x.c/\8/spn x.c<=8/\0<spn x.c/\spn x.c<=8/\(8/spn x.c)*spn x.c=8:=λh=>by
  rcases hs with h'|h'|h'|h'|h'<;>obtain⟨_,e,_⟩:=h'<;>rw[e]<;>first|decide|exact(h e).elim
 refine bf (λh=> .inl (by simpa using h)) λh=>bf (λh2=>absurd (aS h2) (by omega)) λ_=> ?_
 have hz:spn x.c≠0:=by simpa using h
 obtain⟨e1,e2,e3,e4,e5,e6⟩:=hdiv hz
 have hm: ∀s:Nat,(s:Int)<=8->(s:Int)*spn x.c<=64/\0<=(s:Int)*spn x.c:=λs hs=>⟨by
  have:=Int.mul_le_mul hs e5 (by omega) (by omega:(0:Int)<=8);omega,Int.mul_nonneg (by omega) (by omega)⟩
 rw[e1];refine⟨hz,by unfold I64;omega,hz,λ_=>bf (λ_=> ?_) λh=>absurd (aT h) (by omega),λs hs=>bf (λh=> ?_) λh=> ?_⟩
 ·refine⟨by unfold I64;omega,by unfold I64;omega,by omega,by unfold I64;omega,1,⟨hz,by omega,by omega⟩,by omega,⟨rfl,rfl⟩,rfl,λq hq=> ?_⟩
  have:q=0:=by omega
  subst this;simp[Cs.eff]
 ·have h:=aS h
  obtain⟨_,h1,h2⟩:=hs;obtain⟨m1,m2⟩:=hm s (by omega);refine⟨by unfold I64;omega,by unfold I64;omega,rfl,by omega,by unfold I64;omega,s+1,⟨hz,by omega,by omega⟩,by omega,⟨by omega,rfl⟩,rfl,λq hq=> ?_⟩;simp only[Cs.eff,bT,dw,dA,dI,<-Bool.decide_and];by_cases e:q=s
  ·subst e;rw[if_pos rfl];rfl
  ·rw[if_neg e]
 ·have h:=aT h
  exact .inr ⟨hz,by omega⟩
theorem abK(x:afU)(hx:x.n<1000):ap8 x:=by
 unfold ap8;simp only[UE];simp only[aZ,aV,aU,aA,aI,bQ,bF,aO,aK,ay,aX,aW,bU,bG,bH,bI,bV,bC,bJ,bn,eG,aH,aN,ah,ak,aB,aF,aC,aG];refine⟨⟨0,⟨Nat.zero_le _,λj hj=>absurd hj (Nat.not_lt_zero j)⟩,Int.natCast_zero⟩,λs hs=>bf (λh=> ?_) λh=> ?_⟩
 ·have h:=aS h
  refine⟨by omega,by omega,bf (λe=> .inl ⟨s,⟨by omega,(beq_iff_eq.1 e).symm,hs.2⟩,rfl⟩) λe=>⟨by unfold I64;omega,s+1,⟨by omega,λj hj=> ?_⟩,by omega,by omega⟩⟩;by_cases e':j=s
  ·subst e';intro h';simp[h']at e
  ·exact hs.2 j (by omega)
 ·have h:=aT h
  exact .inr λj hj=>hs.2 j (by omega)
theorem ng:bZ Tryz.prog 113 yZ:=dM dD mixed dX.nil noA 200 5 (λ_=>rfl) (λ_=>rfl) λx _=>Eq.mp (afW x) (UH x)
theorem aoi:bZ Tryz.prog 115 aoh:=dM dD mixed (.cons (bM ng) .nil) noA 200 5 (λ_=>rfl) (λ_=>rfl) λx _=>Eq.mp (als x) (abJ x)
theorem af2:bZ Tryz.prog 201 UD:=dM dD mixed (.cons (bM aoi) .nil) noA 200 5 (λ_=>rfl) (λ_=>rfl) λx _=>Eq.mp (afY x) (UJ x)
theorem af4:bZ Tryz.prog 131 PE:=dM dD mixed dX.nil noA 200 5 (λ_=>rfl) (λ_=>rfl) λx _=>Eq.mp (af0 x) (UK x)
theorem af5:bZ Tryz.prog 172 vg:=dM dD mixed dX.nil noA 200 5 (λ_=>rfl) (λ_=>rfl) λx _=>Eq.mp (UF x) (JF x)
theorem PG:bZ Tryz.prog 73 vk:=iZ dD mixed (.cons (bM ng) (.cons (bM af4) .nil)) Zl 200 5 (λ_=>rfl) (λ_=>⟨λ_=>rfl,λ_=>rfl,trivial⟩) λx hx=>Eq.mp (UG x) (JG x (aZ.1 hx))
theorem asV:bZ Tryz.prog 173 ap4:=iZ dD mixed .nil asU 200 5 (λ_=>rfl) (λ_=>⟨λ_=>rfl,λ_=>rfl,trivial⟩) λx hx=>Eq.mp (alu x) (abK x (aZ.1 hx))
structure ZPool where
 n:Nat
 cls:Nat->Int
 tk:Nat->Nat->Bool
 cnt:Nat->Int
noncomputable def fZ(p:ZPool)(q:Nat):List Value:=hide [if q%10=0 then .int .i64 (p.cls (q/10))else if q%10=9 then .int .i64 (p.cnt (q/10))else .bool (p.tk (q/10) (q%10-1))]
theorem jV(p:ZPool)(q:Nat):fZ p q=[if q%10=0 then .int .i64 (p.cls (q/10))else if q%10=9 then .int .i64 (p.cnt (q/10))else .bool (p.tk (q/10) (q%10-1))]:=gW _
namespace ZPool
def ok(p:ZPool):Prop:=1<=p.n/\p.n<=32/\ ∀i,i<p.n-> -1<=p.cls i/\p.cls i<=3/\0<=p.cnt i/\p.cnt i<=8
noncomputable def UL(p:ZPool):dB:= .cells 177 (.row 1 (p.n*10) (fZ p) [])
noncomputable def os(p:ZPool):List dB:=[.cells 245 (.av [.slE 1 0 10 p.n p.n]),p.UL]
def many(c:Int):Nat:=(8/spn c).toNat
def full(p:ZPool)(c:Int)(i:Nat):Prop:=p.cls i=c-> ∀k,k<many c->p.tk i k=true
def takes(p:ZPool)(c:Int)(i k:Nat):Prop:=i<p.n/\k<many c/\p.tk i k=(if p.cls i=c then false else p.tk i k)/\
 ((p.cls i=c/\(∀j,j<k->p.tk i j=true)/\ ∀j,j<i->p.full c j)\/(p.cls i= -1/\k=0/\(∀j,j<p.n->p.full c j)/\ ∀j,j<i->p.cls j≠ -1))
def take(p:ZPool)(c:Int)(i k:Nat):ZPool:={p with cls:=λj=>if j=i then c else p.cls j,tk:=λj q=>if j=i/\q=k then true else p.tk j q,cnt:=λj=>if j=i then p.cnt j+1 else p.cnt j}
def give(p:ZPool)(i k:Nat):ZPool:={p with cls:=λj=>if j=i/\p.cnt j=1 then-1 else p.cls j,tk:=λj q=>if j=i/\q=k then false else p.tk j q,cnt:=λj=>if j=i then p.cnt j-1 else p.cnt j}
end ZPool
def eX(n i:Nat):ZPool:=⟨n,λj=>if j<i then-1 else 0,λ_ _=>false,λ_=>0⟩
noncomputable def aoj(n:Nat):FuncId->pX:=λf=>bif Nat.beq f 82 then(λb _ _=>bif Nat.beq b 0 then [
 {σ:=Nat,fr:=λi=>[(22,i64 i)],ob:=λi=>[(0,some (eX n i).UL)],inv:=λi=>i<=n,meas:=λi=>n-i}]else [])elseλ_ _ _=>[]
structure xK where
 p:ZPool
 i:Nat
noncomputable def UM:Ctr:={X:=xK,args:=λx=>[.nK 0 x.i 10 0],k:=1,os:=λx=>[x.p.UL],pre:=λx=>Hd (x.p.ok/\x.i<x.p.n/\0<=x.p.cls x.i),outs:=[
 {Y:=Nat,post:=λx k=>Hd (k<ZPool.many (x.p.cls x.i)/\x.p.tk x.i k=false/\ ∀j,j<k->x.p.tk x.i j=true),ret:=λ_ k=>i64 k,m:=1,os:=λx _=>[x.p.UL]},
 {Y:=Unit,post:=λx _=>Hd (∀k,k<ZPool.many (x.p.cls x.i)->x.p.tk x.i k=true),ret:=λ_ _=>i64 (-1),m:=1,os:=λx _=>[x.p.UL]}]}
noncomputable def aok(x:xK):FuncId->pX:=λf=>bif Nat.beq f 276 then(λb _ _=>bif Nat.beq b 0 then [
 {σ:=Nat,fr:=λk=>[(10,i64 k)],ob:=λ_=>[],inv:=λk=>Hd (k<=ZPool.many (x.p.cls x.i)/\ ∀j,j<k->x.p.tk x.i j=true),meas:=λk=>8-k}]else [])elseλ_ _ _=>[]
structure lK where
 p:ZPool
 c:Int
noncomputable def af6:jw:={X:=lK,args:=λx=>[.ptr 0 0,i64 x.c],k:=1,l:=λx=>[.m x.p.os],pre:=λx=>Hd x.p.ok,outs:=[
 {Y:=Unit,post:=λx _=>Hd (spn x.c=0),ret:=λ_ _=> .tup [i64 0,i64 1],m:=1,l:=λx _=>[.m x.p.os]},
 {Y:=Unit,post:=λx _=>Hd (spn x.c≠0/\ ∀i,i<x.p.n->x.p.cls i≠ -1/\x.p.full x.c i),ret:=λ_ _=> .tup [i64 0,i64 4],m:=1,l:=λx _=>[.m x.p.os]},
 {Y:=Nat×Nat,post:=λx y=>Hd (spn x.c≠0/\x.p.takes x.c y.1 y.2),ret:=λx y=> .tup [i64 (2+y.1*8+y.2*spn x.c),i64 0],m:=1,l:=λx y=>[.m (x.p.take x.c y.1 y.2).os]}]}
noncomputable def aol(x:lK):FuncId->pX:=λf=>bif Nat.beq f 242 then(λb _ _=>
 bif Nat.beq b 0 then [{σ:=Nat,fr:=λi=>[(14,i64 i)],ob:=λ_=>[],inv:=λi=>Hd (i<=x.p.n/\ ∀j,j<i->x.p.full x.c j),meas:=λi=>x.p.n-i}]else
 bif Nat.beq b 2 then [{σ:=Nat,fr:=λi=>[(39,i64 i)],ob:=λ_=>[],inv:=λi=>Hd (i<=x.p.n/\(∀j,j<x.p.n->x.p.full x.c j)/\ ∀j,j<i->x.p.cls j≠ -1),meas:=λi=>x.p.n-i}]else [])elseλ_ _ _=>[]
noncomputable def UN:Ctr:={X:=lK,args:=λx=>[.ptr 0 0,i64 x.c],k:=2,os:=λx=>x.p.os,pre:=λx=>Hd (x.p.ok/\spn x.c≠0),outs:=[
 {Y:=Unit,post:=λx _=>Hd (∀i,i<x.p.n->x.p.cls i≠ -1/\x.p.full x.c i),ret:=λ_ _=> .tup [i64 0,i64 0,boo false],m:=2,os:=λx _=>x.p.os},
 {Y:=Nat×Nat,post:=λx y=>Hd (x.p.takes x.c y.1 y.2),ret:=λ_ y=> .tup [i64 y.1,i64 y.2,boo true],m:=2,os:=λx _=>x.p.os}]}
structure DZ where
 p:ZPool
 c:Int
 i:Nat
 k:Nat
noncomputable def D5:Ctr:=det DZ (λx=>[.nK 0 x.i 10 0,i64 x.c,i64 x.k]) 1 (λx=>[x.p.UL]) (λx=>Hd (x.p.ok/\x.i<x.p.n/\x.k<8)) (λ_=> .tup []) 1 (λx=>[(x.p.take x.c x.i x.k).UL])
structure fJ where
 p:ZPool
 i:Nat
 k:Nat
def fJ.ok(x:fJ):Prop:=x.p.ok/\x.i<x.p.n/\0<=x.p.cls x.i/\x.k<ZPool.many (x.p.cls x.i)/\x.p.tk x.i x.k=true
def fJ.line(x:fJ):Int:=2+x.i*8+x.k*spn (x.p.cls x.i)
noncomputable def atC:Ctr:=det fJ (λx=>[.ptr 0 0,i64 x.line]) 2 (λx=>x.p.os) (λx=>Hd x.ok) (λx=> .tup [.nK 1 x.i 10 0,i64 x.k,boo true]) 2 (λx=>x.p.os)
noncomputable def af7:jw:=qC fJ (λx=>[.ptr 0 0,i64 x.line]) 1 (λx=>[.m x.p.os]) (λx=>Hd x.ok) (λ_=>i64 0) 1 (λx=>[.m (x.p.give x.i x.k).os])
noncomputable def ofP:jw:=qC fJ (λx=>[.ptr 0 0,i64 x.line]) 1 (λx=>[.m x.p.os]) (λx=>Hd x.ok) (λx=> .tup [i64 (x.p.cls x.i),boo true]) 1 (λx=>[.m x.p.os])
noncomputable def tblP0:jd:=[(276,ctrT UM)]
noncomputable def tblP1:jd:=[(113,ctrT yZ),(131,ctrT PE),(242,ctrT UN),(243,ctrT D5)]
noncomputable def tblP2:jd:=[(113,ctrT yZ),(172,ctrT vg),(73,ctrT vk),(173,ctrT ap4)]
noncomputable def asW:jd:=[(116,ctrT atC)]
def xM(a:Nat)(b:Nat):Prop:=(0=0/\a=b/\a=b)/\True
def alv(a:Int)(b:fJ)(c:fJ)(d:Int):Prop:=cP (BEq.beq a (0:Int)) (b.i*10+0<b.p.n*10/\ ∃y_1:Unit,True/\(0:Int)=0/\xM c.p.n b.p.n/\(c.p.n*10=b.p.n*10/\ ∀q:Nat,q<c.p.n*10->Cs.eff (fZ (c.p.give c.i c.k)) [] q=Cs.eff (fZ b.p) [(b.i*10+0,[Value.int .i64 (-(1:Int))]),(b.i*10+9,[Value.int .i64 (d-1)]),(b.i*10+(1+b.k*1),[Value.bool false])] q)/\True) (∃y_1:Unit,True/\(0:Int)=0/\xM c.p.n b.p.n/\(c.p.n*10=b.p.n*10/\ ∀q:Nat,q<c.p.n*10->Cs.eff (fZ (c.p.give c.i c.k)) [] q=Cs.eff (fZ b.p) [(b.i*10+9,[Value.int .i64 (d-1)]),(b.i*10+(1+b.k*1),[Value.bool false])] q)/\True)
def ap9(a:Int)(b:fJ)(c:fJ):Prop:=I64 (a-1)/\b.i*10+9<b.p.n*10/\b.i*10+9<b.p.n*10/\cP (Nat.beq (b.i*10+9) (b.i*10+9)) (∃z_1:Int,some (Value.int .i64 (a-1))=some (Value.int .i64 z_1)/\alv z_1 b c a) (cP (Nat.beq (b.i*10+9) (b.i*10+(1+b.k*1))) (∃z_1:Int,some (Value.bool false)=some (Value.int .i64 z_1)/\alv z_1 b c a) (∃z_1:Int,getElem? (fZ b.p (b.i*10+9)) 0=some (Value.int .i64 z_1)/\alv z_1 b c a))
def xO(a:ZPool):Prop:=a.n*10=a.n*10/\ ∀q:Nat,q<a.n*10->Cs.eff (fZ a) [] q=Cs.eff (fZ a) [] q
def Gi(a:ZPool)(b:ZPool):Prop:=a.n*10=b.n*10/\ ∀q:Nat,q<a.n*10->Cs.eff (fZ a) [] q=Cs.eff (fZ b) [] q
def Zm(a:Int)(b:DZ):Prop:=I64 (a+1)/\b.i*10+9<b.p.n*10/\ ∃y:Unit,True/\True/\(b.p.n*10=b.p.n*10/\ ∀q:Nat,q<b.p.n*10->Cs.eff (fZ (b.p.take b.c b.i b.k)) [] q=Cs.eff (fZ b.p) [(b.i*10+9,[Value.int .i64 (a+1)]),(b.i*10+(1+b.k*1),[Value.bool true]),(b.i*10+0,[Value.int .i64 b.c])] q)/\True
def nY(a:Nat):Prop:=(0=0/\a=a/\a=a)/\True
def qA(a:ZPool):Prop:=nY a.n/\xO a/\True
def xP(a:ZPool)(b:ZPool):Prop:=xM a.n b.n/\Gi a b/\True
def Zn(a:Nat)(b:lK):Prop:=Hd (a<=b.p.n/\(∀j:Nat,j<b.p.n->b.p.full b.c j)/\ ∀j:Nat,j<a->b.p.cls j≠(-(1:Int)))
def Ia(a:lK):Prop:=Hd (∀i:Nat,i<a.p.n->a.p.cls i≠(-(1:Int))/\a.p.full a.c i)
def PI(a:ZPool):Prop:=xO a/\nY a.n/\True
def Zo(a:lK):Prop:=Hd (spn a.c≠(0:Int)/\ ∀i:Nat,i<a.p.n->a.p.cls i≠(-(1:Int))/\a.p.full a.c i)
def PK(a:Nat)(b:xK):Prop:=Hd (a<ZPool.many (b.p.cls b.i)/\b.p.tk b.i a=false/\ ∀j:Nat,j<a->b.p.tk b.i j=true)
def Zp(a:Nat)(b:xK):Prop:=Hd (a<=ZPool.many (b.p.cls b.i)/\ ∀j:Nat,j<a->b.p.tk b.i j=true)
def PL(a:Nat)(b:lK):Prop:=Hd (a<=b.p.n/\ ∀j:Nat,j<a->b.p.full b.c j)
def PN(a:xK):Prop:=Hd (∀k:Nat,k<ZPool.many (a.p.cls a.i)->a.p.tk a.i k=true)
def af8(a:ZPool)(b:Nat)(c:DZ):Prop:=xM a.n b/\(a.n*10=c.p.n*10/\ ∀q:Nat,q<a.n*10->Cs.eff (fZ a) [] q=Cs.eff (fZ (c.p.take c.c c.i c.k)) [] q)/\True
def xQ(a:Nat):Prop:=0<=(a:Int)/\(a:Int)<8
def Zq:Prop:= ∃y:Unit,True/\(False/\(0:Int)=2/\True)/\False/\False/\True
def xR(a:Nat)(b:Nat):Prop:=(a:Int)=(b:Int)+1/\True
def af9(a:fJ):Prop:= ∃y_1:Unit,True/\(False/\(a.k:Int)=0/\true=false/\True)/\qA a.p
def aga(n:Nat):Prop:=
 cP (decide ((n:Int)<1)) Zq (I64 (256:Int)/\((8:Int)=0->False)/\I64 (32:Int)/\cP (decide ((n:Int)>(32:Int))) Zq ((0<=(n:Int)/\(n:Int)<=(n:Int)/\24*(n:Int)<=281474976710656/\(n:Int)<4611686018427387904)/\(∃s:Nat,s<=n/\True/\((s:Int)=0/\True)/\nY n/\(n*10=n*10/\ ∀q:Nat,∀j:Nat,q<n->j<10-> ∃v:Value,getElem? [Value.int .i64 0,Value.bool false,Value.bool false,Value.bool false,Value.bool false,Value.bool false,Value.bool false,Value.bool false,Value.bool false,Value.int .i64 0] j=some v/\Cs.eff (fZ (eX n s)) [] (q*10+j)=[v])/\True)/\(∀s:Nat,s<=n->cP (decide ((s:Int)<(n:Int))) ((0<=(s:Int)/\(s:Int)<(n:Int))/\(0+s)*10+0<n*10/\I64 ((s:Int)+1)/\ ∃s_1:Nat,s_1<=n/\n-s_1<n-s/\xR s_1 s/\nY n/\(n*10=n*10/\ ∀q:Nat,q<n*10->Cs.eff (fZ (eX n s_1)) [] q=Cs.eff (fZ (eX n s)) [((0+s)*10+0,[Value.int .i64 (-(1:Int))])] q)/\True) (∃y:Unit,True/\(0=0/\(0:Int)=0/\True)/\nY n/\(n*10=n*10/\ ∀q:Nat,q<n*10->Cs.eff (fZ (eX n n)) [] q=Cs.eff (fZ (eX n s)) [] q)/\True))/\True))
def agb(x:xK):Prop:=
 x.i*10+0<x.p.n*10/\ ∃z:Int,getElem? (fZ x.p (x.i*10+0)) 0=some (Value.int .i64 z)/\ ∃x_1:Int,True/\(x_1=z/\True)/\True/\ ∀y:Unit,True->(spn x_1=0->False)/\I64 (Int.tdiv (8:Int) (spn x_1))/\(∃s:Nat,Zp s x/\True/\((s:Int)=0/\True)/\xO x.p/\True)/\(∀s:Nat,Zp s x->cP (decide ((s:Int)<Int.tdiv (8:Int) (spn x_1))) (xQ s/\x.i*10+(1+s*1)<x.p.n*10/\ ∃b:Bool,getElem? (fZ x.p (x.i*10+(1+s*1))) 0=some (Value.bool b)/\cP (Bool.not b) ((∃y_1:Nat,PK y_1 x/\(y_1:Int)=(s:Int)/\xO x.p/\True)\/ ∃y_1:Unit,PN x/\(-(1:Int))=(s:Int)/\xO x.p/\True) (I64 ((s:Int)+1)/\ ∃s_1:Nat,Zp s_1 x/\8-s_1<8-s/\xR s_1 s/\xO x.p/\True)) ((∃y_1:Nat,PK y_1 x/\(y_1:Int)=(-(1:Int))/\xO x.p/\True)\/ ∃y_1:Unit,PN x/\(-(1:Int))=(-(1:Int))/\xO x.p/\True))/\True
theorem agc(x:xK):agb x=wpF Tryz.prog alp tt (aok x) 200 5 276 (UM.args x) (hO UM.k (UM.os x)) (λv h'=>eF UM.k x v h' UM.outs):=by kernel_rfl
def agd(x:lK):Prop:=
 (∃s:Nat,PL s x/\True/\((s:Int)=0/\True)/\PI x.p)/\(∀s:Nat,PL s x->cP (decide ((s:Int)<(x.p.n:Int))) ((0<=(s:Int)/\(s:Int)<(x.p.n:Int))/\(0+s)*10+0<x.p.n*10/\ ∃z:Int,getElem? (fZ x.p ((0+s)*10+0)) 0=some (Value.int .i64 z)/\cP (BEq.beq z x.c) (∃x_1:xK,Hd (x_1.p.ok/\x_1.i<x_1.p.n/\0<=x_1.p.cls x_1.i)/\((x_1.i=0+s/\0=0)/\True)/\(Gi x_1.p x.p/\True)/\(∀y:Nat,PK y x_1->(∃y_1:Unit,Ia x/\(0=(s:Int)/\0=(y:Int)/\false=true/\True)/\nY x.p.n/\Gi x.p x_1.p/\True)\/ ∃y_1:Prod Nat Nat,Hd (x.p.takes x.c y_1.1 y_1.2)/\((y_1.1:Int)=(s:Int)/\(y_1.2:Int)=(y:Int)/\true=true/\True)/\nY x.p.n/\Gi x.p x_1.p/\True)/\ ∀y:Unit,PN x_1->I64 ((s:Int)+1)/\ ∃s_1:Nat,PL s_1 x/\x.p.n-s_1<x.p.n-s/\xR s_1 s/\Gi x.p x_1.p/\nY x.p.n/\True) (I64 ((s:Int)+1)/\ ∃s_1:Nat,PL s_1 x/\x.p.n-s_1<x.p.n-s/\xR s_1 s/\PI x.p)) ((∃s_1:Nat,Zn s_1 x/\True/\((s_1:Int)=0/\True)/\PI x.p)/\(∀s_1:Nat,Zn s_1 x->cP (decide ((s_1:Int)<(x.p.n:Int))) ((0<=(s_1:Int)/\(s_1:Int)<(x.p.n:Int))/\(0+s_1)*10+0<x.p.n*10/\ ∃z:Int,getElem? (fZ x.p ((0+s_1)*10+0)) 0=some (Value.int .i64 z)/\cP (BEq.beq z (-(1:Int))) ((∃y:Unit,Ia x/\(0=(s_1:Int)/\(0:Int)=0/\false=true/\True)/\qA x.p)\/ ∃y:Prod Nat Nat,Hd (x.p.takes x.c y.1 y.2)/\((y.1:Int)=(s_1:Int)/\(y.2:Int)=0/\true=true/\True)/\qA x.p) (I64 ((s_1:Int)+1)/\ ∃s_2:Nat,Zn s_2 x/\x.p.n-s_2<x.p.n-s_1/\xR s_2 s_1/\PI x.p)) ((∃y:Unit,Ia x/\((0:Int)=0/\(0:Int)=0/\false=false/\True)/\
 qA x.p)\/ ∃y:Prod Nat Nat,Hd (x.p.takes x.c y.1 y.2)/\((y.1:Int)=0/\(y.2:Int)=0/\true=false/\True)/\qA x.p))/\True))/\True
theorem agf(x:lK):agd x=wpF Tryz.prog tblP0 tt (aol x) 200 5 242 (UN.args x) (hO UN.k (UN.os x)) (λv h'=>eF UN.k x v h' UN.outs):=by kernel_rfl
def UO(x:DZ):Prop:=
 x.i*10+0<x.p.n*10/\xQ x.k/\x.i*10+(1+x.k*1)<x.p.n*10/\x.i*10+9<x.p.n*10/\cP (Nat.beq (x.i*10+9) (x.i*10+(1+x.k*1))) (∃z:Int,some (Value.bool true)=some (Value.int .i64 z)/\Zm z x) (cP (Nat.beq (x.i*10+9) (x.i*10+0)) (∃z:Int,some (Value.int .i64 x.c)=some (Value.int .i64 z)/\Zm z x) (∃z:Int,getElem? (fZ x.p (x.i*10+9)) 0=some (Value.int .i64 z)/\Zm z x))
theorem abL(x:DZ):UO x=wpF Tryz.prog [] tt (noA x) 200 5 243 (D5.args x) (hO D5.k (D5.os x)) (λv h'=>eF D5.k x v h' D5.outs):=by kernel_rfl
def agh(x:lK):Prop:=
 ∃x_1:Int,True/\(x_1=x.c/\True)/\True/\ ∀y:Unit,True->cP (BEq.beq (spn x_1) (0:Int)) ((∃y_1:Unit,Hd (spn x.c=0)/\((0:Int)=0/\(1:Int)=1/\True)/\qA x.p)\/(∃y_1:Unit,Zo x/\((0:Int)=0/\(4:Int)=1/\True)/\qA x.p)\/ ∃y_1:Prod Nat Nat,Hd (spn x.c≠(0:Int)/\x.p.takes x.c y_1.1 y_1.2)/\(2+(y_1.1:Int)*8+(y_1.2:Int)*spn x.c=0/\(0:Int)=1/\True)/\nY x.p.n/\(x.p.n*10=x.p.n*10/\ ∀q:Nat,q<x.p.n*10->Cs.eff (fZ (x.p.take x.c y_1.1 y_1.2)) [] q=Cs.eff (fZ x.p) [] q)/\True) (∃x_2:lK,Hd (x_2.p.ok/\spn x_2.c≠(0:Int))/\(0=0/\x_2.c=x.c/\True)/\xP x_2.p x.p/\(∀y_1:Unit,Ia x_2->(∃y_2:Unit,Hd (spn x.c=0)/\((0:Int)=0/\(1:Int)=4/\True)/\xP x.p x_2.p)\/(∃y_2:Unit,Zo x/\((0:Int)=0/\(4:Int)=4/\True)/\xP x.p x_2.p)\/ ∃y_2:Prod Nat Nat,Hd (spn x.c≠(0:Int)/\x.p.takes x.c y_2.1 y_2.2)/\(2+(y_2.1:Int)*8+(y_2.2:Int)*spn x.c=0/\(0:Int)=4/\True)/\xM x.p.n x_2.p.n/\(x.p.n*10=x_2.p.n*10/\ ∀q:Nat,q<x.p.n*10->Cs.eff (fZ (x.p.take x.c y_2.1 y_2.2)) [] q=Cs.eff (fZ x_2.p) [] q)/\True)/\ ∀y_1:Prod Nat Nat,Hd (x_2.p.takes x_2.c y_1.1 y_1.2)->(0<=(y_1.1:Int)/\(y_1.1:Int)<(x_2.p.n:Int))/\ ∃x_3:DZ,Hd (x_3.p.ok/\x_3.i<x_3.p.n/\x_3.k<8)/\((x_3.i=0+y_1.1/\0=0)/\x_3.c=x.c/\(x_3.k:Int)=(y_1.2:Int)/\True)/\(Gi x_3.p x_2.p/\True)/\ ∀y_2:Unit,True-> ∃x_4:Int,True/\(x_4=(y_1.1:Int)/\True)/\True/\ ∀y_3:Unit,True-> ∃x_5:Int,True/\(x_5=x.c/\True)/\True/\ ∀y_4:Unit,True->I64 ((y_1.2:Int)*spn x_5)/\I64 (ite (x_4<0\/32<=x_4) (-(1:Int)) (2+x_4*8)+(y_1.2:Int)*spn x_5)/\
 ((∃y_5:Unit,Hd (spn x.c=0)/\(0=ite (x_4<0\/32<=x_4) (-(1:Int)) (2+x_4*8)+(y_1.2:Int)*spn x_5/\(1:Int)=0/\True)/\af8 x.p x_2.p.n x_3)\/(∃y_5:Unit,Zo x/\(0=ite (x_4<0\/32<=x_4) (-(1:Int)) (2+x_4*8)+(y_1.2:Int)*spn x_5/\(4:Int)=0/\True)/\af8 x.p x_2.p.n x_3)\/ ∃y_5:Prod Nat Nat,Hd (spn x.c≠(0:Int)/\x.p.takes x.c y_5.1 y_5.2)/\(2+(y_5.1:Int)*8+(y_5.2:Int)*spn x.c=ite (x_4<0\/32<=x_4) (-(1:Int)) (2+x_4*8)+(y_1.2:Int)*spn x_5/\(0:Int)=0/\True)/\xM x.p.n x_2.p.n/\(x.p.n*10=x_3.p.n*10/\ ∀q:Nat,q<x.p.n*10->Cs.eff (fZ (x.p.take x.c y_5.1 y_5.2)) [] q=Cs.eff (fZ (x_3.p.take x_3.c x_3.i x_3.k)) [] q)/\True))
theorem agi(x:lK):agh x=wpF Tryz.prog tblP1 tt (noA x) 200 5 202 (af6.args x) (hO 2 (flatP 1 (af6.l x))) (λv h'=>endsPK 1 x v h' af6.outs):=by kernel_rfl
def atVC(x:fJ):Prop:=
 ∃x_1:Int,True/\(x_1=x.line/\True)/\True/\ ∀y:Unit,True->cP (decide (slb x_1<0)) (af9 x) (cP (decide (slb x_1>=(x.p.n:Int))) (af9 x) ((0<=slb x_1/\slb x_1<(x.p.n:Int))/\(0+Int.toNat (slb x_1))*10+0<x.p.n*10/\ ∃z:Int,getElem? (fZ x.p ((0+Int.toNat (slb x_1))*10+0)) 0=some (Value.int .i64 z)/\ ∃x_2:iH,Hd (x_2.k<32)/\((x_2.k:Int)=slb x_1/\x_2.c=z/\True)/\True/\(∀y_1:Unit,Hd (spn x_2.c=0)-> ∃x_3:afU,Hd (x_3.n<1000)/\(False/\x_3.v=x.line/\True)/\(False/\True)/\(∀y_2:Nat,Hd (y_2<x_3.n/\x_3.g y_2=x_3.v/\ ∀j:Nat,j<y_2->x_3.g j≠x_3.v)->xQ y_2/\(0+Int.toNat (slb x_1))*10+(1+y_2*1)<x.p.n*10/\ ∃b:Bool,getElem? (fZ x.p ((0+Int.toNat (slb x_1))*10+(1+y_2*1))) 0=some (Value.bool b)/\ ∃y_3:Unit,True/\((x.i=0+Int.toNat (slb x_1)/\0=0)/\(x.k:Int)=(y_2:Int)/\true=b/\True)/\False/\xO x.p/\True)/\ ∀y_2:Unit,Hd (∀j:Nat,j<x_3.n->x_3.g j≠x_3.v)-> ∃y_3:Unit,True/\((x.i=0+Int.toNat (slb x_1)/\0=0)/\(x.k:Int)=(-(1:Int))/\true=false/\True)/\False/\xO x.p/\True)/\ ∀y_1:Unit,Hd (spn x_2.c≠(0:Int))-> ∃x_3:afU,Hd (x_3.n<1000)/\((0=0/\x_3.n=Int.toNat ((8:Int)/spn x_2.c))/\x_3.v=x.line/\True)/\((x_3.n=Int.toNat ((8:Int)/spn x_2.c)/\ ∀q:Nat,q<x_3.n->[Value.int .i64 (x_3.g q)]=[Value.int .i64 (2+(x_2.k:Int)*8+(q:Int)*spn x_2.c)])/\True)/\(∀y_2:Nat,Hd (y_2<x_3.n/\x_3.g y_2=x_3.v/\ ∀j:Nat,j<y_2->x_3.g j≠x_3.v)->xQ y_2/\(0+Int.toNat (slb x_1))*10+(1+y_2*1)<x.p.n*10/\ ∃b:Bool,getElem? (fZ x.p ((0+Int.toNat (slb x_1))*10+(1+y_2*1))) 0=some (Value.bool b)/\
 ∃y_3:Unit,True/\((x.i=0+Int.toNat (slb x_1)/\0=0)/\(x.k:Int)=(y_2:Int)/\true=b/\True)/\qA x.p)/\ ∀y_2:Unit,Hd (∀j:Nat,j<x_3.n->x_3.g j≠x_3.v)-> ∃y_3:Unit,True/\((x.i=0+Int.toNat (slb x_1)/\0=0)/\(x.k:Int)=(-(1:Int))/\true=false/\True)/\qA x.p))
theorem aqa(x:fJ):atVC x=wpF Tryz.prog tblP2 tt (noA x) 200 5 116 (atC.args x) (hO atC.k (atC.os x)) (λv h'=>eF atC.k x v h' atC.outs):=by kernel_rfl
def agj(x:fJ):Prop:=
 ∃x_1:fJ,Hd x_1.ok/\(0=0/\x_1.line=x.line/\True)/\xP x_1.p x.p/\ ∀y:Unit,True->xQ x_1.k/\x_1.i*10+(1+x_1.k*1)<x_1.p.n*10/\x_1.i*10+9<x_1.p.n*10/\cP (Nat.beq (x_1.i*10+9) (x_1.i*10+(1+x_1.k*1))) (∃z:Int,some (Value.bool false)=some (Value.int .i64 z)/\ap9 z x_1 x) (∃z:Int,getElem? (fZ x_1.p (x_1.i*10+9)) 0=some (Value.int .i64 z)/\ap9 z x_1 x)
theorem agk(x:fJ):agj x=wpF Tryz.prog asW tt (noA x) 200 5 65 (af7.args x) (hO 2 (flatP 1 (af7.l x))) (λv h'=>endsPK 1 x v h' af7.outs):=by kernel_rfl
def ofVC(x:fJ):Prop:=
 ∃x_1:fJ,Hd x_1.ok/\(0=0/\x_1.line=x.line/\True)/\xP x_1.p x.p/\ ∀y:Unit,True->x_1.i*10+0<x_1.p.n*10/\ ∃z:Int,getElem? (fZ x_1.p (x_1.i*10+0)) 0=some (Value.int .i64 z)/\ ∃y_1:Unit,True/\(x.p.cls x.i=z/\true=true/\True)/\xP x.p x_1.p
theorem aqb(x:fJ):ofVC x=wpF Tryz.prog asW tt (noA x) 200 5 246 (ofP.args x) (hO 2 (flatP 1 (ofP.l x))) (λv h'=>endsPK 1 x v h' ofP.outs):=by kernel_rfl
theorem gy(c:Int):(c=0/\spn c=1/\ZPool.many c=8)\/(c=1/\spn c=2/\ZPool.many c=4)\/(c=2/\spn c=4/\ZPool.many c=2)\/(c=3/\spn c=8/\ZPool.many c=1)\/((c<0\/3<c)/\spn c=0/\ZPool.many c=0):=by
 have:=dR c;unfold ZPool.many;rcases this with h|h|h|h|h<;>obtain⟨h1,h2,_⟩:=h<;>rw[h2]<;>simp[h1]
theorem xU{c:Int}(h:0<=c/\c<=3):Int.tdiv 8 (spn c)=ZPool.many c/\spn c≠0/\1<=ZPool.many c/\ZPool.many c<=8:=by
 rcases gy c with h'|h'|h'|h'|h'<;>obtain⟨h1,h2,h3⟩:=h'<;>first|(rw[h2,h3];decide)|omega
theorem UQ(n:Nat)(hn:1<=n/\n<=32):aga n:=by
 unfold aga;simp only[Zq,nY,xR];simp only[aZ,aV,aU,aA,aI,bQ,bF,aO,aK,ay,aX,aW,bU,bG,bH,bI,bV,bC,bJ,bn,eG,aH,aN,ah,ak,aB,aF,aC,aG];refine bf (λh=>absurd (aS h) (by omega)) λ_=>⟨by unfold I64;omega,by decide,by unfold I64;omega,bf (λh=>absurd (aS h) (by omega)) λ_=>⟨by omega,⟨0,by omega,rfl,λq j hq hj=> ?_⟩,λs hs=>bf (λh=> ?_) λh=> ?_⟩⟩
 ·rw[jV,show(q*10+j)%10=j by omega]
  simp only[eX,Nat.not_lt_zero,if_false]
  match j,hj with
  |0,_|1,_|2,_|3,_|4,_|5,_|6,_|7,_|8,_|9,_=>exact⟨_,rfl,rfl⟩
 ·have h:=aS h
  refine⟨by omega,by omega,by unfold I64;omega,s+1,by omega,by omega,by omega,λq hq=> ?_⟩;simp only[Cs.eff,bT,dw,dA,dI,<-Bool.decide_and,jV,eX];grind
 ·have:s=n:=by have:=aT h;omega
  subst this;exactλq _=>rfl
theorem UR(x:xK)(hx:x.p.ok/\x.i<x.p.n/\0<=x.p.cls x.i):agb x:=by
 obtain⟨⟨h1,h2,h3⟩,hi,hc⟩:=hx;obtain⟨m1,m2,m3,m4⟩:=xU ⟨hc,(h3 _ hi).2.1⟩;unfold agb;simp only[Zp,xO,xQ,PK,PN,xR];simp only[aZ,aV,aU,aA,aI,bQ,bF,aO,aK,ay,aX,aW,bU,bG,bH,bI,bV,bC,bJ,bn,eG,aH,aN,ah,ak,aB,aF,aC,aG];refine⟨by omega,x.p.cls x.i,?_,m2,by rw[m1];unfold I64;omega,⟨0,⟨Nat.zero_le _,λj hj=>absurd hj (Nat.not_lt_zero j)⟩,Int.natCast_zero⟩,λs hs=> ?_⟩
 ·rw[jV,show x.i*10%10=0 by omega,show x.i*10/10=x.i by omega];rfl
 rw[m1];refine bf (λh=> ?_) λh=> ?_
 ·have h:=aS h
  refine⟨by omega,by omega,x.p.tk x.i s,?_,bf (λhb=> .inl ⟨s,⟨by omega,by simpa using hb,hs.2⟩,rfl⟩) λhb=>⟨by unfold I64;omega,s+1,⟨by omega,λj hj=> ?_⟩,by omega,by omega⟩⟩
  ·rw[jV]
   simp only[show(x.i*10+(1+s*1))%10=1+s by omega,show(x.i*10+(1+s*1))/10=x.i by omega];rw[if_neg (by omega),if_neg (by omega),show 1+s-1=s by omega];rfl
  ·by_cases e:j=s
   ·subst e;simpa using hb
   ·exact hs.2 j (by omega)
 ·have h:=aT h
  exact .inr λk hk=>hs.2 k (by omega)
theorem BZ(p:ZPool)(i:Nat):fZ p (i*10)=[.int .i64 (p.cls i)]:=by
 rw[jV,show i*10%10=0 by omega,show i*10/10=i by omega];rfl
theorem Zr(p:ZPool)(i:Nat):fZ p (i*10+9)=[.int .i64 (p.cnt i)]:=by
 rw[jV,show(i*10+9)%10=9 by omega,show(i*10+9)/10=i by omega];rfl
theorem aqc(p:ZPool)(i k:Nat)(h:k<8):fZ p (i*10+(1+k*1))=[.bool (p.tk i k)]:=by
 rw[jV];simp only[show(i*10+(1+k*1))%10=1+k by omega,show(i*10+(1+k*1))/10=i by omega];rw[if_neg (by omega),if_neg (by omega),show 1+k-1=k by omega]
theorem UU(x:lK)(hx:x.p.ok/\spn x.c≠0):agd x:=by
 obtain⟨⟨h1,h2,h3⟩,hz⟩:=hx;have hcc:0<=x.c/\x.c<=3:=by rcases dR x.c with h|h|h|h|h<;>omega
 obtain⟨m1,m2,m3,m4⟩:=xU hcc;unfold agd;simp only[PL,PI,Gi,PK,Ia,nY,PN,xR,Zn,qA,xO];simp only[aZ,aV,aU,aA,aI,bQ,bF,aO,aK,ay,aX,aW,bU,bG,bH,bI,bV,bC,bJ,bn,eG,aH,aN,ah,ak,aB,aF,aC,aG];refine⟨⟨0,⟨Nat.zero_le _,λj hj=>absurd hj (Nat.not_lt_zero j)⟩,Int.natCast_zero⟩,λs hs=>bf (λh=> ?_) λh=>⟨⟨0,⟨Nat.zero_le _,λj hj=>hs.2 j (by have:=aT h;omega),λj hj=>absurd hj (Nat.not_lt_zero j)⟩,Int.natCast_zero⟩,λt ht=>bf (λh2=> ?_) λh2=> ?_⟩⟩
 ·have h:=aS h
  refine⟨by omega,by omega,x.p.cls s,by rw[BZ];rfl,bf (λhe=> ?_) λhe=>⟨by unfold I64;omega,s+1,⟨by omega,λj hj=> ?_⟩,by omega,by omega⟩⟩
  ·have he:=beq_iff_eq.1 he
   refine⟨⟨x.p,s⟩,⟨⟨h1,h2,h3⟩,(show s<x.p.n by omega),(show 0<=x.p.cls s by omega)⟩,rfl,⟨rfl,λ_ _=>rfl⟩,λy hy=> .inr ⟨(s,y),?_,⟨rfl,rfl⟩,rfl,λ_ _=>rfl⟩,λhall=>⟨by unfold I64;omega,s+1,⟨by omega,λj hj=> ?_⟩,by omega,by omega,rfl,λ_ _=>rfl⟩⟩
   ·obtain⟨y1,y2,y3⟩:=hy
    simp only[he]at y1;exact⟨by show s<x.p.n;omega,y1,by show x.p.tk s y=_;rw[if_pos he];exact y2,.inl ⟨he,y3,hs.2⟩⟩
   ·by_cases e:j=s
    ·subst e;intro _ k hk;exact hall k (by simp only[he];exact hk)
    ·exact hs.2 j (by omega)
  ·by_cases e:j=s
   ·subst e;intro h';simp[h']at he
   ·exact hs.2 j (by omega)
 ·have h2:=aS h2
  refine⟨by omega,by omega,x.p.cls t,by rw[BZ];rfl,bf (λhe=> ?_) λhe=>⟨by unfold I64;omega,t+1,⟨by omega,ht.2.1,λj hj=> ?_⟩,by omega,by omega⟩⟩
  ·have he:=beq_iff_eq.1 he
   exact .inr ⟨(t,0),⟨by show t<x.p.n;omega,m3,by show x.p.tk t 0=_;rw[if_neg (by show¬x.p.cls t=x.c;omega)],.inr ⟨he,rfl,ht.2.1,ht.2.2⟩⟩,rfl,rfl⟩
  ·by_cases e:j=t
   ·subst e;intro h';simp[h']at he
   ·exact ht.2.2 j (by omega)
 ·have h2:=aT h2
  exact .inl λi hi=>⟨ht.2.2 i (by omega),ht.2.1 i hi⟩
theorem PS(x:DZ)(hx:x.p.ok/\x.i<x.p.n/\x.k<8):UO x:=by
 obtain⟨⟨h1,h2,h3⟩,hi,hk⟩:=hx;have:=h3 _ hi;unfold UO;simp only[xQ,Zm];simp only[aZ,aV,aU,aA,aI,bQ,bF,aO,aK,ay,aX,aW,bU,bG,bH,bI,bV,bC,bJ,bn,eG,aH,aN,ah,ak,aB,aF,aC,aG];refine⟨by omega,by omega,by omega,by omega,bf (λh=> ?_) λ_=>bf (λh=> ?_) λ_=>⟨x.p.cnt x.i,by rw[Zr];rfl,by unfold I64;omega,by omega,λq hq=> ?_⟩⟩
 ·have:=au h;omega
 ·have:=au h;omega
 ·simp only[Cs.eff,bT,dw,dA,dI,<-Bool.decide_and,jV,ZPool.take];grind (splits:=30)
theorem UW(x:lK)(hx:x.p.ok):agh x:=by
 unfold agh;simp only[qA,Zo,nY,xP,Ia,xM,Gi,af8,xO];simp only[aZ,aV,aU,aA,aI,bQ,bF,aO,aK,ay,aX,aW,bU,bG,bH,bI,bV,bC,bJ,bn,eG,aH,aN,ah,ak,aB,aF,aC,aG];refine bf (λh=> .inl (by simpa using h)) λh=> ?_
 have hz:spn x.c≠0:=by simpa using h
 have hcc:0<=x.c/\x.c<=3:=by rcases dR x.c with h|h|h|h|h<;>omega
 obtain⟨m1,m2,m3,m4⟩:=xU hcc;obtain⟨h1,h2,h3⟩:=id hx;refine⟨x,⟨hx,hz⟩,rfl,⟨rfl,rfl,λ_ _=>rfl⟩,λhf=> .inr (.inl ⟨⟨hz,hf⟩,rfl,rfl,λ_ _=>rfl⟩),λy hy=> ?_⟩;obtain⟨i,k⟩:=y;obtain⟨t1,t2,t3⟩:=id hy;simp only at t1 t2 ⊢;have hsl:(if (i:Int)<0\/32<=(i:Int)then(-1:Int)else 2+i*8)=2+i*8:=if_neg (by omega);have hks:0<=(k:Int)*spn x.c/\(k:Int)*spn x.c<=64:=by
  have hs:0<=spn x.c/\spn x.c<=8:=by rcases dR x.c with h|h|h|h|h<;>omega
  exact⟨Int.mul_nonneg (by omega) hs.1,by have:=Int.mul_le_mul (show(k:Int)<=8 by omega) hs.2 hs.1 (by omega:(0:Int)<=8);omega⟩
 rw[hsl];refine⟨by omega,⟨x.p,x.c,i,k⟩,⟨hx,t1,(show k<8 by omega)⟩,⟨rfl,rfl,rfl⟩,⟨rfl,λ_ _=>rfl⟩,by unfold I64;omega,by unfold I64;omega,.inr (.inr ⟨(i,k),⟨hz,hy⟩,?_⟩)⟩;simp
theorem alx{x:fJ}(hx:x.ok):slb x.line=x.i/\2<=x.line/\x.line<258:=by
 obtain⟨⟨h1,h2,h3⟩,hi,hc,hk,ht⟩:=hx;unfold slb fJ.line;rcases gy (x.p.cls x.i)with h|h|h|h|h<;>obtain⟨e1,e2,e3⟩:=h<;>rw[e2]<;>rw[e3]at hk<;>first|omega|(rw[if_neg (by omega)];omega)
theorem agl(x:fJ)(hx:x.ok):atVC x:=by
 obtain⟨l1,l2,l3⟩:=alx hx;obtain⟨⟨h1,h2,h3⟩,hi,hc,hk,ht⟩:=id hx;obtain⟨m1,m2,m3,m4⟩:=xU ⟨hc,(h3 _ hi).2.1⟩;have h8:(8/spn (x.p.cls x.i)).toNat=ZPool.many (x.p.cls x.i):=rfl;have hs:0<spn (x.p.cls x.i):=by rcases gy (x.p.cls x.i)with h|h|h|h|h<;>omega
 have hl:x.line=2+x.i*8+x.k*spn (x.p.cls x.i):=rfl;have inj: ∀j:Nat,2+(x.i:Int)*8+(j:Int)*spn (x.p.cls x.i)=x.line->j=x.k:=λj hj=>by
  have:(j:Int)*spn (x.p.cls x.i)=(x.k:Int)*spn (x.p.cls x.i):=by omega
  have:=Int.eq_of_mul_eq_mul_right (by omega) this;omega
 unfold atVC;simp only[af9,xQ,xO,qA,nY];simp only[aZ,aV,aU,aA,aI,bQ,bF,aO,aK,ay,aX,aW,bU,bG,bH,bI,bV,bC,bJ,bn,eG,aH,aN,ah,ak,aB,aF,aC,aG,l1];refine bf (λh=>absurd (aS h) (by omega)) λ_=>bf (λh=>absurd (aS h) (by omega)) λ_=>⟨by omega,by omega,x.p.cls x.i,by rw[BZ];rfl,⟨x.i,x.p.cls x.i⟩,(show x.i<32 by omega),⟨rfl,rfl⟩,λh=>absurd h m2,λ_=>⟨⟨λq=>2+(x.i:Int)*8+q*spn (x.p.cls x.i),ZPool.many (x.p.cls x.i),x.line⟩,(show ZPool.many (x.p.cls x.i)<1000 by omega),⟨rfl,rfl⟩,⟨rfl,λ_ _=>rfl⟩,λy hy=> ?_,λhno=>absurd hl.symm (hno x.k hk)⟩⟩
 obtain⟨y1,y2,_⟩:=hy;have:=inj y y2;subst this;exact⟨by omega,by omega,true,by rw[aqc _ _ _ (by omega),ht];rfl,rfl,rfl⟩
theorem UY(x:fJ)(hx:x.ok):agj x:=by
 obtain⟨⟨h1,h2,h3⟩,hi,hc,hk,ht⟩:=id hx;obtain⟨m1,m2,m3,m4⟩:=xU ⟨hc,(h3 _ hi).2.1⟩;have:=h3 _ hi;have n1:(x.i*10+9).beq (x.i*10+(1+x.k*1))=false:=eU (by omega);unfold agj;simp only[xP,xQ,ap9,alv,xM,Gi];simp only[aZ,aV,aU,aA,aI,bQ,bF,aO,aK,ay,aX,aW,bU,bG,bH,bI,bV,bC,bJ,bn,eG,aH,aN,ah,ak,aB,aF,aC,aG];refine⟨x,hx,rfl,⟨rfl,rfl,λ_ _=>rfl⟩,?_⟩;simp only[n1,Nat.beq_refl,jU,iq,aU];refine⟨by omega,by omega,by omega,x.p.cnt x.i,by rw[Zr];rfl,by unfold I64;omega,by omega,by omega,bf (λhb=>⟨by omega,λq hq=> ?_⟩) λhb q hq=> ?_⟩
 ·have hb:=beq_iff_eq.1 hb
  simp only[Cs.eff,bT,dw,dA,dI,<-Bool.decide_and,jV,ZPool.give];grind (splits:=30)
 ·have hb:x.p.cnt x.i-1≠0:=λh=>by simp[h]at hb
  simp only[Cs.eff,bT,dw,dA,dI,<-Bool.decide_and,jV,ZPool.give];grind (splits:=30)
theorem agm(x:fJ)(hx:x.ok):ofVC x:=by
 obtain⟨⟨h1,h2,h3⟩,hi,hc,hk,ht⟩:=id hx;unfold ofVC;simp only[xP,xM,Gi];simp only[aZ,aV,aU,aA,aI,bQ,bF,aO,aK,ay,aX,aW,bU,bG,bH,bI,bV,bC,bJ,bn,eG,aH,aN,ah,ak,aB,aF,aC,aG];exact⟨x,hx,rfl,⟨rfl,rfl,λ_ _=>rfl⟩,by omega,x.p.cls x.i,by rw[BZ];rfl,rfl,rfl,rfl,λ_ _=>rfl⟩
theorem aqd:bZ Tryz.prog 276 UM:=iZ dD mixed (.cons (bM ng) .nil) aok 200 5 (λ_=>rfl) (λ_=>⟨λ_=>rfl,λ_=>rfl,trivial⟩) λx hx=>Eq.mp (agc x) (UR x (aZ.1 hx))
theorem find_ok:bZ Tryz.prog 242 UN:=iZ dD mixed (.cons (bM aqd) .nil) aol 200 5 (λ_=>rfl) (λ_=>⟨λ_=>rfl,λ_=>rfl,trivial⟩) λx hx=>Eq.mp (agf x) (UU x (aZ.1 hx))
theorem aly:bZ Tryz.prog 243 D5:=dM dD mixed .nil noA 200 5 (λ_=>rfl) (λ_=>rfl) λx hx=>Eq.mp (abL x) (PS x (aZ.1 hx))
theorem asX:bZ Tryz.prog 116 atC:=dM dD mixed (.cons (bM ng) (.cons (bM af5) (.cons (bM PG) (.cons (bM asV) .nil)))) noA 200 5 (λ_=>rfl) (λ_=>rfl) λx hx=>Eq.mp (aqa x) (agl x (aZ.1 hx))
theorem aqe:bZ Tryz.prog 202 af6.ctr:=cO dD mixed (.cons (bM ng) (.cons (bM af4) (.cons (bM find_ok) (.cons (bM aly) .nil)))) 2 noA 200 5 (λ_=>⟨rfl,rfl,rfl,rfl⟩) λx hx=>Eq.mp (agi x) (UW x (aZ.1 hx))
theorem aqf:bZ Tryz.prog 65 af7.ctr:=cO dD mixed (.cons (bM asX) .nil) 2 noA 200 5 (λ_=>⟨rfl,rfl,rfl,rfl⟩) λx hx=>Eq.mp (agk x) (UY x (aZ.1 hx))
theorem asY:bZ Tryz.prog 246 ofP.ctr:=cO dD mixed (.cons (bM asX) .nil) 2 noA 200 5 (λ_=>⟨rfl,rfl,rfl,rfl⟩) λx hx=>Eq.mp (aqb x) (agm x (aZ.1 hx))
structure ZRd where
 t:Nat
 now:Int
 has:Nat->Int
namespace ZRd
def ok(r:ZRd):Prop:=1<=r.t/\r.t<=4/\1<=r.now/\r.now<4611686018427387904
def os(r:ZRd):List dB:=[.cells 149 (.av [u64 r.now,.slE 1 0 1 r.t r.t]),.cells 111 (.row 1 r.t (λk=>[.int .u64 (r.has k)]) [])]
def put(r:ZRd)(k:Nat)(v:Int):ZRd:={r with has:=λj=>if j=k then v else r.has j}
end ZRd
def alz(t:Nat):ZRd:=⟨t,1,λ_=>0⟩
structure ZRdT where
 r:ZRd
 k:Nat
def PU:jw:={X:=ZRdT,args:=λx=>[.ptr 0 0,i64 x.k],k:=1,l:=λx=>[.m x.r.os],pre:=λx=>Hd (x.r.ok/\x.k<x.r.t),outs:=[
 {Y:=Unit,post:=λx _=>Hd (x.r.has x.k=0),ret:=λx _=> .tup [u64 x.r.now,i64 0],m:=1,l:=λx _=>[.m (x.r.put x.k x.r.now).os]},
 {Y:=Unit,post:=λx _=>Hd (x.r.has x.k≠0),ret:=λ_ _=> .tup [u64 0,i64 7],m:=1,l:=λx _=>[.m x.r.os]}]}
def PV:jw:=qC ZRdT (λx=>[.ptr 0 0,i64 x.k]) 1 (λx=>[.m x.r.os]) (λx=>Hd (x.r.ok/\x.k<x.r.t)) (λx=>i64 (if x.r.has x.k=0 then 12 else 0)) 1 (λx=>[.m (x.r.put x.k 0).os])
def asZ:jw:=qC ZRd (λ_=>[.ptr 0 0]) 1 (λr=>[.m r.os]) (λr=>Hd r.ok) (λr=>u64 r.now) 1 (λr=>[.m r.os])
def D6:jw:=qC ZRdT (λx=>[.ptr 0 0,i64 x.k]) 1 (λx=>[.m x.r.os]) (λx=>Hd (x.r.ok/\x.k<x.r.t)) (λx=> .tup [u64 (x.r.has x.k),boo (decide (x.r.has x.k≠0))]) 1 (λx=>[.m x.r.os])
def oI(ph:Nat):jw:=qC uZ (λx=>[.ptr 0 0,i64 x.t,i64 x.l]) 1 (λx=>[.m (x.c.os ph)]) (λx=>Hd (x.c.ok/\x.t<x.c.t)) (λx=>i64 (if 0<=x.l/\x.l<258 then 0 else 2)) 1 (λx=>[.m ((x.c.note x.t x.l).os ph)])
def oJ(ph:Nat):jw:=qC iP (λ_=>[.ptr 0 0]) 1 (λc=>[.m (c.os ph)]) (λc=>Hd c.ok) (λc=>u64 c.now) 1 (λc=>[.m (c.os ph)])
def oK(ph:Nat):jw:=qC iP (λ_=>[.ptr 0 0]) 1 (λc=>[.m (c.os ph)]) (λc=>Hd c.ok) (λc=> .slW 1 0 1 c.t) 2 (λc=>[.m (c.os ph),.o (.room 3 (.row 1 c.t (λk=>[.int .i64 (c.o k)]) []))])
noncomputable def Ib:jw:=qC lX (λx=>[.ptr 0 0,i64 x.k,i64 x.a,x.b.av 1]) 2 (λx=>[.m x.d.os,.o x.b.ro]) (λx=>Hd (x.d.ok/\x.k<x.d.n/\x.b.ok/\x.a+x.b.n<=64)) (λ_=>i64 0) 2 (λx=>[.m (x.d.store x.k x.a x.b.n (λq=>x.b.g (x.b.q+q))).os,.o x.b.ro])
noncomputable def abM:jw:=qC Pq (λx=>[.ptr 0 0,i64 x.k]) 1 (λx=>[.m x.d.os]) (λx=>Hd (x.d.ok/\x.k<x.d.n)) (λ_=> .tup [.slW 1 0 1 64,i64 0]) 2 (λx=>[.m x.d.os,.o (.room 5 (rowB (λq=>x.d.b (x.k*193+q)) 64))])
def kT(a:Nat):Prop:=a=a/\a=a
def agn(a:iP):Prop:=a.now=a.now/\a.dur=a.dur/\a.Pz=a.Pz/\(0=0/\kT a.t)/\True
def agp(a:iP):Prop:=(258=258/\ ∀q:Nat,q<258->[Value.bool (a.L q)]=[Value.bool (a.L q)])/\Value.nilFunc=Value.nilFunc/\True
def as1(a:uZ):Prop:=(agn a.c/\(258=258/\ ∀q:Nat,q<258->[Value.bool (Bool.or (a.c.N q) (decide (a.l=(q:Int))))]=[Value.bool (a.c.N q)])/\agp a.c)/\(a.c.t=a.c.t/\ ∀q:Nat,q<a.c.t->[Value.int .i64 (ite (q=a.t/\0<=a.l/\a.l<258) (a.c.o q+1) (a.c.o q))]=[Value.int .i64 (a.c.o q)])/\True
def Gj(a:ZRd):Prop:=a.now=a.now/\(0=0/\kT a.t)/\True
def PW(a:ZRd):Prop:=Gj a/\(a.t=a.t/\ ∀q:Nat,q<a.t->[Value.int .u64 (a.has q)]=[Value.int .u64 (a.has q)])/\True
def as2(a:uZ):Prop:= ∃y:Unit,True/\ite (0<=a.l/\a.l<258) (0:Int) (2:Int)=2/\as1 a
def Zt(a:Bys):Prop:=rowB a.g a.N=rowB a.g a.N/\true=true
def Ic(a:DevM):Prop:=a.fl=a.fl/\a.fe=a.fe/\a.ba=a.ba/\a.cu=a.cu/\True
def agq(a:lX):Prop:= ∃y:Unit,True/\(0:Int)=2/\((0=0/\kT a.d.n)/\a.d.st+1=a.d.st/\Ic a.d)/\Zt a.b/\(a.d.n*193=a.d.n*193/\ ∀q:Nat,q<a.d.n*193->Cs.eff (kR (a.d.store a.k a.a a.b.n (λ(q_1:Nat)=>a.b.g (a.b.q+q_1)))) [] q=Cs.eff (kR a.d) [] q)/\True
def agr(a:ZRdT):Prop:=Gj a.r/\(a.r.t=a.r.t/\ ∀q:Nat,q<a.r.t->[Value.int .u64 (ite (q=a.k) (0:Int) (a.r.has q))]=Cs.eff (λ(k:Nat)=>[Value.int .u64 (a.r.has k)]) [(0+a.k,[Value.int .u64 0])] q)/\True
def PX(a:iP):Prop:=agn a/\(258=258/\ ∀q:Nat,q<258->[Value.bool (a.N q)]=[Value.bool (a.N q)])/\agp a
def PY(a:iP):Prop:=(a.t=a.t/\ ∀q:Nat,q<a.t->[Value.int .i64 (a.o q)]=[Value.int .i64 (a.o q)])/\True
def ags(a:ZRdT):Prop:=Gj a.r/\(a.r.t=a.r.t/\ ∀q:Nat,q<a.r.t->[Value.int .u64 (ite (q=a.k) a.r.now (a.r.has q))]=[Value.int .u64 (a.r.has q)])/\True
def agt(a:Bys)(b:Nat):Prop:=(Nat.beq (List.length [Value.int .u8 (a.g (a.q+b))]) 1&&List.all [Value.int .u8 (a.g (a.q+b))] Value.oneCell')=true
def Zu:Prop:= ∃y:Unit,True/\(False/\(0:Int)=2/\True)/\False/\False/\True
def Ie(a:ZRdT):Prop:=0<=(a.k:Int)/\(a.k:Int)<(a.r.t:Int)
def agu(t:Nat):Prop:=
 cP (decide ((t:Int)<1)) Zu (cP (decide ((t:Int)>(4:Int))) Zu ((0<=(t:Int)/\(t:Int)<=(t:Int)/\8*(t:Int)<=281474976710656/\(t:Int)<4611686018427387904)/\ ∃y:Unit,True/\(0=0/\(0:Int)=0/\True)/\((1:Int)=1/\(0=0/\kT t)/\True)/\(t=t/\ ∀q:Nat,q<t->[Value.int .u64 0]=[Value.int .u64 0])/\True))
def UZ(x:ZRdT):Prop:=
 cP (decide ((x.k:Int)>=(x.r.t:Int))) ((∃y:Unit,Hd (x.r.has x.k=0)/\(x.r.now=0/\(0:Int)=1/\True)/\ags x)\/ ∃y:Unit,Hd (x.r.has x.k≠(0:Int))/\((0:Int)=0/\(7:Int)=1/\True)/\PW x.r) (Ie x/\0+x.k<x.r.t/\cP (decide (x.r.has (0+x.k)=0)) (0+x.k<x.r.t/\((∃y:Unit,Hd (x.r.has x.k=0)/\(x.r.now=x.r.now/\(0:Int)=0/\True)/\Gj x.r/\(x.r.t=x.r.t/\ ∀q:Nat,q<x.r.t->[Value.int .u64 (ite (q=x.k) x.r.now (x.r.has q))]=Cs.eff (λ(k:Nat)=>[Value.int .u64 (x.r.has k)]) [(0+x.k,[Value.int .u64 x.r.now])] q)/\True)\/ ∃y:Unit,Hd (x.r.has x.k≠(0:Int))/\(0=x.r.now/\(7:Int)=0/\True)/\Gj x.r/\(x.r.t=x.r.t/\ ∀q:Nat,q<x.r.t->[Value.int .u64 (x.r.has q)]=Cs.eff (λ(k:Nat)=>[Value.int .u64 (x.r.has k)]) [(0+x.k,[Value.int .u64 x.r.now])] q)/\True)) (0+x.k<x.r.t/\((∃y:Unit,Hd (x.r.has x.k=0)/\(x.r.now=0/\(0:Int)=7/\True)/\ags x)\/ ∃y:Unit,Hd (x.r.has x.k≠(0:Int))/\((0:Int)=0/\(7:Int)=7/\True)/\PW x.r)))
theorem abN(x:ZRdT):UZ x=wpF Tryz.prog pJ tt (noA x) 200 5 199 (PU.args x) (hO 2 (flatP 1 (PU.l x))) (λv h'=>endsPK 1 x v h' PU.outs):=by kernel_rfl
def U0(x:ZRdT):Prop:=
 cP (decide ((x.k:Int)>=(x.r.t:Int))) (∃y:Unit,True/\ite (x.r.has x.k=0) (12:Int) (0:Int)=1/\Gj x.r/\(x.r.t=x.r.t/\ ∀q:Nat,q<x.r.t->[Value.int .u64 (ite (q=x.k) (0:Int) (x.r.has q))]=[Value.int .u64 (x.r.has q)])/\True) (Ie x/\0+x.k<x.r.t/\0+x.k<x.r.t/\cP (BEq.beq (x.r.has (0+x.k)) (0:Int)) (∃y:Unit,True/\ite (x.r.has x.k=0) (12:Int) (0:Int)=12/\agr x) (∃y:Unit,True/\ite (x.r.has x.k=0) (12:Int) (0:Int)=0/\agr x))
theorem abO(x:ZRdT):U0 x=wpF Tryz.prog pJ tt (noA x) 200 5 211 (PV.args x) (hO 2 (flatP 1 (PV.l x))) (λv h'=>endsPK 1 x v h' PV.outs):=by kernel_rfl
def aqg(x:ZRd):Prop:=
 ∃y:Unit,True/\x.now=x.now/\PW x
theorem alA(x:ZRd):aqg x=wpF Tryz.prog pJ tt (noA x) 200 5 67 (asZ.args x) (hO 2 (flatP 1 (asZ.l x))) (λv h'=>endsPK 1 x v h' asZ.outs):=by kernel_rfl
def JH(x:ZRdT):Prop:=
 cP (decide ((x.k:Int)>=(x.r.t:Int))) (∃y:Unit,True/\(x.r.has x.k=0/\decide (x.r.has x.k≠(0:Int))=false/\True)/\PW x.r) (Ie x/\0+x.k<x.r.t/\ ∃y:Unit,True/\(x.r.has x.k=x.r.has (0+x.k)/\decide (x.r.has x.k≠(0:Int))=bne (x.r.has (0+x.k)) (0:Int)/\True)/\PW x.r)
theorem U1(x:ZRdT):JH x=wpF Tryz.prog pJ tt (noA x) 200 5 43 (D6.args x) (hO 2 (flatP 1 (D6.l x))) (λv h'=>endsPK 1 x v h' D6.outs):=by kernel_rfl
def agv(x:uZ):Prop:=
 cP (decide ((x.t:Int)>=(x.c.t:Int))) (∃y:Unit,True/\ite (0<=x.l/\x.l<258) (0:Int) (2:Int)=1/\as1 x) (cP (decide (x.l<0)) (as2 x) (cP (decide (x.l>=(258:Int))) (as2 x) ((0<=(x.t:Int)/\(x.t:Int)<(x.c.t:Int))/\0+x.t<x.c.t/\I64 (x.c.o (0+x.t)+1)/\(0<=(x.t:Int)/\(x.t:Int)<(x.c.t:Int))/\0+x.t<x.c.t/\(0<=x.l/\x.l<258)/\Int.toNat x.l<258/\ ∃y:Unit,True/\ite (0<=x.l/\x.l<258) (0:Int) (2:Int)=0/\(agn x.c/\(258=258/\ ∀q:Nat,q<258->[Value.bool (Bool.or (x.c.N q) (decide (x.l=(q:Int))))]=Cs.eff (λ(k:Nat)=>[Value.bool (x.c.N k)]) [(Int.toNat x.l,[Value.bool true])] q)/\agp x.c)/\(x.c.t=x.c.t/\ ∀q:Nat,q<x.c.t->[Value.int .i64 (ite (q=x.t/\0<=x.l/\x.l<258) (x.c.o q+1) (x.c.o q))]=Cs.eff (λ(k:Nat)=>[Value.int .i64 (x.c.o k)]) [(0+x.t,[Value.int .i64 (x.c.o (0+x.t)+1)])] q)/\True)))
theorem abP(x:uZ):agv x=wpF Tryz.prog pJ tt (noA x) 200 5 64 ((oI 0).args x) (hO 2 (flatP 1 ((oI 0).l x))) (λv h'=>endsPK 1 x v h' (oI 0).outs):=by kernel_rfl
def U2(x:iP):Prop:=
 ∃y:Unit,True/\x.now=x.now/\PX x/\PY x
theorem abQ(x:iP):U2 x=wpF Tryz.prog pJ tt (noA x) 200 5 45 ((oJ 0).args x) (hO 2 (flatP 1 ((oJ 0).l x))) (λv h'=>endsPK 1 x v h' (oJ 0).outs):=by kernel_rfl
def U3(x:iP):Prop:=
 0+x.t<=x.t/\cP (Nat.beq x.t 0) (∃y:Unit,True/\(x.t=0/\0=0/\0=0)/\PX x/\(0=x.t*1/\ ∀q:Nat,q<x.t->[Value.int .i64 (x.o q)]=List.take 1 (List.drop (q*1) (@List.nil Value)))/\PY x) ((2*(0+x.t)+1000)*8<=281474976710656/\ ∃y:Unit,True/\(0=0/\x.t=0+x.t)/\PX x/\(x.t=0+x.t/\ ∀q:Nat,q<x.t->[Value.int .i64 (x.o q)]=[Value.int .i64 (x.o (0+(q-0)))])/\PY x)
theorem abR(x:iP):U3 x=wpF Tryz.prog pJ tt (noA x) 200 5 204 ((oK 0).args x) (hO 2 (flatP 1 ((oK 0).l x))) (λv h'=>endsPK 1 x v h' (oK 0).outs):=by kernel_rfl
def JI(x:lX):Prop:=
 cP (decide ((x.k:Int)>=(x.d.n:Int))) (agq x) (I64 (64-(x.b.n:Int))/\cP (decide ((x.a:Int)>64-(x.b.n:Int))) (agq x) ((0<=(x.k:Int)/\(x.k:Int)<(x.d.n:Int))/\0<=(x.a:Int)/\(x.a<=64/\64<=64/\64<=64)/\(0+x.k)*193+0+x.a+(64-x.a)<=x.d.n*193/\cP (Nat.ble x.b.n (64-x.a)) (x.b.q+x.b.n<=x.b.N/\(∀k:Nat,k<x.b.n->agt x.b k)/\I64 (x.d.st+1)/\ ∃y:Unit,True/\(0:Int)=0/\((0=0/\kT x.d.n)/\x.d.st+1=x.d.st+1/\Ic x.d)/\Zt x.b/\(x.d.n*193=x.d.n*193/\ ∀q:Nat,q<x.d.n*193->Cs.eff (kR (x.d.store x.k x.a x.b.n (λ(q_1:Nat)=>x.b.g (x.b.q+q_1)))) [] q=Cs.eff (λ(p:Nat)=>cond (Nat.ble ((0+x.k)*193+0+x.a) p&&Nat.blt p ((0+x.k)*193+0+x.a+x.b.n)) [Value.int .u8 (x.b.g (x.b.q+(p-((0+x.k)*193+0+x.a))))] (Cs.eff (kR x.d) [] p)) [] q)/\True) (x.b.q+(64-x.a)<=x.b.N/\(∀k:Nat,k<64-x.a->agt x.b k)/\I64 (x.d.st+1)/\ ∃y:Unit,True/\(0:Int)=0/\((0=0/\kT x.d.n)/\x.d.st+1=x.d.st+1/\Ic x.d)/\Zt x.b/\(x.d.n*193=x.d.n*193/\ ∀q:Nat,q<x.d.n*193->Cs.eff (kR (x.d.store x.k x.a x.b.n (λ(q_1:Nat)=>x.b.g (x.b.q+q_1)))) [] q=Cs.eff (λ(p:Nat)=>cond (Nat.ble ((0+x.k)*193+0+x.a) p&&Nat.blt p ((0+x.k)*193+0+x.a+(64-x.a))) [Value.int .u8 (x.b.g (x.b.q+(p-((0+x.k)*193+0+x.a))))] (Cs.eff (kR x.d) [] p)) [] q)/\True)))
theorem U4(x:lX):JI x=wpF Tryz.prog pJ tt (noA x) 200 5 62 (Ib.args x) (hO 3 (flatP 2 (Ib.l x))) (λv h'=>endsPK 2 x v h' Ib.outs):=by kernel_rfl
def agw(x:Pq):Prop:=
 cP (decide ((x.k:Int)>=(x.d.n:Int))) (∃y:Unit,True/\False) (I64 (64:Int)/\(0<=(x.k:Int)/\(x.k:Int)<(x.d.n:Int))/\(0<=64/\64<=64/\64<=64)/\(0+x.k)*193+0+0+64<=x.d.n*193/\(2*(0+64)+1000)*1<=281474976710656/\ ∃y:Unit,True/\((0=0/\64=0+64)/\(0:Int)=0/\True)/\((0=0/\kT x.d.n)/\x.d.st=x.d.st/\Ic x.d)/\(64=64/\ ∀q:Nat,q<64->[Value.int .u8 (x.d.b (x.k*193+q))]=Cs.eff (λ(q_1:Nat)=>cond (Nat.blt q_1 0) (@List.nil Value) (Cs.eff (kR x.d) [] ((0+x.k)*193+0+0+(q_1-0)))) [] q)/\(x.d.n*193=x.d.n*193/\ ∀q:Nat,q<x.d.n*193->Cs.eff (kR x.d) [] q=Cs.eff (kR x.d) [] q)/\True)
theorem agx(x:Pq):agw x=wpF Tryz.prog pJ tt (noA x) 200 5 181 (abM.args x) (hO 2 (flatP 1 (abM.l x))) (λv h'=>endsPK 1 x v h' abM.outs):=by kernel_rfl
theorem U5(x:Nat)(hx:1<=x/\x<=4):agu x:=by
 unfold agu;simp only[Zu,kT];simp only[aZ,aV,aU,aA,aI,bQ,bF,aO,aK,ay,aX,aW,bU,bG,bH,bI,bV,bC,bJ,bn,eG,aH,aN,ah,ak,aB,aF,aC,aG];exact bf (λh=>absurd (aS h) (by omega)) λ_=>bf (λh=>absurd (aS h) (by omega)) λ_=>by omega
theorem agy(f:Nat->Int)(k:Nat)(v:Int)(q:Nat):[Value.int .u64 (if q=k then v else f q)]=Cs.eff (λk=>[Value.int .u64 (f k)]) [(k,[Value.int .u64 v])] q:=by
 simp only[Cs.eff,bT,dw,dA,dI,<-Bool.decide_and];by_cases h:q=k
 ·rw[if_pos h,if_pos h]
 ·rw[if_neg h,if_neg h]
theorem PZ(x:ZRdT)(hx:x.r.ok/\x.k<x.r.t):UZ x:=by
 unfold UZ;simp only[ags,PW,Ie,Gj,kT];simp only[aZ,aV,aU,aA,aI,bQ,bF,aO,aK,ay,aX,aW,bU,bG,bH,bI,bV,bC,bJ,bn,eG,aH,aN,ah,ak,aB,aF,aC,aG];refine bf (λh=>absurd (aS h) (by omega)) λ_=>⟨by omega,hx.2,bf (λh=>⟨hx.2,.inl ⟨aS h,λq _=>agy _ _ _ _⟩⟩) λh=>⟨hx.2,.inr (aT h)⟩⟩
theorem P5(x:ZRdT)(hx:x.r.ok/\x.k<x.r.t):U0 x:=by
 unfold U0;simp only[Gj,Ie,agr,kT];simp only[aZ,aV,aU,aA,aI,bQ,bF,aO,aK,ay,aX,aW,bU,bG,bH,bI,bV,bC,bJ,bn,eG,aH,aN,ah,ak,aB,aF,aC,aG];refine bf (λh=>absurd (aS h) (by omega)) λ_=>⟨by omega,hx.2,hx.2,bf (λh=>⟨if_pos (beq_iff_eq.1 h),λq _=>agy _ _ _ _⟩) λh=>⟨if_neg (λe=>by simp[e]at h),λq _=>agy _ _ _ _⟩⟩
theorem abS(x:ZRd)(hx:x.ok):aqg x:=by
 unfold aqg;simp only[PW,Gj,kT];simp only[aZ,aV,aU,aA,aI,bQ,bF,aO,aK,ay,aX,aW,bU,bG,bH,bI,bV,bC,bJ,bn,eG,aH,aN,ah,ak,aB,aF,aC,aG]
theorem JJ(x:ZRdT)(hx:x.r.ok/\x.k<x.r.t):JH x:=by
 unfold JH;simp only[PW,Ie,Gj,kT];simp only[aZ,aV,aU,aA,aI,bQ,bF,aO,aK,ay,aX,aW,bU,bG,bH,bI,bV,bC,bJ,bn,eG,aH,aN,ah,ak,aB,aF,aC,aG];refine bf (λh=>absurd (aS h) (by omega)) λ_=>⟨by omega,hx.2,?_⟩
 by_cases h:x.r.has x.k=0<;>simp[h]
theorem P6(x:uZ)(hx:x.c.ok/\x.t<x.c.t):agv x:=UC x hx
theorem P7(x:iP)(hx:x.ok):U2 x:=by
 unfold U2;simp only[PX,PY,agn,agp,kT];simp only[aZ,aV,aU,aA,aI,bQ,bF,aO,aK,ay,aX,aW,bU,bG,bH,bI,bV,bC,bJ,bn,eG,aH,aN,ah,ak,aB,aF,aC,aG]
theorem P8(x:iP)(hx:x.ok):U3 x:=by
 have:=hx.1;have:=hx.2.1;unfold U3;simp only[PX,PY,agn,agp,kT];simp only[aZ,aV,aU,aA,aI,bQ,bF,aO,aK,ay,aX,aW,bU,bG,bH,bI,bV,bC,bJ,bn,eG,aH,aN,ah,ak,aB,aF,aC,aG];exact⟨by omega,bf (λh=>absurd (au h) (by omega)) λ_=>by omega⟩
theorem JK(x:lX)(hx:x.d.ok/\x.k<x.d.n/\x.b.ok/\x.a+x.b.n<=64):JI x:=by
 have h:=AL x hx;unfold JC at h;simp only[ali,Zh,nX,Uw,lJ,Pv,Uu,abE]at h;unfold JI;simp only[agq,agt,kT,Ic,Zt];simp only[aZ,aV,aU,aA,aI,bQ,bF,aO,aK,ay,aX,aW,bU,bG,bH,bI,bV,bC,bJ,bn,eG,aH,aN,ah,ak,aB,aF,aC,aG]at h ⊢;exact h
theorem U6(x:Pq)(hx:x.d.ok/\x.k<x.d.n):agw x:=by
 have:=hx.1.1;unfold agw;simp only[kT,Ic];simp only[aZ,aV,aU,aA,aI,bQ,bF,aO,aK,ay,aX,aW,bU,bG,bH,bI,bV,bC,bJ,bn,eG,aH,aN,ah,ak,aB,aF,aC,aG];refine bf (λh=>absurd (aS h) (by omega)) λ_=>⟨by unfold I64;omega,by omega,by omega,by omega,by omega,λq hq=> ?_⟩
 rw[oH,show Nat.blt q 0=false by simp[bT],aQ,show(x.k*193+q)%193=q by omega,if_neg (by omega)]
theorem alB:bZ Tryz.prog 199 PU.ctr:=cO dD mixed dQ 2 noA 200 5 (λ_=>⟨rfl,rfl,rfl,rfl⟩) λx hx=>Eq.mp (abN x) (PZ x (aZ.1 hx))
theorem alC:bZ Tryz.prog 211 PV.ctr:=cO dD mixed dQ 2 noA 200 5 (λ_=>⟨rfl,rfl,rfl,rfl⟩) λx hx=>Eq.mp (abO x) (P5 x (aZ.1 hx))
theorem as3:bZ Tryz.prog 67 asZ.ctr:=cO dD mixed dQ 2 noA 200 5 (λ_=>⟨rfl,rfl,rfl,rfl⟩) λx hx=>Eq.mp (alA x) (abS x (aZ.1 hx))
theorem agz:bZ Tryz.prog 43 D6.ctr:=cO dD mixed dQ 2 noA 200 5 (λ_=>⟨rfl,rfl,rfl,rfl⟩) λx hx=>Eq.mp (U1 x) (JJ x (aZ.1 hx))
theorem alD:bZ Tryz.prog 64 (oI 0).ctr:=cO dD mixed dQ 2 noA 200 5 (λ_=>⟨rfl,rfl,rfl,rfl⟩) λx hx=>Eq.mp (abP x) (P6 x (aZ.1 hx))
theorem alE:bZ Tryz.prog 45 (oJ 0).ctr:=cO dD mixed dQ 2 noA 200 5 (λ_=>⟨rfl,rfl,rfl,rfl⟩) λx hx=>Eq.mp (abQ x) (P7 x (aZ.1 hx))
theorem alF:bZ Tryz.prog 204 (oK 0).ctr:=cO dD mixed dQ 2 noA 200 5 (λ_=>⟨rfl,rfl,rfl,rfl⟩) λx hx=>Eq.mp (abR x) (P8 x (aZ.1 hx))
theorem P9:bZ Tryz.prog 62 Ib.ctr:=cO dD mixed dQ 3 noA 200 5 (λ_=>⟨rfl,rfl,rfl,rfl⟩) λx hx=>Eq.mp (U4 x) (JK x (aZ.1 hx))
theorem agA:bZ Tryz.prog 181 abM.ctr:=cO dD mixed dQ 2 noA 200 5 (λ_=>⟨rfl,rfl,rfl,rfl⟩) λx hx=>Eq.mp (agx x) (U6 x (aZ.1 hx))
theorem je{P:Program}{f:FuncId}{C:Ctr}(h: ∀x,C.pre x-> ∃D:Ctr,bZ P f D/\D.k=C.k/\ ∃y:D.X,D.pre y/\D.args y=C.args x/\D.os y=C.os x/\ ∀v h',kS y v h' D.outs->kS x v h' C.outs):bZ P f C:=λx hx=>by
 obtain⟨D,hD,hk,y,hp,ha,ho,hq⟩:=h x hx;obtain⟨h1,h2⟩:=hD y hp;rw[ho,hk]at h1;rw[ha,hk,ho]at h2;exact⟨h1,h2.mono hq⟩
structure gZ where
 line:Int
 cls:Int
 r:Int
 d:Int
 anti:Int
namespace gZ
def cs(e:gZ):List Value:=[.int .i64 e.line,.int .i64 e.cls,.int .u64 e.r,.int .u64 e.d,.int .i64 e.anti]
def av(e:gZ):AV:= .agg [i64 e.line,i64 e.cls,u64 e.r,u64 e.d,i64 e.anti]
def may(e:gZ):Prop:=2<=e.line/\e.line<258/\0<=e.cls/\e.cls<=3/\ -1<=e.anti/\e.anti<258
end gZ
structure iy where
 z:Bool
 n:Nat
 e:Nat->gZ
namespace iy
def ok(b:iy):Prop:=b.n<=258/\(b.z=true->b.n=0)
def row(b:iy):Cs:= .row 5 b.n (λi=>(b.e i).cs) []
def osP(b:iy):List dB:=[.cells 183 (.av [.slW 1 0 5 b.n]),.room 70 b.row]
def osN:List dB:=[.cells 183 (.av [gV])]
def os(b:iy):List dB:=bif b.z then osN else b.osP
def put(b:iy)(x:gZ):iy:=if b.n<258 then⟨false,b.n+1,λi=>if i=b.n then x else b.e i⟩else b
end iy
structure Bz where
 b:iy
 x:gZ
def qQ(z:Bool):jw:=qC Bz (λx=>[.ptr 0 0,x.x.av]) 1 (λx=>[.m (bif z then iy.osN else x.b.osP)]) (λx=>Hd (x.b.ok/\x.x.may/\x.b.z=z)) (λx=>i64 (if x.b.n<258 then 0 else 11)) 1 (λx=>[.m (x.b.put x.x).osP])
def JL:jw:=qC Unit (λ_=>[.ptr 0 0]) 1 (λ_=>[.m iy.osN]) (λ_=>Hd True) (λ_=>gV) 1 (λ_=>[.m iy.osN])
def JM:jw:=qC iy (λ_=>[.ptr 0 0]) 1 (λb=>[.m b.osP]) (λb=>Hd (b.ok/\b.z=false)) (λb=> .slW 1 0 5 b.n) 2 (λb=>[.m b.osP,.o (.room 70 b.row)])
structure ZLnk where
 key:ByteArray
 id:Int
 ver:Int
 line:Int
 cls:Int
namespace ZLnk
def cs(e:ZLnk):List Value:=[.string e.key,.int .u64 e.id,.int .u64 e.ver,.int .i64 e.line,.int .i64 e.cls]
def av(e:ZLnk):AV:= .agg [.lit (.string e.key),u64 e.id,u64 e.ver,i64 e.line,i64 e.cls]
end ZLnk
def iO:ZLnk:=⟨⟨#[]⟩,0,0,0,0⟩
structure ZLn where
 len:Nat
 cap:Nat
 at_:Nat
 n:Nat
 e:Nat->ZLnk
namespace ZLn
def ok(l:ZLn):Prop:=l.cap<1099511627776/\l.len<=l.cap/\l.n<=l.len/\(l.len=0->l.at_=0)/\(l.len≠0->l.at_<l.len)
def row(l:ZLn):Cs:= .row 5 l.cap (λi=>(l.e i).cs) []
def osP(l:ZLn):List dB:=[.cells 127 (.av [.slE 1 0 5 l.len l.cap,i64 l.at_,i64 l.n]),.cells 41 l.row]
def osN:List dB:=[.cells 127 (.av [gV,i64 0,i64 0])]
def os(l:ZLn):List dB:=bif Nat.beq l.len 0 then osN else l.osP
def get(l:ZLn)(i:Nat):ZLnk:=l.e ((l.at_+i)%l.len)
def push(l:ZLn)(x:ZLnk):ZLn:=if l.n=l.len then⟨l.n+1,2*l.n+1,0,l.n+1,λi=>if i<l.n then l.get i else if i=l.n then x else iO⟩else⟨l.len,l.cap,l.at_,l.n+1,λi=>if i=(l.at_+l.n)%l.len then x else l.e i⟩
def pop(l:ZLn):ZLn:=if l.n=0 then l else⟨l.len,l.cap,(l.at_+1)%l.len,l.n-1,λi=>if i=l.at_ then iO else l.e i⟩
def head(l:ZLn):ZLnk:=if l.n=0 then iO else l.get 0
end ZLn
structure akg where
 l:ZLn
 x:ZLnk
def xW:jw:=qC ZLnk (λx=>[.ptr 0 0,x.av]) 1 (λ_=>[.m ZLn.osN]) (λ_=>Hd True) (λ_=> .tup []) 1 (λx=>[.m (ZLn.osP ⟨1,1,0,1,λi=>if i=0 then x else iO⟩)])
def xX:jw:=qC akg (λx=>[.ptr 0 0,x.x.av]) 1 (λx=>[.m x.l.osP]) (λx=>Hd (x.l.ok/\x.l.len≠0)) (λ_=> .tup []) 1 (λx=>[.m (x.l.push x.x).osP])
def Cb:jw:=qC Unit (λ_=>[.ptr 0 0]) 1 (λ_=>[.m ZLn.osN]) (λ_=>Hd True) (λ_=> .tup [iO.av,boo false]) 1 (λ_=>[.m ZLn.osN])
def Cc:jw:=qC ZLn (λ_=>[.ptr 0 0]) 1 (λl=>[.m l.osP]) (λl=>Hd (l.ok/\l.len≠0)) (λl=> .tup [l.head.av,boo (decide (l.n≠0))]) 1 (λl=>[.m l.pop.osP])
def ZLn.all(l:ZLn)(i:Nat):Cs:= .row 5 i (λj=>(l.get j).cs) []
def Ce:jw:=qC Unit (λ_=>[.ptr 0 0]) 1 (λ_=>[.m ZLn.osN]) (λ_=>Hd True) (λ_=>gV) 1 (λ_=>[.m ZLn.osN])
def Ci:jw:={X:=ZLn,args:=λ_=>[.ptr 0 0],k:=1,l:=λl=>[.m l.osP],pre:=λl=>Hd (l.ok/\l.len≠0),outs:=[
 {Y:=Unit,post:=λl _=>Hd (l.n=0),ret:=λ_ _=>gV,m:=1,l:=λl _=>[.m l.osP]},
 {Y:=Unit,post:=λl _=>Hd (l.n≠0),ret:=λl _=> .slW 1 0 5 l.n,m:=2,l:=λl _=>[.m l.osP,.o (.room 41 (l.all l.n))]}]}
def as4(l:ZLn):FuncId->pX:=λf=>bif Nat.beq f 123 then(λb _ _=>bif Nat.beq b 0 then [
 {σ:=Unit,fr:=λ_=>[(9,i64 0),(3,gV)],ob:=λ_=>[],inv:=λ_=>Hd True,meas:=λ_=>l.n+1,test:=λfr _=>(match SE.look fr 3 with| .lit _=>true|_=>false)},
 {σ:=Nat,fr:=λi=>[(9,i64 i),(3,.slW 2 0 5 i)],ob:=λi=>[(2,some (.room 41 (l.all i)))],inv:=λi=>Hd (1<=i/\i<=l.n),meas:=λi=>l.n-i,nx:=1,test:=λfr _=>(match SE.look fr 3 with| .lit _=>false|_=>true)}]else [])elseλ_ _ _=>[]
def Ig(a:akg):Prop:=((ZLn.at_ (a.l.push a.x):Nat):Int)=0/\((ZLn.n (a.l.push a.x):Nat):Int)=(a.l.n:Int)+1/\True
def agB(a:akg):Prop:=I64 ((a.l.n:Int)+1)/\True/\ ∃y:Unit,True/\True/\(False/\Ig a)/\(ZLn.cap (a.l.push a.x)=a.l.cap/\ ∀q:Nat,q<ZLn.cap (a.l.push a.x)->[Value.string (ZLnk.key (ZLn.e (a.l.push a.x) q)),Value.int .u64 (ZLnk.id (ZLn.e (a.l.push a.x) q)),Value.int .u64 (ZLnk.ver (ZLn.e (a.l.push a.x) q)),Value.int .i64 (ZLnk.line (ZLn.e (a.l.push a.x) q)),Value.int .i64 (ZLnk.cls (ZLn.e (a.l.push a.x) q))]=[Value.string (ZLnk.key (a.l.e q)),Value.int .u64 (ZLnk.id (a.l.e q)),Value.int .u64 (ZLnk.ver (a.l.e q)),Value.int .i64 (ZLnk.line (a.l.e q)),Value.int .i64 (ZLnk.cls (a.l.e q))])/\True
def abT(a:ZLn):Prop:=a.cap=a.cap/\ ∀q:Nat,q<a.cap->[Value.string (ZLnk.key (a.e q)),Value.int .u64 (ZLnk.id (a.e q)),Value.int .u64 (ZLnk.ver (a.e q)),Value.int .i64 (ZLnk.line (a.e q)),Value.int .i64 (ZLnk.cls (a.e q))]=[Value.string (ZLnk.key (a.e q)),Value.int .u64 (ZLnk.id (a.e q)),Value.int .u64 (ZLnk.ver (a.e q)),Value.int .i64 (ZLnk.line (a.e q)),Value.int .i64 (ZLnk.cls (a.e q))]
def aqh(a:Bz):Prop:=((0=0/\iy.n (a.b.put a.x)=a.b.n)/\True)/\(iy.n (a.b.put a.x)=a.b.n/\ ∀q:Nat,q<iy.n (a.b.put a.x)->[Value.int .i64 (gZ.line (iy.e (a.b.put a.x) q)),Value.int .i64 (gZ.cls (iy.e (a.b.put a.x) q)),Value.int .u64 (gZ.r (iy.e (a.b.put a.x) q)),Value.int .u64 (gZ.d (iy.e (a.b.put a.x) q)),Value.int .i64 (gZ.anti (iy.e (a.b.put a.x) q))]=[Value.int .i64 (gZ.line (a.b.e q)),Value.int .i64 (gZ.cls (a.b.e q)),Value.int .u64 (gZ.r (a.b.e q)),Value.int .u64 (gZ.d (a.b.e q)),Value.int .i64 (gZ.anti (a.b.e q))])/\True
def Ih(a:Bz):Prop:=True/\ite (a.b.n<258) (0:Int) (11:Int)=1/\(False/\True)/\(List.length [Value.int .i64 a.x.line,Value.int .i64 a.x.cls,Value.int .u64 a.x.r,Value.int .u64 a.x.d,Value.int .i64 a.x.anti]=iy.n (a.b.put a.x)*5/\ ∀q:Nat,q<iy.n (a.b.put a.x)->[Value.int .i64 (gZ.line (iy.e (a.b.put a.x) q)),Value.int .i64 (gZ.cls (iy.e (a.b.put a.x) q)),Value.int .u64 (gZ.r (iy.e (a.b.put a.x) q)),Value.int .u64 (gZ.d (iy.e (a.b.put a.x) q)),Value.int .i64 (gZ.anti (iy.e (a.b.put a.x) q))]=List.take 5 (List.drop (q*5) [Value.int .i64 a.x.line,Value.int .i64 a.x.cls,Value.int .u64 a.x.r,Value.int .u64 a.x.d,Value.int .i64 a.x.anti]))/\True
def Ii(a:Bz):Prop:=True/\ite (a.b.n<258) (0:Int) (11:Int)=1/\aqh a
def xY(a:ZLnk):Prop:=List.all [List.take 5 [Value.string a.key,Value.int .u64 a.id,Value.int .u64 a.ver,Value.int .i64 a.line,Value.int .i64 a.cls]] (λ(l:List Value)=>Nat.beq (List.length l) 5&&List.all l Value.oneCell')=true
def Zv(a:ZLn):Prop:= ∀k:Nat,k<a.at_-0->(Nat.beq (List.length [Value.string (ZLnk.key (a.e (0+k))),Value.int .u64 (ZLnk.id (a.e (0+k))),Value.int .u64 (ZLnk.ver (a.e (0+k))),Value.int .i64 (ZLnk.line (a.e (0+k))),Value.int .i64 (ZLnk.cls (a.e (0+k)))]) 5&&List.all [Value.string (ZLnk.key (a.e (0+k))),Value.int .u64 (ZLnk.id (a.e (0+k))),Value.int .u64 (ZLnk.ver (a.e (0+k))),Value.int .i64 (ZLnk.line (a.e (0+k))),Value.int .i64 (ZLnk.cls (a.e (0+k)))] Value.oneCell')=true
def Ij(a:ZLn):Prop:=(0=0/\a.len=a.len/\a.cap=a.cap)/\(a.at_:Int)=(a.at_:Int)/\(a.n:Int)=(a.n:Int)/\True
def agC(a:akg):Prop:=(2*(0+(a.l.len-a.l.at_)+(a.l.at_-0)+1)+1000)*48<=281474976710656/\agB a
def agD(a:akg):Prop:=(2*(0+(a.l.len-a.l.at_)+(a.l.at_-0))+1000)*48<=281474976710656/\True/\True/\0+(a.l.len-a.l.at_)+(a.l.at_-0)=0+(a.l.len-a.l.at_)+(a.l.at_-0)/\xY a.x/\agC a
def agE(a:iy):Prop:=(a.n=a.n/\ ∀q:Nat,q<a.n->[Value.int .i64 (gZ.line (a.e q)),Value.int .i64 (gZ.cls (a.e q)),Value.int .u64 (gZ.r (a.e q)),Value.int .u64 (gZ.d (a.e q)),Value.int .i64 (gZ.anti (a.e q))]=[Value.int .i64 (gZ.line (a.e q)),Value.int .i64 (gZ.cls (a.e q)),Value.int .u64 (gZ.r (a.e q)),Value.int .u64 (gZ.d (a.e q)),Value.int .i64 (gZ.anti (a.e q))])/\True
def xZ(a:akg):Prop:=ZLn.cap (a.l.push a.x)=Int.toNat (2*(a.l.n:Int)+1)
def uK:Prop:=Value.slice none 0 0=Value.slice none 0 0
def Zw:Prop:=(uK/\(0:Int)=0/\(0:Int)=0/\True)/\True
def aom(a:ZLn):Prop:=(a.head.key=ZLnk.key (a.e (0+a.at_))/\a.head.id=ZLnk.id (a.e (0+a.at_))/\a.head.ver=ZLnk.ver (a.e (0+a.at_))/\a.head.line=ZLnk.line (a.e (0+a.at_))/\a.head.cls=ZLnk.cls (a.e (0+a.at_))/\True)/\decide (a.n≠0)=true/\True
def aon:Prop:= ∃y:Unit,True/\((ByteArray.mk #[]=ByteArray.mk #[]/\(0:Int)=0/\(0:Int)=0/\(0:Int)=0/\(0:Int)=0/\True)/\false=false/\True)/\Zw
def aoo(a:ZLn):Prop:=(a.head.key=ByteArray.mk #[]/\a.head.id=0/\a.head.ver=0/\a.head.line=0/\a.head.cls=0/\True)/\decide (a.n≠0)=false/\True
def Zx(a:ZLn):Prop:=0+(0+(a.len-a.at_))<=Int.toNat (2*(a.n:Int)+1)
def Zy(a:ZLn):Prop:=0<=a.at_/\a.at_<=a.cap/\a.cap<=a.cap
def agF(a:ZLn):Prop:=0<=(a.at_:Int)/\(a.at_:Int)<(a.len:Int)
def agG(a:ZLn):Prop:=Ij a/\abT a/\True
def D7(x:Bz):Prop:=
 cP (decide (x.x.line>=(2:Int))) (cP (decide (x.x.line<258)) (∃x_1:Int,True/\(x_1=x.x.cls/\True)/\True/\ ∀y:Unit,True->cP (decide (spn x_1>(0:Int))) (cP (decide (x.x.anti>=(-(1:Int)))) (cP (Bool.not (decide (x.x.anti<258))) (∃y_1:Unit,Ih x) ((AV.lit (Value.slice none 0 0)=AV.lit (Value.slice none 0 0)/\True)/\(2*(0+1)+1000)*40<=281474976710656/\True/\True/\ ∃y_1:Unit,True/\ite (x.b.n<258) (0:Int) (11:Int)=0/\((0=0/\iy.n (x.b.put x.x)=1)/\True)/\(iy.n (x.b.put x.x)=0+List.length [List.take 5 [Value.int .i64 x.x.line,Value.int .i64 x.x.cls,Value.int .u64 x.x.r,Value.int .u64 x.x.d,Value.int .i64 x.x.anti]]/\ ∀q:Nat,q<iy.n (x.b.put x.x)->[Value.int .i64 (gZ.line (iy.e (x.b.put x.x) q)),Value.int .i64 (gZ.cls (iy.e (x.b.put x.x) q)),Value.int .u64 (gZ.r (iy.e (x.b.put x.x) q)),Value.int .u64 (gZ.d (iy.e (x.b.put x.x) q)),Value.int .i64 (gZ.anti (iy.e (x.b.put x.x) q))]=Cs.eff (λ(x_2:Nat)=>[]) [(0,List.take 5 [Value.int .i64 x.x.line,Value.int .i64 x.x.cls,Value.int .u64 x.x.r,Value.int .u64 x.x.d,Value.int .i64 x.x.anti])] q)/\True)) (∃y_1:Unit,Ih x)) (∃y_1:Unit,Ih x)) (∃y:Unit,Ih x)) (∃y:Unit,Ih x)
theorem Qa(x:Bz):D7 x=wpF Tryz.prog alp tt (noA x) 200 5 66 ((qQ true).args x) (hO 1 (flatP 1 ((qQ true).l x))) (λv h'=>endsPK 1 x v h' (qQ true).outs):=by kernel_rfl
def D8(x:Bz):Prop:=
 cP (decide (x.x.line>=(2:Int))) (cP (decide (x.x.line<258)) (∃x_1:Int,True/\(x_1=x.x.cls/\True)/\True/\ ∀y:Unit,True->cP (decide (spn x_1>(0:Int))) (cP (decide (x.x.anti>=(-(1:Int)))) (cP (Bool.not (decide (x.x.anti<258))) (∃y_1:Unit,Ii x) (cP (decide ((x.b.n:Int)>=(258:Int))) (∃y_1:Unit,True/\ite (x.b.n<258) (0:Int) (11:Int)=11/\aqh x) ((AV.slW 1 0 5 x.b.n=AV.slW 1 0 5 x.b.n/\True)/\x.b.n=x.b.n/\List.all [List.take 5 [Value.int .i64 x.x.line,Value.int .i64 x.x.cls,Value.int .u64 x.x.r,Value.int .u64 x.x.d,Value.int .i64 x.x.anti]] (λ(l:List Value)=>Nat.beq (List.length l) 5&&List.all l Value.oneCell')=true/\(2*(x.b.n+1)+1000)*40<=281474976710656/\True/\True/\ ∃y_1:Unit,True/\ite (x.b.n<258) (0:Int) (11:Int)=0/\((0=0/\iy.n (x.b.put x.x)=x.b.n+1)/\True)/\(iy.n (x.b.put x.x)=x.b.n+List.length [List.take 5 [Value.int .i64 x.x.line,Value.int .i64 x.x.cls,Value.int .u64 x.x.r,Value.int .u64 x.x.d,Value.int .i64 x.x.anti]]/\ ∀q:Nat,q<iy.n (x.b.put x.x)->[Value.int .i64 (gZ.line (iy.e (x.b.put x.x) q)),Value.int .i64 (gZ.cls (iy.e (x.b.put x.x) q)),Value.int .u64 (gZ.r (iy.e (x.b.put x.x) q)),Value.int .u64 (gZ.d (iy.e (x.b.put x.x) q)),Value.int .i64 (gZ.anti (iy.e (x.b.put x.x) q))]=Cs.eff (λ(i:Nat)=>gZ.cs (x.b.e i)) [(x.b.n,List.take 5 [Value.int .i64 x.x.line,Value.int .i64 x.x.cls,Value.int .u64 x.x.r,Value.int .u64 x.x.d,Value.int .i64 x.x.anti])] q)/\True))) (∃y_1:Unit,Ii x)) (∃y_1:Unit,Ii x)) (∃y:Unit,Ii x)) (∃y:Unit,Ii x)
theorem Qb(x:Bz):D8 x=wpF Tryz.prog alp tt (noA x) 200 5 66 ((qQ false).args x) (hO 2 (flatP 1 ((qQ false).l x))) (λv h'=>endsPK 1 x v h' (qQ false).outs):=by kernel_rfl
def D9(x:Unit):Prop:=
 ∃y:Unit,True/\uK/\(uK/\True)/\True
theorem Qc(x:Unit):D9 x=wpF Tryz.prog pJ tt (noA x) 200 5 278 (JL.args x) (hO 1 (flatP 1 (JL.l x))) (λv h'=>endsPK 1 x v h' JL.outs):=by kernel_rfl
def Ea(x:iy):Prop:=
 0+x.n<=x.n/\cP (Nat.beq x.n 0) (∃y:Unit,True/\(x.n=0/\0=0/\0=0)/\((0=0/\x.n=x.n)/\True)/\(0=x.n*5/\ ∀q:Nat,q<x.n->[Value.int .i64 (gZ.line (x.e q)),Value.int .i64 (gZ.cls (x.e q)),Value.int .u64 (gZ.r (x.e q)),Value.int .u64 (gZ.d (x.e q)),Value.int .i64 (gZ.anti (x.e q))]=List.take 5 (List.drop (q*5) (@List.nil Value)))/\agE x) ((2*(0+x.n)+1000)*40<=281474976710656/\ ∃y:Unit,True/\(0=0/\x.n=0+x.n)/\((0=0/\x.n=x.n)/\True)/\(x.n=0+x.n/\ ∀q:Nat,q<x.n->[Value.int .i64 (gZ.line (x.e q)),Value.int .i64 (gZ.cls (x.e q)),Value.int .u64 (gZ.r (x.e q)),Value.int .u64 (gZ.d (x.e q)),Value.int .i64 (gZ.anti (x.e q))]=[Value.int .i64 (gZ.line (x.e (0+(q-0)))),Value.int .i64 (gZ.cls (x.e (0+(q-0)))),Value.int .u64 (gZ.r (x.e (0+(q-0)))),Value.int .u64 (gZ.d (x.e (0+(q-0)))),Value.int .i64 (gZ.anti (x.e (0+(q-0))))])/\agE x)
theorem Qd(x:iy):Ea x=wpF Tryz.prog pJ tt (noA x) 200 5 278 (JM.args x) (hO 2 (flatP 1 (JM.l x))) (λv h'=>endsPK 1 x v h' JM.outs):=by kernel_rfl
def vw(x:ZLnk):Prop:=
 I64 (0:Int)/\I64 (1:Int)/\((0:Int)<=0/\(0:Int)<=1/\(0:Int)<=281474976710608/\(0:Int)<=4611686018427387902)/\(0:Int)<=0/\(0<=0/\0<=0/\0<=0)/\0<=1/\True/\True/\(0:Int)<=0/\(0<=0/\0<=0/\0<=0)/\0<=1/\True/\True/\0<=1/\xY x/\0+(0+1)<=1/\I64 (1:Int)/\True/\ ∃y:Unit,True/\True/\((0=0/\1=1/\1=1)/\((0:Nat):Int)=0/\((1:Nat):Int)=1/\True)/\(1=1/\ ∀q:Nat,q<1->[Value.string (ZLnk.key (ite (q=0) x iO)),Value.int .u64 (ZLnk.id (ite (q=0) x iO)),Value.int .u64 (ZLnk.ver (ite (q=0) x iO)),Value.int .i64 (ZLnk.line (ite (q=0) x iO)),Value.int .i64 (ZLnk.cls (ite (q=0) x iO))]=Cs.eff (λ(x_1:Nat)=>[Value.string (ByteArray.mk #[]),Value.int .u64 0,Value.int .u64 0,Value.int .i64 0,Value.int .i64 0]) [(0,List.take 5 [Value.string x.key,Value.int .u64 x.id,Value.int .u64 x.ver,Value.int .i64 x.line,Value.int .i64 x.cls])] q)/\True
theorem Gl(x:ZLnk):vw x=wpF Tryz.prog pJ tt (noA x) 200 5 254 (xW.args x) (hO 1 (flatP 1 (xW.l x))) (λv h'=>endsPK 1 x v h' xW.outs):=by kernel_rfl
def vC(x:akg):Prop:=
 cP (BEq.beq (x.l.n:Int) (x.l.len:Int)) (I64 (2*(x.l.n:Int))/\I64 (2*(x.l.n:Int)+1)/\((0:Int)<=0/\0<=2*(x.l.n:Int)+1/\48*(2*(x.l.n:Int)+1)<=281474976710656/\2*(x.l.n:Int)+1<4611686018427387904)/\0<=(x.l.at_:Int)/\(x.l.at_<=x.l.len/\x.l.len<=x.l.cap/\x.l.cap<=x.l.cap)/\0<=Int.toNat (2*(x.l.n:Int)+1)/\0+x.l.at_+(x.l.len-x.l.at_)<=x.l.cap/\cP (Nat.beq (x.l.len-x.l.at_) 0) (True/\True/\0<=(x.l.at_:Int)/\Zy x.l/\0<=Int.toNat (2*(x.l.n:Int)+1)/\0+(x.l.at_-0)<=x.l.cap/\cP (Nat.beq (x.l.at_-0) 0) (True/\True/\0<=Int.toNat (2*(x.l.n:Int)+1)/\xY x.x/\0+(0+1)<=Int.toNat (2*(x.l.n:Int)+1)/\I64 ((x.l.n:Int)+1)/\True/\ ∃y:Unit,True/\True/\((0=0/\ZLn.len (x.l.push x.x)=1/\xZ x)/\Ig x)/\(xZ x/\ ∀q:Nat,q<ZLn.cap (x.l.push x.x)->[Value.string (ZLnk.key (ZLn.e (x.l.push x.x) q)),Value.int .u64 (ZLnk.id (ZLn.e (x.l.push x.x) q)),Value.int .u64 (ZLnk.ver (ZLn.e (x.l.push x.x) q)),Value.int .i64 (ZLnk.line (ZLn.e (x.l.push x.x) q)),Value.int .i64 (ZLnk.cls (ZLn.e (x.l.push x.x) q))]=Cs.eff (λ(x_1:Nat)=>[Value.string (ByteArray.mk #[]),Value.int .u64 0,Value.int .u64 0,Value.int .i64 0,Value.int .i64 0]) [(0,List.take 5 [Value.string x.x.key,Value.int .u64 x.x.id,Value.int .u64 x.x.ver,Value.int .i64 x.x.line,Value.int .i64 x.x.cls])] q)/\True) (cP (Nat.ble (0+(x.l.at_-0)) (Int.toNat (2*(x.l.n:Int)+1))) (Zv x.l/\0+(0+(x.l.at_-0))<=Int.toNat (2*(x.l.n:Int)+1)/\True/\True/\0+(0+(x.l.at_-0))<=Int.toNat (2*(x.l.n:Int)+1)/\cP (Nat.ble (0+(x.l.at_-0)+1) (Int.toNat (2*(x.l.n:Int)+1))) (xY x.x/\
 0+(0+(x.l.at_-0)+1)<=Int.toNat (2*(x.l.n:Int)+1)/\I64 ((x.l.n:Int)+1)/\True/\ ∃y:Unit,True/\True/\((0=0/\ZLn.len (x.l.push x.x)=0+(x.l.at_-0)+1/\xZ x)/\Ig x)/\(xZ x/\ ∀q:Nat,q<ZLn.cap (x.l.push x.x)->[Value.string (ZLnk.key (ZLn.e (x.l.push x.x) q)),Value.int .u64 (ZLnk.id (ZLn.e (x.l.push x.x) q)),Value.int .u64 (ZLnk.ver (ZLn.e (x.l.push x.x) q)),Value.int .i64 (ZLnk.line (ZLn.e (x.l.push x.x) q)),Value.int .i64 (ZLnk.cls (ZLn.e (x.l.push x.x) q))]=Cs.eff (λ(p:Nat)=>cond (Nat.ble 0 p&&Nat.blt p (0+(x.l.at_-0))) [Value.string (ZLnk.key (x.l.e (0+(p-0)))),Value.int .u64 (ZLnk.id (x.l.e (0+(p-0)))),Value.int .u64 (ZLnk.ver (x.l.e (0+(p-0)))),Value.int .i64 (ZLnk.line (x.l.e (0+(p-0)))),Value.int .i64 (ZLnk.cls (x.l.e (0+(p-0))))] [Value.string (ByteArray.mk #[]),Value.int .u64 0,Value.int .u64 0,Value.int .i64 0,Value.int .i64 0]) [(0+(0+(x.l.at_-0)),List.take 5 [Value.string x.x.key,Value.int .u64 x.x.id,Value.int .u64 x.x.ver,Value.int .i64 x.x.line,Value.int .i64 x.x.cls])] q)/\True) ((2*(0+(x.l.at_-0)+1)+1000)*48<=281474976710656/\agB x)) ((2*(0+(x.l.at_-0))+1000)*48<=281474976710656/\True/\True/\0+(x.l.at_-0)=0+(x.l.at_-0)/\xY x.x/\(2*(0+(x.l.at_-0)+1)+1000)*48<=281474976710656/\
 agB x))) (cP (Nat.ble (0+(x.l.len-x.l.at_)) (Int.toNat (2*(x.l.n:Int)+1))) ((∀k:Nat,k<x.l.len-x.l.at_->(Nat.beq (List.length [Value.string (ZLnk.key (x.l.e (0+x.l.at_+k))),Value.int .u64 (ZLnk.id (x.l.e (0+x.l.at_+k))),Value.int .u64 (ZLnk.ver (x.l.e (0+x.l.at_+k))),Value.int .i64 (ZLnk.line (x.l.e (0+x.l.at_+k))),Value.int .i64 (ZLnk.cls (x.l.e (0+x.l.at_+k)))]) 5&&List.all [Value.string (ZLnk.key (x.l.e (0+x.l.at_+k))),Value.int .u64 (ZLnk.id (x.l.e (0+x.l.at_+k))),Value.int .u64 (ZLnk.ver (x.l.e (0+x.l.at_+k))),Value.int .i64 (ZLnk.line (x.l.e (0+x.l.at_+k))),Value.int .i64 (ZLnk.cls (x.l.e (0+x.l.at_+k)))] Value.oneCell')=true)/\Zx x.l/\True/\True/\0<=(x.l.at_:Int)/\Zy x.l/\Zx x.l/\0+(x.l.at_-0)<=x.l.cap/\cP (Nat.beq (x.l.at_-0) 0) (True/\True/\Zx x.l/\cP (Nat.ble (0+(x.l.len-x.l.at_)+1) (Int.toNat (2*(x.l.n:Int)+1))) (xY x.x/\0+(0+(x.l.len-x.l.at_)+1)<=Int.toNat (2*(x.l.n:Int)+1)/\I64 ((x.l.n:Int)+1)/\True/\ ∃y:Unit,True/\True/\((0=0/\ZLn.len (x.l.push x.x)=0+(x.l.len-x.l.at_)+1/\xZ x)/\Ig x)/\(xZ x/\
 ∀q:Nat,q<ZLn.cap (x.l.push x.x)->[Value.string (ZLnk.key (ZLn.e (x.l.push x.x) q)),Value.int .u64 (ZLnk.id (ZLn.e (x.l.push x.x) q)),Value.int .u64 (ZLnk.ver (ZLn.e (x.l.push x.x) q)),Value.int .i64 (ZLnk.line (ZLn.e (x.l.push x.x) q)),Value.int .i64 (ZLnk.cls (ZLn.e (x.l.push x.x) q))]=Cs.eff (λ(p:Nat)=>cond (Nat.ble 0 p&&Nat.blt p (0+(x.l.len-x.l.at_))) [Value.string (ZLnk.key (x.l.e (0+x.l.at_+(p-0)))),Value.int .u64 (ZLnk.id (x.l.e (0+x.l.at_+(p-0)))),Value.int .u64 (ZLnk.ver (x.l.e (0+x.l.at_+(p-0)))),Value.int .i64 (ZLnk.line (x.l.e (0+x.l.at_+(p-0)))),Value.int .i64 (ZLnk.cls (x.l.e (0+x.l.at_+(p-0))))] [Value.string (ByteArray.mk #[]),Value.int .u64 0,Value.int .u64 0,Value.int .i64 0,Value.int .i64 0]) [(0+(0+(x.l.len-x.l.at_)),List.take 5 [Value.string x.x.key,Value.int .u64 x.x.id,Value.int .u64 x.x.ver,Value.int .i64 x.x.line,Value.int .i64 x.x.cls])] q)/\True) ((2*(0+(x.l.len-x.l.at_)+1)+1000)*48<=281474976710656/\agB x)) (cP (Nat.ble (0+(x.l.len-x.l.at_)+(x.l.at_-0)) (Int.toNat (2*(x.l.n:Int)+1))) (Zv x.l/\0+(0+(x.l.len-x.l.at_)+(x.l.at_-0))<=Int.toNat (2*(x.l.n:Int)+1)/\True/\True/\0+(0+(x.l.len-x.l.at_)+(x.l.at_-0))<=Int.toNat (2*(x.l.n:Int)+1)/\cP (Nat.ble (0+(x.l.len-x.l.at_)+(x.l.at_-0)+1) (Int.toNat (2*(x.l.n:Int)+1))) (xY x.x/\0+(0+(x.l.len-x.l.at_)+(x.l.at_-0)+1)<=Int.toNat (2*(x.l.n:Int)+1)/\I64 ((x.l.n:Int)+1)/\True/\ ∃y:Unit,True/\True/\((0=0/\ZLn.len (x.l.push x.x)=0+(x.l.len-x.l.at_)+(x.l.at_-0)+1/\xZ x)/\Ig x)/\(xZ x/\
 ∀q:Nat,q<ZLn.cap (x.l.push x.x)->[Value.string (ZLnk.key (ZLn.e (x.l.push x.x) q)),Value.int .u64 (ZLnk.id (ZLn.e (x.l.push x.x) q)),Value.int .u64 (ZLnk.ver (ZLn.e (x.l.push x.x) q)),Value.int .i64 (ZLnk.line (ZLn.e (x.l.push x.x) q)),Value.int .i64 (ZLnk.cls (ZLn.e (x.l.push x.x) q))]=Cs.eff (λ(p:Nat)=>cond (Nat.ble (0+(0+(x.l.len-x.l.at_))) p&&Nat.blt p (0+(0+(x.l.len-x.l.at_))+(x.l.at_-0))) [Value.string (ZLnk.key (x.l.e (0+(p-(0+(0+(x.l.len-x.l.at_))))))),Value.int .u64 (ZLnk.id (x.l.e (0+(p-(0+(0+(x.l.len-x.l.at_))))))),Value.int .u64 (ZLnk.ver (x.l.e (0+(p-(0+(0+(x.l.len-x.l.at_))))))),Value.int .i64 (ZLnk.line (x.l.e (0+(p-(0+(0+(x.l.len-x.l.at_))))))),Value.int .i64 (ZLnk.cls (x.l.e (0+(p-(0+(0+(x.l.len-x.l.at_)))))))] (Cs.eff (λ(p_1:Nat)=>cond (Nat.ble 0 p_1&&Nat.blt p_1 (0+(x.l.len-x.l.at_))) [Value.string (ZLnk.key (x.l.e (0+x.l.at_+(p_1-0)))),Value.int .u64 (ZLnk.id (x.l.e (0+x.l.at_+(p_1-0)))),Value.int .u64 (ZLnk.ver (x.l.e (0+x.l.at_+(p_1-0)))),Value.int .i64 (ZLnk.line (x.l.e (0+x.l.at_+(p_1-0)))),Value.int .i64 (ZLnk.cls (x.l.e (0+x.l.at_+(p_1-0))))] [Value.string (ByteArray.mk #[]),Value.int .u64 0,Value.int .u64 0,Value.int .i64 0,Value.int .i64 0]) [] p)) [(0+(0+(x.l.len-x.l.at_)+(x.l.at_-0)),List.take 5 [Value.string x.x.key,Value.int .u64 x.x.id,Value.int .u64 x.x.ver,Value.int .i64 x.x.line,Value.int .i64 x.x.cls])] q)/\True) (agC x)) (agD x))) ((2*(0+(x.l.len-x.l.at_))+1000)*48<=281474976710656/\True/\True/\0<=(x.l.at_:Int)/\Zy x.l/\0+(x.l.len-x.l.at_)=0+(x.l.len-x.l.at_)/\0+(x.l.at_-0)<=x.l.cap/\Zv x.l/\
 agD x))) (I64 ((x.l.at_:Int)+(x.l.n:Int))/\((x.l.len:Int)=0->False)/\(0<=Int.tmod ((x.l.at_:Int)+(x.l.n:Int)) (x.l.len:Int)/\Int.tmod ((x.l.at_:Int)+(x.l.n:Int)) (x.l.len:Int)<(x.l.len:Int))/\0+Int.toNat (Int.tmod ((x.l.at_:Int)+(x.l.n:Int)) (x.l.len:Int))<x.l.cap/\True/\I64 ((x.l.n:Int)+1)/\True/\ ∃y:Unit,True/\True/\((0=0/\ZLn.len (x.l.push x.x)=x.l.len/\ZLn.cap (x.l.push x.x)=x.l.cap)/\((ZLn.at_ (x.l.push x.x):Nat):Int)=(x.l.at_:Int)/\((ZLn.n (x.l.push x.x):Nat):Int)=(x.l.n:Int)+1/\True)/\(ZLn.cap (x.l.push x.x)=x.l.cap/\ ∀q:Nat,q<ZLn.cap (x.l.push x.x)->[Value.string (ZLnk.key (ZLn.e (x.l.push x.x) q)),Value.int .u64 (ZLnk.id (ZLn.e (x.l.push x.x) q)),Value.int .u64 (ZLnk.ver (ZLn.e (x.l.push x.x) q)),Value.int .i64 (ZLnk.line (ZLn.e (x.l.push x.x) q)),Value.int .i64 (ZLnk.cls (ZLn.e (x.l.push x.x) q))]=Cs.eff (λ(i:Nat)=>ZLnk.cs (x.l.e i)) [(0+Int.toNat (Int.tmod ((x.l.at_:Int)+(x.l.n:Int)) (x.l.len:Int)),[Value.string x.x.key,Value.int .u64 x.x.id,Value.int .u64 x.x.ver,Value.int .i64 x.x.line,Value.int .i64 x.x.cls])] q)/\True)
theorem Gm(x:akg):vC x=wpF Tryz.prog pJ tt (noA x) 200 5 254 (xX.args x) (hO 2 (flatP 1 (xX.l x))) (λv h'=>endsPK 1 x v h' xX.outs):=by kernel_rfl
def y7(x:Unit):Prop:=
 aon
theorem JO(x:Unit):y7 x=wpF Tryz.prog pJ tt (noA x) 200 5 255 (Cb.args x) (hO 1 (flatP 1 (Cb.l x))) (λv h'=>endsPK 1 x v h' Cb.outs):=by kernel_rfl
def y8(x:ZLn):Prop:=
 cP (BEq.beq (x.n:Int) (0:Int)) (∃y:Unit,True/\aoo x/\((0=0/\x.pop.len=x.len/\x.pop.cap=x.cap)/\(x.pop.at_:Int)=(x.at_:Int)/\(x.pop.n:Int)=(x.n:Int)/\True)/\(x.pop.cap=x.cap/\ ∀q:Nat,q<x.pop.cap->[Value.string (ZLnk.key (x.pop.e q)),Value.int .u64 (ZLnk.id (x.pop.e q)),Value.int .u64 (ZLnk.ver (x.pop.e q)),Value.int .i64 (ZLnk.line (x.pop.e q)),Value.int .i64 (ZLnk.cls (x.pop.e q))]=[Value.string (ZLnk.key (x.e q)),Value.int .u64 (ZLnk.id (x.e q)),Value.int .u64 (ZLnk.ver (x.e q)),Value.int .i64 (ZLnk.line (x.e q)),Value.int .i64 (ZLnk.cls (x.e q))])/\True) (agF x/\0+x.at_<x.cap/\True/\agF x/\0+x.at_<x.cap/\True/\I64 ((x.at_:Int)+1)/\((x.len:Int)=0->False)/\True/\I64 ((x.n:Int)-1)/\ ∃y:Unit,True/\aom x/\((0=0/\x.pop.len=x.len/\x.pop.cap=x.cap)/\(x.pop.at_:Int)=Int.tmod ((x.at_:Int)+1) (x.len:Int)/\(x.pop.n:Int)=(x.n:Int)-1/\True)/\(x.pop.cap=x.cap/\ ∀q:Nat,q<x.pop.cap->[Value.string (ZLnk.key (x.pop.e q)),Value.int .u64 (ZLnk.id (x.pop.e q)),Value.int .u64 (ZLnk.ver (x.pop.e q)),Value.int .i64 (ZLnk.line (x.pop.e q)),Value.int .i64 (ZLnk.cls (x.pop.e q))]=Cs.eff (λ(i:Nat)=>ZLnk.cs (x.e i)) [(0+x.at_,[Value.string (ByteArray.mk #[]),Value.int .u64 0,Value.int .u64 0,Value.int .i64 0,Value.int .i64 0])] q)/\True)
theorem JQ(x:ZLn):y8 x=wpF Tryz.prog pJ tt (noA x) 200 5 255 (Cc.args x) (hO 2 (flatP 1 (Cc.l x))) (λv h'=>endsPK 1 x v h' Cc.outs):=by kernel_rfl
def y9(x:Unit):Prop:=
 ∃y:Unit,True/\uK/\Zw
theorem JR(x:Unit):y9 x=wpF Tryz.prog pJ tt (noA x) 200 5 70 (Ce.args x) (hO 1 (flatP 1 (Ce.l x))) (λv h'=>endsPK 1 x v h' Ce.outs):=by kernel_rfl
def zf(x:ZLn):Prop:=
 (∃s:Unit,Hd True/\True/\((0:Int)=0/\uK/\True)/\abT x/\Ij x/\True)/\(∀s:Unit,Hd True->cP (decide (0<(x.n:Int))) (I64 ((x.at_:Int)+0)/\((x.len:Int)=0->False)/\(0<=Int.tmod ((x.at_:Int)+0) (x.len:Int)/\Int.tmod ((x.at_:Int)+0) (x.len:Int)<(x.len:Int))/\0+Int.toNat (Int.tmod ((x.at_:Int)+0) (x.len:Int))<x.cap/\True/\(2*(0+1)+1000)*48<=281474976710656/\True/\True/\I64 (1:Int)/\ ∃s_1:Nat,Hd (1<=s_1/\s_1<=x.n)/\x.n-s_1<x.n+1/\((s_1:Int)=1/\(0=0/\s_1=1)/\True)/\(s_1=0+List.length [List.take 5 [Value.string (ZLnk.key (x.e (0+Int.toNat (Int.tmod ((x.at_:Int)+0) (x.len:Int))))),Value.int .u64 (ZLnk.id (x.e (0+Int.toNat (Int.tmod ((x.at_:Int)+0) (x.len:Int))))),Value.int .u64 (ZLnk.ver (x.e (0+Int.toNat (Int.tmod ((x.at_:Int)+0) (x.len:Int))))),Value.int .i64 (ZLnk.line (x.e (0+Int.toNat (Int.tmod ((x.at_:Int)+0) (x.len:Int))))),Value.int .i64 (ZLnk.cls (x.e (0+Int.toNat (Int.tmod ((x.at_:Int)+0) (x.len:Int)))))]]/\
 ∀q:Nat,q<s_1->[Value.string (ZLnk.key (x.get q)),Value.int .u64 (ZLnk.id (x.get q)),Value.int .u64 (ZLnk.ver (x.get q)),Value.int .i64 (ZLnk.line (x.get q)),Value.int .i64 (ZLnk.cls (x.get q))]=Cs.eff (λ(x_1:Nat)=>[]) [(0,List.take 5 [Value.string (ZLnk.key (x.e (0+Int.toNat (Int.tmod ((x.at_:Int)+0) (x.len:Int))))),Value.int .u64 (ZLnk.id (x.e (0+Int.toNat (Int.tmod ((x.at_:Int)+0) (x.len:Int))))),Value.int .u64 (ZLnk.ver (x.e (0+Int.toNat (Int.tmod ((x.at_:Int)+0) (x.len:Int))))),Value.int .i64 (ZLnk.line (x.e (0+Int.toNat (Int.tmod ((x.at_:Int)+0) (x.len:Int))))),Value.int .i64 (ZLnk.cls (x.e (0+Int.toNat (Int.tmod ((x.at_:Int)+0) (x.len:Int)))))])] q)/\abT x/\Ij x/\True) ((∃y:Unit,Hd (x.n=0)/\uK/\agG x)\/ ∃y:Unit,Hd (x.n≠0)/\False))/\(∀s:Nat,Hd (1<=s/\s<=x.n)->cP (decide ((s:Int)<(x.n:Int))) (I64 ((x.at_:Int)+(s:Int))/\((x.len:Int)=0->False)/\(0<=Int.tmod ((x.at_:Int)+(s:Int)) (x.len:Int)/\Int.tmod ((x.at_:Int)+(s:Int)) (x.len:Int)<(x.len:Int))/\0+Int.toNat (Int.tmod ((x.at_:Int)+(s:Int)) (x.len:Int))<x.cap/\True/\s=s/\
 List.all [List.take 5 [Value.string (ZLnk.key (x.e (0+Int.toNat (Int.tmod ((x.at_:Int)+(s:Int)) (x.len:Int))))),Value.int .u64 (ZLnk.id (x.e (0+Int.toNat (Int.tmod ((x.at_:Int)+(s:Int)) (x.len:Int))))),Value.int .u64 (ZLnk.ver (x.e (0+Int.toNat (Int.tmod ((x.at_:Int)+(s:Int)) (x.len:Int))))),Value.int .i64 (ZLnk.line (x.e (0+Int.toNat (Int.tmod ((x.at_:Int)+(s:Int)) (x.len:Int))))),Value.int .i64 (ZLnk.cls (x.e (0+Int.toNat (Int.tmod ((x.at_:Int)+(s:Int)) (x.len:Int)))))]] (λ(l:List Value)=>Nat.beq (List.length l) 5&&List.all l Value.oneCell')=true/\(2*(s+1)+1000)*48<=281474976710656/\True/\True/\I64 ((s:Int)+1)/\ ∃s_1:Nat,Hd (1<=s_1/\s_1<=x.n)/\x.n-s_1<x.n-s/\((s_1:Int)=(s:Int)+1/\(0=0/\s_1=s+1)/\True)/\(s_1=s+List.length [List.take 5 [Value.string (ZLnk.key (x.e (0+Int.toNat (Int.tmod ((x.at_:Int)+(s:Int)) (x.len:Int))))),Value.int .u64 (ZLnk.id (x.e (0+Int.toNat (Int.tmod ((x.at_:Int)+(s:Int)) (x.len:Int))))),Value.int .u64 (ZLnk.ver (x.e (0+Int.toNat (Int.tmod ((x.at_:Int)+(s:Int)) (x.len:Int))))),Value.int .i64 (ZLnk.line (x.e (0+Int.toNat (Int.tmod ((x.at_:Int)+(s:Int)) (x.len:Int))))),Value.int .i64 (ZLnk.cls (x.e (0+Int.toNat (Int.tmod ((x.at_:Int)+(s:Int)) (x.len:Int)))))]]/\
 ∀q:Nat,q<s_1->[Value.string (ZLnk.key (x.get q)),Value.int .u64 (ZLnk.id (x.get q)),Value.int .u64 (ZLnk.ver (x.get q)),Value.int .i64 (ZLnk.line (x.get q)),Value.int .i64 (ZLnk.cls (x.get q))]=Cs.eff (λ(j:Nat)=>ZLnk.cs (x.get j)) [(s,List.take 5 [Value.string (ZLnk.key (x.e (0+Int.toNat (Int.tmod ((x.at_:Int)+(s:Int)) (x.len:Int))))),Value.int .u64 (ZLnk.id (x.e (0+Int.toNat (Int.tmod ((x.at_:Int)+(s:Int)) (x.len:Int))))),Value.int .u64 (ZLnk.ver (x.e (0+Int.toNat (Int.tmod ((x.at_:Int)+(s:Int)) (x.len:Int))))),Value.int .i64 (ZLnk.line (x.e (0+Int.toNat (Int.tmod ((x.at_:Int)+(s:Int)) (x.len:Int))))),Value.int .i64 (ZLnk.cls (x.e (0+Int.toNat (Int.tmod ((x.at_:Int)+(s:Int)) (x.len:Int)))))])] q)/\abT x/\Ij x/\True) ((∃y:Unit,Hd (x.n=0)/\False/\agG x)\/ ∃y:Unit,Hd (x.n≠0)/\(0=0/\x.n=s)/\Ij x/\(x.n=s/\ ∀q:Nat,q<x.n->[Value.string (ZLnk.key (x.get q)),Value.int .u64 (ZLnk.id (x.get q)),Value.int .u64 (ZLnk.ver (x.get q)),Value.int .i64 (ZLnk.line (x.get q)),Value.int .i64 (ZLnk.cls (x.get q))]=[Value.string (ZLnk.key (x.get q)),Value.int .u64 (ZLnk.id (x.get q)),Value.int .u64 (ZLnk.ver (x.get q)),Value.int .i64 (ZLnk.line (x.get q)),Value.int .i64 (ZLnk.cls (x.get q))])/\abT x/\True))/\True
theorem JU(x:ZLn):zf x=wpF Tryz.prog pJ tt (as4 x) 200 5 70 (Ci.args x) (hO 2 (flatP 1 (Ci.l x))) (λv h'=>endsPK 1 x v h' Ci.outs):=by kernel_rfl
theorem U7{c:Int}(h:0<=c/\c<=3):0<spn c:=by
 unfold spn;split
 ·omega
 ·split
  ·omega
  ·split
   ·omega
   ·split<;>omega
theorem Eb{g:Nat->List Value}{k q:Nat}{c:List Value}:Cs.eff g [(k,c)] q=if q=k then c else g q:=by
 simp only[Cs.eff,bT,dw,dA,dI,<-Bool.decide_and]
theorem aqi(f:Nat->gZ)(k:Nat)(x:gZ)(q:Nat)(e:gZ)(he:e=if q=k then x else f q):[Value.int .i64 e.line,Value.int .i64 e.cls,Value.int .u64 e.r,Value.int .u64 e.d,Value.int .i64 e.anti]=Cs.eff (λi=>(f i).cs) [(k,List.take 5 [Value.int .i64 x.line,Value.int .i64 x.cls,Value.int .u64 x.r,Value.int .u64 x.d,Value.int .i64 x.anti])] q:=by
 subst he;rw[Eb];split<;>rfl
theorem U8(f:Nat->ZLnk)(k:Nat)(x:ZLnk)(q:Nat)(e:ZLnk)(he:e=if q=k then x else f q):[Value.string e.key,Value.int .u64 e.id,Value.int .u64 e.ver,Value.int .i64 e.line,Value.int .i64 e.cls]=Cs.eff (λi=>(f i).cs) [(k,[Value.string x.key,Value.int .u64 x.id,Value.int .u64 x.ver,Value.int .i64 x.line,Value.int .i64 x.cls])] q:=by
 subst he;rw[Eb];split<;>rfl
theorem Gn(x:Bz)(hx:x.b.ok/\x.x.may/\x.b.z=true):D7 x:=by
 obtain⟨⟨h1,h2⟩,⟨m1,m2,m3,m4,m5,m6⟩,hz⟩:=hx;have hn:=h2 hz;have hs:=U7 (c:=x.x.cls) ⟨m3,m4⟩;have e1:decide (x.x.line>=2)=true:=decide_eq_true m1;have e2:decide (x.x.line<258)=true:=decide_eq_true m2;have e3:decide (spn x.x.cls>0)=true:=decide_eq_true hs;have e4:decide (x.x.anti>= -1)=true:=decide_eq_true m5;have e5:decide (x.x.anti<258)=true:=decide_eq_true m6;unfold D7;simp only[Ih];simp only[aZ,aV,aU,aA,aI,bQ,bF,aO,aK,ay,aX,aW,bU,bG,bH,bI,bV,bC,bJ,bn,eG,aH,aN,ah,ak,aB,aF,aC,aG,e1,e2,e3,e4,e5,jU,iq,Bool.not_true];have e:x.b.put x.x=⟨false,1,λi=>if i=0 then x.x else x.b.e i⟩:=by unfold iy.put;rw[hn];rfl
 rw[e,hn];refine⟨by decide,rfl,rfl,rfl,λq hq=> ?_⟩;have:q=0:=by have:q<1:=hq;omega
 subst this;rfl
theorem Gp(x:Bz)(hx:x.b.ok/\x.x.may/\x.b.z=false):D8 x:=by
 obtain⟨⟨h1,h2⟩,⟨m1,m2,m3,m4,m5,m6⟩,hz⟩:=hx;have hs:=U7 (c:=x.x.cls) ⟨m3,m4⟩;have e1:decide (x.x.line>=2)=true:=decide_eq_true m1;have e2:decide (x.x.line<258)=true:=decide_eq_true m2;have e3:decide (spn x.x.cls>0)=true:=decide_eq_true hs;have e4:decide (x.x.anti>= -1)=true:=decide_eq_true m5;have e5:decide (x.x.anti<258)=true:=decide_eq_true m6;unfold D8;simp only[Ii,aqh];simp only[aZ,aV,aU,aA,aI,bQ,bF,aO,aK,ay,aX,aW,bU,bG,bH,bI,bV,bC,bJ,bn,eG,aH,aN,ah,ak,aB,aF,aC,aG,e1,e2,e3,e4,e5,jU,iq,Bool.not_true];unfold iy.put;refine bf (λh=> ?_) λh=> ?_
 ·have hge: ¬x.b.n<258:=by have:=aS h;omega
  simp only[if_neg hge];exact⟨trivial,trivial,trivial,λq _=>trivial⟩
 ·have hlt:x.b.n<258:=by have:=aT h;omega
  simp only[if_pos hlt];exact⟨rfl,by omega,trivial,trivial,rfl,λq hq=>aqi _ _ _ _ _ rfl⟩
theorem Gq(x:Unit):D9 x:=by
 unfold D9;simp only[uK];simp only[aZ,aV,aU,aA,aI,bQ,bF,aO,aK,ay,aX,aW,bU,bG,bH,bI,bV,bC,bJ,bn,eG,aH,aN,ah,ak,aB,aF,aC,aG]
theorem Gs(x:iy)(hx:x.ok/\x.z=false):Ea x:=by
 have:=hx.1.1;unfold Ea;simp only[agE];simp only[aZ,aV,aU,aA,aI,bQ,bF,aO,aK,ay,aX,aW,bU,bG,bH,bI,bV,bC,bJ,bn,eG,aH,aN,ah,ak,aB,aF,aC,aG];refine⟨aY _,bf (λh=> ?_) λ_=>by omega⟩;have h0:x.n=0:=au h;exact⟨h0,by omega,λq hq=>by omega⟩
theorem Ec(x:Unit):y7 x:=by
 unfold y7;simp only[aon,Zw,uK];simp only[aZ,aV,aU,aA,aI,bQ,bF,aO,aK,ay,aX,aW,bU,bG,bH,bI,bV,bC,bJ,bn,eG,aH,aN,ah,ak,aB,aF,aC,aG]
theorem Ed(x:Unit):y9 x:=by
 unfold y9;simp only[uK,Zw];simp only[aZ,aV,aU,aA,aI,bQ,bF,aO,aK,ay,aX,aW,bU,bG,bH,bI,bV,bC,bJ,bn,eG,aH,aN,ah,ak,aB,aF,aC,aG]
theorem alG{x:ZLn}(h:x.at_<x.len):x.get 0=x.e x.at_:=by
 unfold ZLn.get;rw[aI,Nat.mod_eq_of_lt h]
theorem Ee(x:ZLn)(hx:x.ok/\x.len≠0):y8 x:=by
 obtain⟨⟨o1,o2,o3,o4,o5⟩,hl⟩:=hx;have:=o5 hl;unfold y8;simp only[aoo,agF,aom];simp only[aZ,aV,aU,aA,aI,bQ,bF,aO,aK,ay,aX,aW,bU,bG,bH,bI,bV,bC,bJ,bn,eG,aH,aN,ah,ak,aB,aF,aC,aG];refine bf (λh=> ?_) λh=> ?_
 ·have h0:x.n=0:=by have:=beq_iff_eq.1 h;omega
  rw[show x.head=iO from if_pos h0,show x.pop=x from if_pos h0,h0];exact⟨⟨⟨rfl,rfl,rfl,rfl,rfl⟩,rfl⟩,⟨⟨rfl,rfl⟩,rfl,rfl⟩,rfl,λq _=>rfl⟩
 ·have h0:x.n≠0:=λe=>by rw[e]at h;exact absurd h (by decide)
  rw[show x.head=x.e x.at_ from (if_neg h0).trans (alG this),show x.pop=⟨x.len,x.cap,(x.at_+1)%x.len,x.n-1,λi=>if i=x.at_ then iO else x.e i⟩ from if_neg h0];exact⟨⟨by omega,by omega⟩,by omega,⟨by omega,by omega⟩,by omega,⟨by unfold I64;omega,by omega,by unfold I64;omega,⟨⟨rfl,rfl,rfl,rfl,rfl⟩,decide_eq_true h0⟩,⟨⟨rfl,rfl⟩,(Int.ofNat_tmod (x.at_+1) x.len),by show((x.n-1:Nat):Int)=_;omega⟩,rfl,λq _=>U8 _ _ iO _ _ rfl⟩⟩
theorem BA(x:ZLnk):vw x:=by
 unfold vw;simp only[xY];simp only[aZ,aV,aU,aA,aI,bQ,bF,aO,aK,ay,aX,aW,bU,bG,bH,bI,bV,bC,bJ,bn,eG,aH,aN,ah,ak,aB,aF,aC,aG];refine⟨by unfold I64;omega,by unfold I64;omega,by decide,by decide,by decide,by decide,by decide,by decide,by decide,by decide,rfl,by decide,by unfold I64;omega,⟨rfl,rfl⟩,λq hq=> ?_⟩;have:q=0:=by omega
 subst this;rfl
theorem Ja(a b:Nat):((a:Int)+(b:Int))=((a+b:Nat):Int):=by omega
theorem aqj{x:ZLn}(s:Nat):x.e ((x.at_+s)%x.len)=x.get s:=rfl
theorem Ef(x:ZLn)(hx:x.ok/\x.len≠0):zf x:=by
 obtain⟨⟨o1,o2,o3,o4,o5⟩,hl⟩:=hx;have:=o5 hl;have ht: ∀s:Nat,((x.at_:Int)+(s:Int)).tmod (x.len:Int)=(((x.at_+s)%x.len:Nat):Int):=λs=>by rw[Ja];exact(Int.ofNat_tmod _ _).symm
 have hm: ∀s:Nat,(x.at_+s)%x.len<x.len:=λs=>Nat.mod_lt _ (by omega)
 have hm0:=hm 0;have ht0:=ht 0;have hg0:x.e (x.at_%x.len)=x.get 0:=rfl;unfold zf;simp only[uK,abT,Ij,agG];simp only[Int.natCast_zero,Int.add_zero,aI]at ht0 hm0;simp only[aZ,aV,aU,aA,aI,bQ,bF,aO,aK,ay,aX,aW,bU,bG,bH,bI,bV,bC,bJ,bn,eG,aH,aN,ah,ak,aB,aF,aC,aG,Int.add_zero,ht,ht0,hg0,aqj];refine⟨bf (λh=> ?_) λh=> ?_,λs hs=>bf (λh=> ?_) λh=> ?_⟩
 ·have hn:0<x.n:=by have:=aS h;omega
  refine⟨by unfold I64;omega,by omega,⟨by omega,by omega⟩,by omega,by omega,by unfold I64;omega,1,by omega,by omega,by omega,rfl,λq hq=> ?_⟩;have:q=0:=by omega
  subst this;rfl
 ·exact .inl (by have:=aT h;omega)
 ·have hn:s<x.n:=by have:=aS h;omega
  have:=hm s;refine⟨by unfold I64;omega,by omega,⟨by omega,by omega⟩,by omega,rfl,by omega,by unfold I64;omega,s+1,by omega,by omega,by omega,rfl,λq hq=>U8 _ _ (x.get s) _ _ ?_⟩;split
  ·rename_i e;rw[e]
  ·rfl
 ·exact .inr (by have:=aT h;omega)
theorem BD(x:akg)(hx:x.l.ok/\x.l.len≠0):vC x:=by
 obtain⟨⟨o1,o2,o3,o4,o5⟩,hl⟩:=hx;have hat:=o5 hl;have e1:Nat.beq (x.l.len-x.l.at_) 0=false:=by rw[dA];exact decide_eq_false (by omega)
 have g1: ∀q,q<x.l.len-x.l.at_->x.l.get q=x.l.e (x.l.at_+q):=λq h=>by unfold ZLn.get;rw[Nat.mod_eq_of_lt (by omega)]
 have g2: ∀q,x.l.len-x.l.at_<=q->q<x.l.len->x.l.get q=x.l.e (q-(x.l.len-x.l.at_)):=λq h1 h2=>by
  unfold ZLn.get;rw[show x.l.at_+q=(q-(x.l.len-x.l.at_))+x.l.len by omega,Nat.add_mod_right,Nat.mod_eq_of_lt (by omega)]
 have hz:iO=⟨⟨#[]⟩,0,0,0,0⟩:=rfl;unfold vC;simp only[Zy,xY,xZ,Ig,Zv,agB,Zx,agC,agD];simp only[aZ,aV,aU,aA,aI,bQ,bF,aO,aK,ay,aX,aW,bU,bG,bH,bI,bV,bC,bJ,bn,eG,aH,aN,ah,ak,aB,aF,aC,aG,e1,iq];refine bf (λh=> ?_) λh=> ?_
 ·have hn:x.l.n=x.l.len:=by have:=beq_iff_eq.1 h;omega
  have e2:(2*(x.l.n:Int)+1).toNat=2*x.l.len+1:=by omega
  have e3:Nat.ble (x.l.len-x.l.at_) (2*x.l.len+1)=true:=by rw[Nat.ble_eq];omega
  have e4:x.l.push x.x=⟨x.l.len+1,2*x.l.len+1,0,x.l.len+1,λi=>if i<x.l.len then x.l.get i else if i=x.l.len then x.x else iO⟩:=by rw[<-hn];exact if_pos hn
  simp only[e2,e3,e4,jU];by_cases ha:x.l.at_=0
  ·have e5:Nat.beq x.l.at_ 0=true:=by rw[ha];rfl
   have e6:Nat.ble (x.l.len-x.l.at_+1) (2*x.l.len+1)=true:=by rw[Nat.ble_eq];omega
   simp only[e5,e6,jU];refine⟨by unfold I64;omega,by unfold I64;omega,by omega,by omega,by omega,by omega,by omega,λk _=>rfl,by omega,by omega,by omega,by omega,by omega,by omega,rfl,by omega,by unfold I64;omega,⟨⟨by omega,trivial⟩,by omega,by omega⟩,trivial,λq hq=> ?_⟩;rw[Eb];simp only[Cs.eff,bT,dw,dA,dI,<-Bool.decide_and];grind
  ·have e5:Nat.beq x.l.at_ 0=false:=by rw[dA];exact decide_eq_false ha
   have e6:Nat.ble (x.l.len-x.l.at_+x.l.at_) (2*x.l.len+1)=true:=by rw[Nat.ble_eq];omega
   have e7:Nat.ble (x.l.len-x.l.at_+x.l.at_+1) (2*x.l.len+1)=true:=by rw[Nat.ble_eq];omega
   simp only[e5,e6,e7,jU,iq];refine⟨by unfold I64;omega,by unfold I64;omega,by omega,by omega,by omega,by omega,by omega,λk _=>rfl,by omega,by omega,by omega,by omega,by omega,λk _=>rfl,by omega,by omega,rfl,by omega,by unfold I64;omega,⟨⟨by omega,trivial⟩,by omega,by omega⟩,trivial,λq hq=> ?_⟩;rw[Eb];simp only[Cs.eff,bT,dw,dA,dI,<-Bool.decide_and];grind
 ·have hn:x.l.n≠x.l.len:=λe=>by rw[e]at h;simp at h
  have ht:((x.l.at_:Int)+(x.l.n:Int)).tmod (x.l.len:Int)=(((x.l.at_+x.l.n)%x.l.len:Nat):Int):=by rw[Ja];exact(Int.ofNat_tmod _ _).symm
  have hm:(x.l.at_+x.l.n)%x.l.len<x.l.len:=Nat.mod_lt _ (by omega);rw[show x.l.push x.x=⟨x.l.len,x.l.cap,x.l.at_,x.l.n+1,λi=>if i=(x.l.at_+x.l.n)%x.l.len then x.x else x.l.e i⟩ from if_neg hn];simp only[ht,ay];exact⟨by unfold I64;omega,by omega,⟨by omega,by omega⟩,by omega,by unfold I64;omega,⟨⟨trivial,trivial⟩,trivial,by omega⟩,trivial,λq _=>U8 _ _ x.x _ _ rfl⟩
theorem abU:bZ Tryz.prog 66 (qQ true).ctr:=cO dD mixed (.cons (bM ng) .nil) 1 noA 200 5 (λ_=>⟨rfl,rfl,rfl,rfl⟩) λx hx=>Eq.mp (Qa x) (Gn x (aZ.1 hx))
theorem abV:bZ Tryz.prog 66 (qQ false).ctr:=cO dD mixed (.cons (bM ng) .nil) 2 noA 200 5 (λ_=>⟨rfl,rfl,rfl,rfl⟩) λx hx=>Eq.mp (Qb x) (Gp x (aZ.1 hx))
theorem abW:bZ Tryz.prog 278 JL.ctr:=cO dD mixed dQ 1 noA 200 5 (λ_=>⟨rfl,rfl,rfl,rfl⟩) λx _=>Eq.mp (Qc x) (Gq x)
theorem abX:bZ Tryz.prog 278 JM.ctr:=cO dD mixed dQ 2 noA 200 5 (λ_=>⟨rfl,rfl,rfl,rfl⟩) λx hx=>Eq.mp (Qd x) (Gs x (aZ.1 hx))
theorem Qe:bZ Tryz.prog 254 xW.ctr:=cO dD mixed dQ 1 noA 200 5 (λ_=>⟨rfl,rfl,rfl,rfl⟩) λx _=>Eq.mp (Gl x) (BA x)
theorem Qg:bZ Tryz.prog 254 xX.ctr:=cO dD mixed dQ 2 noA 200 5 (λ_=>⟨rfl,rfl,rfl,rfl⟩) λx hx=>Eq.mp (Gm x) (BD x (aZ.1 hx))
theorem U9:bZ Tryz.prog 255 Cb.ctr:=cO dD mixed dQ 1 noA 200 5 (λ_=>⟨rfl,rfl,rfl,rfl⟩) λx _=>Eq.mp (JO x) (Ec x)
theorem Va:bZ Tryz.prog 255 Cc.ctr:=cO dD mixed dQ 2 noA 200 5 (λ_=>⟨rfl,rfl,rfl,rfl⟩) λx hx=>Eq.mp (JQ x) (Ee x (aZ.1 hx))
theorem Vb:bZ Tryz.prog 70 Ce.ctr:=cO dD mixed dQ 1 noA 200 5 (λ_=>⟨rfl,rfl,rfl,rfl⟩) λx _=>Eq.mp (JR x) (Ed x)
theorem Vd:bZ Tryz.prog 70 Ci.ctr:=cO dD mixed dQ 2 as4 200 5 (λ_=>⟨rfl,rfl,rfl,rfl⟩) λx hx=>Eq.mp (JU x) (Ef x (aZ.1 hx))
theorem x9{X:Type}(x:X)(v:AV)(h':Heap):kS x v h' []=False:=by with_unfolding_all rfl
theorem dU{X:Type}(x:X)(v:AV)(h':Heap)(o:Out X)(r:List (Out X)):kS x v h' (o::r)=((∃y,o.post x y/\v=o.ret x y/\h'=hO o.m (o.os x y))\/kS x v h' r):=by with_unfolding_all rfl
theorem ku{X:Type}{x:X}{v:AV}{h':Heap}{o:Out X}(h:kS x v h' [o]): ∃y,o.post x y/\v=o.ret x y/\h'=hO o.m (o.os x y):=by
 rw[dU,x9,or_false]at h;exact h
theorem pz{X:Type}{x:X}{v:AV}{h':Heap}{o p:Out X}(h:kS x v h' [o,p]):(∃y,o.post x y/\v=o.ret x y/\h'=hO o.m (o.os x y))\/ ∃y,p.post x y/\v=p.ret x y/\h'=hO p.m (p.os x y):=by
 rw[dU,dU,x9,or_false]at h;exact h
theorem eP{X:Type}{x:X}{v:AV}{h':Heap}{o:Out X}{r:List (Out X)}(h: ∃y,o.post x y/\v=o.ret x y/\h'=hO o.m (o.os x y)):kS x v h' (o::r):=by
 rw[dU];exact .inl h
theorem AO{X:Type}{x:X}{v:AV}{h':Heap}{o p:Out X}{r:List (Out X)}(h: ∃y,p.post x y/\v=p.ret x y/\h'=hO p.m (p.os x y)):kS x v h' (o::p::r):=by
 rw[dU,dU];exact .inr (.inl h)
theorem Ve{P:Program}{f:FuncId}{X:Type}{args:X->List AV}{k:Nat}{l:X->List PO}{pre:X->Prop}{ret:X->AV}{m:Nat}{l':X->List PO}
  (h: ∀x,pre x-> ∃(Y:Type) (a2:Y->List AV) (l2:Y->List PO) (p2:Y->Prop) (r2:Y->AV) (l2':Y->List PO) (y:Y),bZ P f (qC Y a2 k l2 p2 r2 m l2').ctr/\p2 y/\a2 y=args x/\l2 y=l x/\r2 y=ret x/\l2' y=l' x):
  bZ P f (qC X args k l pre ret m l').ctr:=by
 refine je λx hx=> ?_
 obtain⟨Y,a2,l2,p2,r2,l2',y,h1,h2,h3,h4,h5,h6⟩:=h x hx;refine⟨_,h1,rfl,y,h2,h3,by simp only[qC,jw.ctr,h4],λv h' hh=> ?_⟩;obtain⟨u,e1,e2,e3⟩:=ku hh;exact eP ⟨u,trivial,by rw[e2];exact h5,by rw[e3];show hO m ((l2' y).map PO.ab)=hO m ((l' x).map PO.ab);rw[h6]⟩
def agH:jw:=qC Bz (λx=>[.ptr 0 0,x.x.av]) 1 (λx=>[.m x.b.os]) (λx=>Hd (x.b.ok/\x.x.may)) (λx=>i64 (if x.b.n<258 then 0 else 11)) 1 (λx=>[.m (x.b.put x.x).os])
def agJ:jw:={X:=iy,args:=λ_=>[.ptr 0 0],k:=1,l:=λb=>[.m b.os],pre:=λb=>Hd b.ok,outs:=[
 {Y:=Unit,post:=λb _=>Hd (b.n=0),ret:=λ_ _=>gV,m:=1,l:=λb _=>[.m b.os]},
 {Y:=Unit,post:=λ_ _=>Hd True,ret:=λb _=> .slW 1 0 5 b.n,m:=2,l:=λb _=>[.m b.os,.o (.room 70 b.row)]}]}
def Qh:jw:=qC akg (λx=>[.ptr 0 0,x.x.av]) 1 (λx=>[.m x.l.os]) (λx=>Hd x.l.ok) (λ_=> .tup []) 1 (λx=>[.m (x.l.push x.x).os])
def Zz:jw:=qC ZLn (λ_=>[.ptr 0 0]) 1 (λl=>[.m l.os]) (λl=>Hd l.ok) (λl=> .tup [l.head.av,boo (decide (l.n≠0))]) 1 (λl=>[.m l.pop.os])
def ZA:jw:={X:=ZLn,args:=λ_=>[.ptr 0 0],k:=1,l:=λl=>[.m l.os],pre:=λl=>Hd l.ok,outs:=[
 {Y:=Unit,post:=λl _=>Hd (l.n=0),ret:=λ_ _=>gV,m:=1,l:=λl _=>[.m l.os]},
 {Y:=Unit,post:=λl _=>Hd (l.n≠0),ret:=λl _=> .slW 1 0 5 l.n,m:=2,l:=λl _=>[.m l.os,.o (.room 41 (l.all l.n))]}]}
theorem abY{b:iy}{x:gZ}(h:b.ok):(b.put x).os=(b.put x).osP\/b.z=false/\(b.put x).os=(b.put x).osP:=by
 left;unfold iy.put;split
 ·rfl
 ·cases hz:b.z with
  |false=>unfold iy.os;rw[hz];rfl
  |true=>have:=h.2 hz;omega
theorem Ik{b:iy}(z:Bool)(h:b.z=z):b.os=bif z then iy.osN else b.osP:=by
 unfold iy.os;rw[h]
theorem agK:bZ Tryz.prog 66 agH.ctr:=Ve λx hx=>by
 have hx:=aZ.1 hx;have e:(x.b.put x.x).os=(x.b.put x.x).osP:=(abY hx.1).elim id And.right;cases hz:x.b.z with
 |true=>exact⟨_,_,_,_,_,_,x,abU,aZ.2 ⟨hx.1,hx.2,hz⟩,rfl,by rw[Ik true hz],rfl,by rw[e]⟩
 |false=>exact⟨_,_,_,_,_,_,x,abV,aZ.2 ⟨hx.1,hx.2,hz⟩,rfl,by rw[Ik false hz],rfl,by rw[e]⟩
theorem agL:bZ Tryz.prog 278 agJ.ctr:=je λx hx=>by
 have hx:=aZ.1 hx;cases hz:x.z with
 |true=>
  refine⟨_,abW,rfl,(),aZ.2 trivial,rfl,by show [_]=[_];rw[Ik true hz];rfl,λv h' hh=> ?_⟩;obtain⟨y,_,h1,h2⟩:=ku hh;exact eP ⟨(),aZ.2 (hx.2 hz),h1,by rw[h2];show hO 1 [_]=hO 1 [_];rw[Ik true hz];rfl⟩
 |false=>
  refine⟨_,abX,rfl,x,aZ.2 ⟨hx,hz⟩,rfl,by show [_]=[_];rw[Ik false hz];rfl,λv h' hh=> ?_⟩;obtain⟨y,_,h1,h2⟩:=ku hh;exact AO ⟨(),aZ.2 trivial,h1,by rw[h2];show hO 2 [_,_]=hO 2 [_,_];rw[Ik false hz];rfl⟩
theorem Qi{l:ZLn}(h:l.len=0):l.os=ZLn.osN:=by unfold ZLn.os;rw[h];rfl
theorem Eh{l:ZLn}(h:l.len≠0):l.os=l.osP:=by unfold ZLn.os;rw[dA,decide_eq_false h];rfl
theorem ln_n{l:ZLn}(h:l.ok)(h0:l.len=0):l.n=0:=by have:=h.2.2.1;omega
theorem Vf:bZ Tryz.prog 254 Qh.ctr:=Ve λx hx=>by
 have hx:=aZ.1 hx;by_cases hz:x.l.len=0
 ·have hn:=ln_n hx hz
  have e:x.l.push x.x=⟨1,1,0,1,λi=>if i=0 then x.x else iO⟩:=by
   unfold ZLn.push;rw[hn,hz,if_pos rfl];simp only[Nat.not_lt_zero,if_false,Nat.mul_zero,aA]
  exact⟨_,_,_,_,_,_,x.x,Qe,aZ.2 trivial,rfl,by rw[Qi hz],rfl,by rw[e];rfl⟩
 ·have e:(x.l.push x.x).len≠0:=by unfold ZLn.push;split<;>simp_all
  exact⟨_,_,_,_,_,_,x,Qg,aZ.2 ⟨hx,hz⟩,rfl,by rw[Eh hz],rfl,by rw[Eh e]⟩
theorem alH{l:ZLn}(h:l.n=0):l.head=iO:=if_pos h
theorem abZ:bZ Tryz.prog 255 Zz.ctr:=Ve λx hx=>by
 have hx:=aZ.1 hx;by_cases hz:x.len=0
 ·have hn:=ln_n hx hz
  exact⟨_,_,_,_,_,_,(),U9,aZ.2 trivial,rfl,by rw[Qi hz],by rw[alH hn,hn];rfl,by rw[show x.pop=x from if_pos hn,Qi hz]⟩
 ·have e:x.pop.len≠0:=by unfold ZLn.pop;split<;>exact hz
  exact⟨_,_,_,_,_,_,x,Va,aZ.2 ⟨hx,hz⟩,rfl,by rw[Eh hz],rfl,by rw[Eh e]⟩
theorem Il:bZ Tryz.prog 70 ZA.ctr:=je λx hx=>by
 have hx:=aZ.1 hx;by_cases hz:x.len=0
 ·refine⟨_,Vb,rfl,(),aZ.2 trivial,rfl,by show [_]=[_];rw[Qi hz],λv h' hh=> ?_⟩
  obtain⟨y,_,h1,h2⟩:=ku hh;exact eP ⟨(),aZ.2 (ln_n hx hz),h1,by rw[h2];show hO 1 [_]=hO 1 [_];rw[Qi hz]⟩
 ·refine⟨_,Vd,rfl,x,aZ.2 ⟨hx,hz⟩,rfl,by show [_]=[_];rw[Eh hz],λv h' hh=> ?_⟩
  rcases pz hh with ⟨y,h0,h1,h2⟩|⟨y,h0,h1,h2⟩
  ·exact eP ⟨(),h0,h1,by rw[h2];show hO 1 [_]=hO 1 [_];rw[Eh hz]⟩
  ·exact AO ⟨(),h0,h1,by rw[h2];show hO 2 [_,_]=hO 2 [_,_];rw[Eh hz]⟩
structure ZBlk where
 cls:Int
 kind:Int
 id:Int
 ver:Int
 epoch:Int
 key:ByteArray
 value:ByteArray
namespace ZBlk
def av(b:ZBlk):AV:= .agg [i64 b.cls,i64 b.kind,u64 b.id,u64 b.ver,u64 b.epoch,.lit (.string b.key),.lit (.string b.value)]
def num(v:Int):Prop:=1<=v/\v<=2305843009213693952
def nums(b:ZBlk):Prop:=num b.id/\num b.ver/\num b.epoch
def may(b:ZBlk):Prop:=spn b.cls≠0/\(
 b.kind=0/\b.id=0/\b.ver=0/\b.epoch=0/\b.key=⟨#[]⟩/\b.value=⟨#[]⟩\/
 b.kind=1/\1<=b.key.size/\b.key.size<=16/\b.value.size<=400/\ned (b.key.size+b.value.size:Nat)=b.cls/\b.nums\/
 b.kind=2/\b.key=⟨#[]⟩/\b.value.size<=400/\ned (b.key.size+b.value.size:Nat)=b.cls/\b.nums\/
 b.kind=3/\b.key.size+b.value.size=0/\b.cls=0/\b.nums)
def dat(b:ZBlk)(i:Nat):Int:=if i<(b.key++b.value).size then dY (b.key++b.value) i else 0
def h32(b:ZBlk)(k:Nat):Int:=if k=0 then 1 else if k=1 then b.cls else if k=2 then b.kind else if k=3 then b.key.size else if k<6 then(b.value.size:Int)/256^(k-4)%256 else if k<8 then 0 else
 if k<16 then b.id/256^(k-8)%256 else if k<24 then b.ver/256^(k-16)%256 else if k<32 then b.epoch/256^(k-24)%256 else 0
noncomputable def jL(b:ZBlk)(g:Nat->Int)(n:Nat)(k:Nat):Int:=if k<32 then b.h32 k else if k<36 then nM (nM 0 b.h32 32) g n/256^(k-32)%256 else g (k-36)
def iE(b:ZBlk):Nat:=(cpc b.cls).toNat
def dJ(b:ZBlk):Nat:=(spn b.cls).toNat
noncomputable def enc(b:ZBlk)(k:Nat):Int:=if k<64 then b.jL b.dat b.iE k else if k%64=0 then 2 else b.dat (28+(k/64-1)*63+(k%64-1))
end ZBlk
noncomputable def ZBlk.N8(b:ZBlk):Bool:=hide (@decide b.may (Classical.propDecidable _))
theorem yc{b:ZBlk}:b.N8=true↔b.may:=by unfold ZBlk.N8;rw[gW];exact @decide_eq_true_iff _ (Classical.propDecidable _)
noncomputable def aop:Ctr:=det ZBlk (λb=>[b.av]) 0 (λ_=>[]) (λb=>Hd (b.key.size<1099511627776/\b.value.size<1099511627776)) (λb=>boo b.N8) 0 (λ_=>[])
def vZ(g:Nat->Int)(a:Nat):Nat->Int
 |0=>0
 |w+1=>vZ g a w+g (a+w)*256^w
structure Ei where
 b:Bys
 at_:Nat
 w:Nat
def aqk:Ctr:=det Ei (λx=>[x.b.av 0,i64 x.at_,i64 x.w]) 1 (λx=>[x.b.ro]) (λx=>Hd (x.b.ok/\x.at_+x.w<=x.b.n/\1<=x.w/\x.w<=8)) (λx=> .tup [u64 (vZ (λk=>x.b.g (x.b.q+k)) x.at_ x.w),i64 0]) 1 (λx=>[x.b.ro])
def as5(x:Ei):FuncId->pX:=λf=>bif Nat.beq f 228 then(λb _ _=>bif Nat.beq b 0 then [
 {σ:=Nat,fr:=λk=>[(19,i64 k),(9,u64 (vZ (λk=>x.b.g (x.b.q+k)) x.at_ k))],ob:=λ_=>[],inv:=λk=>Hd (k<=x.w),meas:=λk=>x.w-k}]else [])elseλ_ _ _=>[]
structure BF where
 g:Nat->Int
 at_:Nat
 w:Nat
 v:Int
def Vg:Ctr:=det BF (λx=>[.slE 0 0 1 64 64,i64 x.at_,i64 x.w,u64 x.v]) 1 (λx=>[.cells 5 (rowB x.g 64)]) (λx=>Hd (x.at_+x.w<=64/\1<=x.w/\x.w<=8/\0<=x.v/\x.v<256^x.w/\ ∀k,0<=x.g k/\x.g k<256)) (λ_=> .tup []) 1 (λx=>[.cells 5 (rowB (pq x.g x.at_ x.w x.v) 64)])
structure zh where
 b:ZBlk
 d:Bys
def zh.ok(x:zh):Prop:=x.d.ok/\28<=x.d.n/\x.b.key.size<256/\x.b.value.size<65536/\0<=x.b.cls/\x.b.cls<256/\0<=x.b.kind/\x.b.kind<256/\0<=x.b.id/\x.b.id<18446744073709551616/\0<=x.b.ver/\x.b.ver<18446744073709551616/\0<=x.b.epoch/\x.b.epoch<18446744073709551616
noncomputable def DK:Ctr:=det zh (λx=>[x.b.av,x.d.av 0]) 1 (λx=>[x.d.ro]) (λx=>Hd x.ok) (λ_=> .slE 1 0 1 64 64) 2 (λx=>[x.d.ro,.cells 5 (rowB (x.b.jL (λk=>x.d.g (x.d.q+k)) x.d.n) 64)])
noncomputable def as6:jd:=[(171,ale),(170,ctrT aoa),(169,ctrT Vg)]
noncomputable def tblB0:jd:=[(215,ctrT aob)]
def Qj(a:ZBlk):Prop:=True/\a.N8=false/\True
def ZB(a:Int):Prop:=AV.lit (Value.int .i64 a)=AV.lit (Value.int .i64 a)
def Qk(a:Int):Prop:=ZB a/\True
def aql(a:ZBlk)(b:Int):Prop:=True/\ ∀y_1:Unit,True->Qk a.cls/\cP (bne (ned b) a.cls) (∃y_2:Unit,Qj a) (cP (decide (a.id>=(1:Int))) (cP (decide (a.id<=2305843009213693952)) (cP (decide (a.ver>=(1:Int))) (cP (decide (a.ver<=2305843009213693952)) (cP (decide (a.epoch>=(1:Int))) (∃y_2:Unit,True/\a.N8=decide (a.epoch<=2305843009213693952)/\True) (∃y_2:Unit,Qj a)) (∃y_2:Unit,Qj a)) (∃y_2:Unit,Qj a)) (∃y_2:Unit,Qj a)) (∃y_2:Unit,Qj a))
def pF(a:ZBlk):Prop:= ∃y_1:Unit,Qj a
def Ql(a:ZBlk):Prop:=(AV.lit (Value.tuple (@List.toArray Value (@List.nil Value)))=AV.lit (Value.tuple (@List.toArray Value (@List.nil Value)))/\True)/\pF a
def aqm(a:ZBlk):Prop:=cP (decide ((a.key.size:Int)+(a.value.size:Int)-(a.key.size:Int)>(400:Int))) (Ql a) (I64 ((a.key.size:Int)+((a.key.size:Int)+(a.value.size:Int)-(a.key.size:Int)))/\ ∃x_1:Int,True/\(x_1=(a.key.size:Int)+((a.key.size:Int)+(a.value.size:Int)-(a.key.size:Int))/\True)/\aql a x_1)
def aqn(a:ZBlk):Prop:=cP (decide ((a.key.size:Int)+(a.value.size:Int)>(400:Int))) (Ql a) (I64 ((a.key.size:Int)+((a.key.size:Int)+(a.value.size:Int)))/\ ∃x_1:Int,True/\(x_1=(a.key.size:Int)+((a.key.size:Int)+(a.value.size:Int))/\True)/\aql a x_1)
def ab1(a:BF):Prop:=Hd (a.at_+a.w<=64/\1<=a.w/\a.w<=8/\0<=a.v/\a.v< @HPow.hPow Int Nat Int (@instHPow Int Nat (@instPowNat Int @Int.instNatPow)) (256:Int) a.w/\ ∀k:Nat,0<=a.g k/\a.g k<256)
def Qm(a:BF)(b:BF):Prop:=(64=64/\ ∀q:Nat,q<64->[Value.int .u8 (a.g q)]=[Value.int .u8 (pq b.g b.at_ b.w b.v q)])/\True
def yg(a:Bys):Prop:=rowB a.g a.N=rowB a.g a.N/\true=true
def AP:Prop:=0=0/\64=64/\64=64
def agM(a:Ei):Prop:= ∃y:Unit,True/\(vZ (λ(k:Nat)=>a.b.g (a.b.q+k)) a.at_ a.w=0/\(0:Int)=1/\True)/\yg a.b/\True
def agN(a:Bys)(b:Nat):Prop:=(Nat.beq (List.length [Value.int .u8 (a.g (a.q+b))]) 1&&List.all [Value.int .u8 (a.g (a.q+b))] Value.oneCell')=true
def agO(a:ug)(b:Nat):Prop:=(Nat.beq (List.length [Value.int .u8 (a.res (0+b))]) 1&&List.all [Value.int .u8 (a.res (0+b))] Value.oneCell')=true
def ZC(a:ByteArray):Prop:=AV.lit (Value.string a)=AV.lit (Value.string a)
def aqo(b:ZBlk):Prop:=
 ∃x:Int,True/\(x=b.cls/\True)/\True/\ ∀y:Unit,True->cP (BEq.beq (spn x) (0:Int)) (pF b) (I64 ((b.key.size:Int)+(b.value.size:Int))/\cP (BEq.beq b.kind (0:Int)) (∃y_1:Unit,True/\b.N8=(BEq.beq b.cls b.cls&&(BEq.beq b.kind (0:Int)&&(BEq.beq b.id (0:Int)&&(BEq.beq b.ver (0:Int)&&(BEq.beq b.epoch (0:Int)&&(BEq.beq (ByteArray.toList b.key) (ByteArray.toList (ByteArray.mk #[]))&&(BEq.beq (ByteArray.toList b.value) (ByteArray.toList (ByteArray.mk #[]))&&true)))))))/\True) (cP (BEq.beq b.kind (1:Int)) (cP (decide ((b.key.size:Int)<1)) (pF b) (cP (decide ((b.key.size:Int)>(16:Int))) (pF b) (I64 ((b.key.size:Int)+(b.value.size:Int)-(b.key.size:Int))/\cP (BEq.beq b.kind (2:Int)) (cP (Bool.not (BEq.beq (ByteArray.toList b.key) (ByteArray.toList (ByteArray.mk #[])))) (Ql b) (aqm b)) (aqm b)))) (cP (BEq.beq b.kind (2:Int)) (cP (BEq.beq b.kind (2:Int)) (cP (Bool.not (BEq.beq (ByteArray.toList b.key) (ByteArray.toList (ByteArray.mk #[])))) (Ql b) (aqn b)) (aqn b)) (cP (BEq.beq b.kind (3:Int)) (cP (bne ((b.key.size:Int)+(b.value.size:Int)) (0:Int)) (pF b) (cP (bne b.cls (0:Int)) (pF b) (cP (decide (b.id>=(1:Int))) (cP (decide (b.id<=2305843009213693952)) (cP (decide (b.ver>=(1:Int))) (cP (decide (b.ver<=2305843009213693952)) (cP (decide (b.epoch>=(1:Int))) (∃y_1:Unit,True/\b.N8=decide (b.epoch<=2305843009213693952)/\True) (pF b)) (pF b)) (pF b)) (pF b)) (pF b)))) (pF b)))))
theorem alI(b:ZBlk):aqo b=wpF Tryz.prog [(113,ctrT yZ),(201,ctrT UD)] tt (noA b) 200 5 229 (aop.args b) (hO aop.k (aop.os b)) (λv h'=>eF aop.k b v h' aop.outs):=by kernel_rfl
def aqp(x:Ei):Prop:=
 cP (decide ((x.w:Int)<1)) (agM x) (cP (decide ((x.w:Int)>(8:Int))) (agM x) (I64 ((x.b.n:Int)-(x.w:Int))/\cP (decide ((x.at_:Int)>(x.b.n:Int)-(x.w:Int))) (∃y:Unit,True/\(vZ (λ(k:Nat)=>x.b.g (x.b.q+k)) x.at_ x.w=0/\(0:Int)=2/\True)/\yg x.b/\True) ((∃s:Nat,Hd (s<=x.w)/\True/\((s:Int)=0/\vZ (λ(k:Nat)=>x.b.g (x.b.q+k)) x.at_ s=0/\True)/\yg x.b/\True)/\(∀s:Nat,Hd (s<=x.w)->cP (decide ((s:Int)<(x.w:Int))) (I64 ((x.at_:Int)+(s:Int))/\(0<=(x.at_:Int)+(s:Int)/\(x.at_:Int)+(s:Int)<(x.b.n:Int))/\x.b.q+Int.toNat ((x.at_:Int)+(s:Int))<x.b.N/\I64 (8*(s:Int))/\0<=8*(s:Int)/\I64 ((s:Int)+1)/\ ∃s_1:Nat,Hd (s_1<=x.w)/\x.w-s_1<x.w-s/\((s_1:Int)=(s:Int)+1/\vZ (λ(k:Nat)=>x.b.g (x.b.q+k)) x.at_ s_1=IntKind.wrap .u64 ((@BitVec.toNat 64 (@HOr.hOr (@BitVec 64) (@BitVec 64) (@BitVec 64) (@instHOrOfOrOp (@BitVec 64) (@BitVec.instOrOp 64)) (@BitVec.ofInt 64 (vZ (λ(k:Nat)=>x.b.g (x.b.q+k)) x.at_ s)) (@BitVec.ofInt 64 (IntKind.wrap .u64 (IntKind.wrap .u64 (x.b.g (x.b.q+Int.toNat ((x.at_:Int)+(s:Int))))* @HPow.hPow Int Nat Int (@instHPow Int Nat (@instPowNat Int @Int.instNatPow)) (2:Int) (@Min.min Nat @instMinNat (Int.toNat (8*(s:Int))) 64))))):Nat):Int)/\True)/\yg x.b/\True) (∃y:Unit,True/\(vZ (λ(k:Nat)=>x.b.g (x.b.q+k)) x.at_ x.w=vZ (λ(k:Nat)=>x.b.g (x.b.q+k)) x.at_ s/\(0:Int)=0/\True)/\yg x.b/\True))/\True)))
theorem alJ(x:Ei):aqp x=wpF Tryz.prog [] tt (as5 x) 200 5 228 (aqk.args x) (hO aqk.k (aqk.os x)) (λv h'=>eF aqk.k x v h' aqk.outs):=by kernel_rfl
def agP(x:zh):Prop:=
 ((0:Int)<=64/\(0:Int)<=0/\(0:Int)<=281474976710592/\(0:Int)<=4611686018427387839)/\((0:Int)<=0/\(0:Int)<=63)/\0<64/\(ZC x.b.key/\ZB x.b.kind/\Qk x.b.cls)/\((0:Int)<=1/\(0:Int)<=62)/\1<64/\(ZC x.b.key/\Qk x.b.kind)/\((0:Int)<=2/\(0:Int)<=61)/\2<64/\(ZC x.b.key/\True)/\((0:Int)<=3/\(0:Int)<=60)/\3<64/\True/\ ∃x_1:BF,ab1 x_1/\(AP/\(x_1.at_:Int)=4/\(x_1.w:Int)=2/\x_1.v=IntKind.wrap .u64 (x.b.value.size:Int)/\True)/\((64=64/\ ∀q:Nat,q<64->[Value.int .u8 (x_1.g q)]=Cs.eff (λ(x_2:Nat)=>[Value.int .u8 0]) [(3,[Value.int .u8 (IntKind.wrap .u8 (x.b.key.size:Int))]),(2,[Value.int .u8 (IntKind.wrap .u8 x.b.kind)]),(1,[Value.int .u8 (IntKind.wrap .u8 x.b.cls)]),(0,[Value.int .u8 1])] q)/\True)/\ ∀y:Unit,True-> ∃x_2:BF,ab1 x_2/\(AP/\(x_2.at_:Int)=8/\(x_2.w:Int)=8/\x_2.v=x.b.id/\True)/\Qm x_2 x_1/\ ∀y_1:Unit,True-> ∃x_3:BF,ab1 x_3/\(AP/\(x_3.at_:Int)=16/\(x_3.w:Int)=8/\x_3.v=x.b.ver/\True)/\Qm x_3 x_2/\ ∀y_2:Unit,True-> ∃x_4:BF,ab1 x_4/\(AP/\(x_4.at_:Int)=24/\(x_4.w:Int)=8/\x_4.v=x.b.epoch/\True)/\Qm x_4 x_3/\ ∀y_3:Unit,True->(0:Int)<=32/\(0<=32/\32<=64/\64<=64)/\32<=64/\ ∃n:Nat,∃g: ∀a:Nat,Int,32=n/\n<1099511627776/\(∀k:Nat,k<n->[Value.int .u8 (pq x_4.g x_4.at_ x_4.w x_4.v (0+k))]=[Value.int .u8 (g k)])/\(∀k:Nat,0<=g k/\g k<256)/\ ∃x_5:apV,Hd (U32 x_5.c/\x_5.b.ok)/\(x_5.c=nM (0:Int) g n/\(x_5.b.q=x.d.q/\x_5.b.n=x.d.n)/\True)/\((x_5.b.N=x.d.N/\ ∀q:Nat,q<x_5.b.N->[Value.int .u8 (x_5.b.g q)]=[Value.int .u8 (x.d.g q)])/\True)/\
 ∀y_4:Unit,True-> ∃x_6:BF,ab1 x_6/\(AP/\(x_6.at_:Int)=32/\(x_6.w:Int)=4/\x_6.v=IntKind.wrap .u64 (nM x_5.c (λ(k:Nat)=>x_5.b.g (x_5.b.q+k)) x_5.b.n)/\True)/\Qm x_6 x_4/\ ∀y_5:Unit,True->(0:Int)<=36/\(36<=64/\64<=64/\64<=64)/\64<=64/\cP (Nat.ble x.d.n 28) (x.d.q+x.d.n<=x.d.N/\(∀k:Nat,k<x.d.n->agN x.d k)/\ ∃y_6:Unit,True/\AP/\yg x.d/\(64=64/\ ∀q:Nat,q<64->[Value.int .u8 (x.b.jL (λ(k:Nat)=>x.d.g (x.d.q+k)) x.d.n q)]=Cs.eff (λ(p:Nat)=>cond (Nat.ble 36 p&&Nat.blt p (36+x.d.n)) [Value.int .u8 (x.d.g (x.d.q+(p-36)))] [Value.int .u8 (pq x_6.g x_6.at_ x_6.w x_6.v p)]) [] q)/\True) (x.d.q+28<=x.d.N/\(∀k:Nat,k<28->agN x.d k)/\ ∃y_6:Unit,True/\AP/\yg x.d/\(64=64/\ ∀q:Nat,q<64->[Value.int .u8 (x.b.jL (λ(k:Nat)=>x.d.g (x.d.q+k)) x.d.n q)]=Cs.eff (λ(p:Nat)=>cond (Nat.ble 36 p&&Nat.blt p 64) [Value.int .u8 (x.d.g (x.d.q+(p-36)))] [Value.int .u8 (pq x_6.g x_6.at_ x_6.w x_6.v p)]) [] q)/\True)
theorem agQ(x:zh):agP x=wpF Tryz.prog as6 tt (noA x) 200 5 114 (DK.args x) (hO DK.k (DK.os x)) (λv h'=>eF DK.k x v h' DK.outs):=by kernel_rfl
def agR(x:BF):Prop:=
 ∃x_1:ug,Hd x_1.ok/\((x_1.b.q=0/\x_1.b.n=64/\x_1.c=64)/\(x_1.at_:Int)=(x.at_:Int)/\(x_1.w:Int)=(x.w:Int)/\x_1.v=x.v/\True)/\((x_1.b.N=64/\ ∀q:Nat,q<x_1.b.N->[Value.int .u8 (x_1.b.g q)]=[Value.int .u8 (x.g q)])/\True)/\ ∀y:Unit,True->64<=64/\cP (Nat.ble x_1.b.n 64) (0+x_1.b.n<=x_1.b.n/\(∀k:Nat,k<x_1.b.n->agO x_1 k)/\ ∃y_1:Unit,True/\True/\(64=64/\ ∀q:Nat,q<64->[Value.int .u8 (pq x.g x.at_ x.w x.v q)]=Cs.eff (λ(p:Nat)=>cond (Nat.ble 0 p&&Nat.blt p (0+x_1.b.n)) [Value.int .u8 (x_1.res (0+(p-0)))] [Value.int .u8 (x.g p)]) [] q)/\True) (64<=x_1.b.n/\(∀k:Nat,k<64->agO x_1 k)/\ ∃y_1:Unit,True/\True/\(64=64/\ ∀q:Nat,q<64->[Value.int .u8 (pq x.g x.at_ x.w x.v q)]=Cs.eff (λ(p:Nat)=>cond (Nat.ble 0 p&&Nat.blt p 64) [Value.int .u8 (x_1.res (0+(p-0)))] [Value.int .u8 (x.g p)]) [] q)/\True)
theorem agS(x:BF):agR x=wpF Tryz.prog tblB0 tt (noA x) 200 5 169 (Vg.args x) (hO Vg.k (Vg.os x)) (λv h'=>eF Vg.k x v h' Vg.outs):=by kernel_rfl
theorem qy{b:Bool}{x y:Prop}:cP b x y↔(b=true->x)/\(b=false->y):=⟨λh=>by cases b with
 |true=>exact⟨λ_=>h,λe=>nomatch e⟩
 |false=>exact⟨λe=>(nomatch e),λ_=>h⟩,λh=>bf h.1 h.2⟩
theorem Vh(x:BF)(hx:x.at_+x.w<=64/\1<=x.w/\x.w<=8/\0<=x.v/\x.v<256^x.w/\ ∀k,0<=x.g k/\x.g k<256):agR x:=by
 obtain⟨h1,h2,h3,h4,h5,h6⟩:=hx;have e1:Nat.ble 64 64=true:=rfl;unfold agR;simp only[agO];simp only[aZ,aV,aU,aA,aI,bQ,bF,aO,aK,ay,aX,aW,bU,bG,bH,bI,bV,bC,bJ,bn,eG,aH,aN,ah,ak,aB,aF,aC,aG];simp only[qy];refine⟨⟨⟨x.g,0,64,64⟩,x.at_,x.w,x.v,64⟩,⟨⟨by simp,by simp,h6⟩,h1,h2,h3,h4,h5⟩,⟨⟨rfl,rfl,rfl⟩,rfl,rfl,rfl⟩,⟨rfl,λq _=>rfl⟩,?_⟩;have key: ∀q,q<64->pq x.g x.at_ x.w x.v q=bif Nat.blt q 64 then(ug.mk ⟨x.g,0,64,64⟩ x.at_ x.w x.v 64).res q else x.g q:=λq hq=>by
  rw[bg.2 hq,aP];simp only[ug.res,aA]
 exact⟨aY _,λ_=>⟨aY _,λq hq=>key q hq⟩,λh=>absurd (show Nat.ble 64 64=false from h) (by decide)⟩
theorem agT{g:Nat->Int}(hg: ∀k,0<=g k/\g k<256)(a:Nat): ∀w,0<=vZ g a w/\vZ g a w<256^w
 |0=>⟨Int.le_refl _,by show(0:Int)<256^0;decide⟩
 |w+1=>by
  have ih:=agT hg a w;have h:=hg (a+w);have hp:(0:Int)<256^w:=Int.pow_pos (by omega);simp only[vZ];have h1:0<=g (a+w)*256^w:=Int.mul_nonneg h.1 (Int.le_of_lt hp);have h2:g (a+w)*256^w<=255*256^w:=Int.mul_le_mul_of_nonneg_right (by omega) (Int.le_of_lt hp);rw[Int.pow_succ];omega
theorem or64{a b:Int}{s:Nat}(ha:0<=a)(ha2:a<256^s)(hb:0<=b)(hb2:b<256)(hs:s<8):IntKind.u64.wrap (((BitVec.ofInt 64 a|||BitVec.ofInt 64 (IntKind.u64.wrap (b*256^s))).toNat:Nat):Int)=a+b*256^s:=by
 obtain⟨x,rfl⟩:=Int.eq_ofNat_of_zero_le ha;obtain⟨y,rfl⟩:=Int.eq_ofNat_of_zero_le hb;have hx:x<2^(8*s):=by
  rw[Nat.pow_mul];have:((256:Nat):Int)^s=((256^s:Nat):Int):=(Int.natCast_pow 256 s).symm;have h2:(x:Int)<((256^s:Nat):Int):=by rw[<-this];exact ha2
  exact Int.ofNat_lt.1 h2
 have hy:y<256:=by omega
 have e1:(y:Int)*256^s=((y*2^(8*s):Nat):Int):=by rw[Nat.pow_mul,show(2:Nat)^8=256 from rfl,Int.natCast_mul,Int.natCast_pow];rfl
 have hp:2^(8*s)<=2^56:=Nat.pow_le_pow_right (by decide) (by omega);have hlt:y*2^(8*s)<2^64:=by
  have:y*2^(8*s)<=255*2^56:=Nat.mul_le_mul (by omega) hp;omega
 have hor:x|||y*2^(8*s)=x+y*2^(8*s):=by
  rw[Nat.or_comm,Nat.add_comm,<-Nat.shiftLeft_eq,Nat.shiftLeft_add_eq_or_of_lt hx]
 have hx64:x<2^64:=by omega
 have hsum:x+y*2^(8*s)<2^64:=by
  have:y*2^(8*s)<=255*2^(8*s):=Nat.mul_le_mul_right _ (by omega);omega
 have hw: ∀n:Nat,n<2^64->IntKind.u64.wrap (n:Int)=(n:Int):=λn hn=>by
  unfold IntKind.wrap;simp only[IntKind.bits,IntKind.signed];have:(n:Int)%(2^64)=n:=Int.emod_eq_of_lt (by omega) (by omega);simpa using this
 rw[e1,hw _ hlt,show BitVec.ofInt 64 ((x:Nat):Int)=BitVec.ofNat 64 x from BitVec.ofInt_natCast ..,show BitVec.ofInt 64 ((y*2^(8*s):Nat):Int)=BitVec.ofNat 64 (y*2^(8*s)) from BitVec.ofInt_natCast ..,BitVec.toNat_or,BitVec.toNat_ofNat,BitVec.toNat_ofNat,Nat.mod_eq_of_lt hx64,Nat.mod_eq_of_lt hlt,hor,hw _ hsum];omega
theorem alK{z:Int}(h:0<=z/\z<256):IntKind.u64.wrap z=z:=by
 unfold IntKind.wrap;simp only[IntKind.bits,IntKind.signed];have:z%(2^64)=z:=Int.emod_eq_of_lt (by omega) (by omega);simpa using this
theorem ab2(x:Ei)(hx:x.b.ok/\x.at_+x.w<=x.b.n/\1<=x.w/\x.w<=8):aqp x:=by
 obtain⟨⟨h1,h2,h3⟩,h4,h5,h6⟩:=hx;unfold aqp;simp only[agM,yg];simp only[aZ,aV,aU,aA,aI,bQ,bF,aO,aK,ay,aX,aW,bU,bG,bH,bI,bV,bC,bJ,bn,eG,aH,aN,ah,ak,aB,aF,aC,aG];refine bf (λh=>absurd (aS h) (by omega)) λ_=>bf (λh=>absurd (aS h) (by omega)) λ_=>⟨by unfold I64;omega,bf (λh=>absurd (aS h) (by omega)) λ_=>⟨⟨0,by omega,rfl,rfl⟩,λs hs=>bf (λh=> ?_) λh=> ?_⟩⟩
 ·have hs':s<x.w:=by have:=aS h;omega
  refine⟨by unfold I64;omega,⟨by omega,by omega⟩,by omega,by unfold I64;omega,by omega,by unfold I64;omega,s+1,by omega,by omega,by omega,?_⟩;have hb:=agT (g:=λk=>x.b.g (x.b.q+k)) (λk=>h3 _) x.at_ s;rw[show((x.at_:Int)+(s:Int)).toNat=x.at_+s by omega,alK (h3 _),Ui (by omega),or64 hb.1 hb.2 (h3 _).1 (h3 _).2 (by omega)];rfl
 ·rw[show x.w=s by have:=aT h;omega]
theorem Ej(a b:ByteArray):(a.toList==b.toList)=true↔a=b:=by
 rw[beq_iff_eq];exact⟨λh=>by rw[toList_data,toList_data]at h;cases a;cases b;simp at h;simp[h],λh=>by rw[h]⟩
theorem ab3(b:ZBlk)(hb:b.key.size<1099511627776/\b.value.size<1099511627776):aqo b:=by
 unfold aqo;simp only[pF,Ql,aqm,aqn,aql,Qk,Qj,ZB];simp only[aZ,aV,aU,aA,aI,bQ,bF,aO,aK,ay,aX,aW,bU,bG,bH,bI,bV,bC,bJ,bn,eG,aH,aN,ah,ak,aB,aF,aC,aG];have hF: ¬b.may->b.N8=false:=λh=>by
  cases hm:b.N8 with
  |true=>exact absurd (yc.1 hm) h
  |false=>rfl
 have hT:b.may->b.N8=true:=yc.2;have hB: ∀x:Bool,(x=true↔b.may)->b.N8=x:=λx h=>by
  cases hx:x with
  |true=>exact hT (h.1 hx)
  |false=>exact hF λhm=>by rw[h.2 hm]at hx;cases hx
 have n1:((b.key.size:Int)+((b.key.size:Int)+(b.value.size:Int)-(b.key.size:Int)))=((b.key.size+b.value.size:Nat):Int):=by omega
 have n2:((b.key.size:Int)+(b.value.size:Int)-(b.key.size:Int))=(b.value.size:Int):=by omega
 have kz:b.key=⟨#[]⟩->b.key.size=0:=λh=>by rw[h];rfl
 have vz:b.value=⟨#[]⟩->b.value.size=0:=λh=>by rw[h];rfl
 obtain⟨b1,b2⟩:=hb;have ek:=Ej b.key ⟨#[]⟩;have ev:=Ej b.value ⟨#[]⟩;generalize hek:(b.key.toList==ByteArray.toList ⟨#[]⟩)=kk at ek ⊢;generalize hev:(b.value.toList==ByteArray.toList ⟨#[]⟩)=vv at ev ⊢;simp only[n1,n2,I64,beq_self_eq_true,aH,Bool.and_true];unfold ZBlk.may ZBlk.nums ZBlk.num at hB hF hT;clear hek hev;generalize b.N8=m at hB hF hT ⊢;by_cases s0:spn b.cls=0
 ·rw[show(spn b.cls==0)=true from beq_iff_eq.2 s0]
  exact hF λh=>h.1 s0
 rw[show(spn b.cls==0)=false from beq_eq_false_iff_ne.2 s0];refine⟨by omega,?_⟩;by_cases k0:b.kind=0
 ·simp only[k0,beq_self_eq_true,jU]
  exact hB _ (by grind)
 by_cases k1:b.kind=1
 ·simp only[k1,qy]
  simp only[k1]at hT hF;clear hB ek ev kz vz;grind (splits:=30)
 by_cases k2:b.kind=2
 ·by_cases hk:b.key=⟨#[]⟩
  ·have k0':=kz hk
   have n3:((0:Nat):Int)+(((0:Nat):Int)+(b.value.size:Int))=((0+b.value.size:Nat):Int):=by omega
   have hkk:=ek.2 hk;simp only[k2,k0',hkk,hk,n3,qy]at hF hT ⊢;clear hB ek ev kz vz;grind (splits:=30)
  ·have hkk:kk=false:=by
    cases h:kk with
    |false=>rfl
    |true=>exact absurd (ek.1 h) hk
   simp only[k2,hkk,qy]at hT hF ⊢;clear hB ek ev kz vz;grind
 by_cases k3:b.kind=3
 ·simp only[k3,qy]
  simp only[k3]at hT hF;clear hB ek ev kz vz;grind (splits:=30)
 ·rw[show(b.kind==0)=false from beq_eq_false_iff_ne.2 k0,show(b.kind==1)=false from beq_eq_false_iff_ne.2 k1,show(b.kind==2)=false from beq_eq_false_iff_ne.2 k2,show(b.kind==3)=false from beq_eq_false_iff_ne.2 k3]
  exact hF (by grind)
theorem jc{z:Int}(h:0<=z)(h2:z<18446744073709551616):IntKind.u64.wrap z=z:=by
 unfold IntKind.wrap;simp only[IntKind.bits,IntKind.signed];have:z%(2^64)=z:=Int.emod_eq_of_lt h (by omega);simpa using this
theorem aqr(b:ZBlk)(q:Nat):pq (pq (pq (pq (λq=>if q=0 then 1 else if q=1 then b.cls else if q=2 then b.kind else if q=3 then(b.key.size:Int)else 0) 4 2 b.value.size) 8 8 b.id) 16 8 b.ver) 24 8 b.epoch q=b.h32 q:=by
 unfold pq ZBlk.h32;grind (splits:=30)
theorem Vj(x:zh)(hx:x.ok):agP x:=by
 obtain⟨⟨d1,d2,d3⟩,dn,h1,h2,h3,h4,h5,h6,h7,h8,h9,h10,h11,h12⟩:=hx;let g0:Nat->Int:=λq=>if q=0 then 1 else if q=1 then x.b.cls else if q=2 then x.b.kind else if q=3 then(x.b.key.size:Int)else 0
 have hg0: ∀k,0<=g0 k/\g0 k<256:=λk=>by simp only[g0];grind
 let g1:=pq g0 4 2 x.b.value.size
 have hg1: ∀k,0<=g1 k/\g1 k<256:=yY hg0 _ _ _;let g2:=pq g1 8 8 x.b.id
 have hg2: ∀k,0<=g2 k/\g2 k<256:=yY hg1 _ _ _;let g3:=pq g2 16 8 x.b.ver
 have hg3: ∀k,0<=g3 k/\g3 k<256:=yY hg2 _ _ _;let g4:=pq g3 24 8 x.b.epoch
 have hg4: ∀k,0<=g4 k/\g4 k<256:=yY hg3 _ _ _;have e4: ∀q,g4 q=x.b.h32 q:=λq=>aqr x.b q
 have hU1:=Zb 0 g4 32;have hU:=Zb (nM 0 g4 32) (λk=>x.d.g (x.d.q+k)) x.d.n;have w1:IntKind.u64.wrap (x.b.value.size:Int)=x.b.value.size:=jc (by omega) (by omega);have w2:IntKind.u64.wrap (nM (nM 0 g4 32) (λk=>x.d.g (x.d.q+k)) x.d.n)=nM (nM 0 g4 32) (λk=>x.d.g (x.d.q+k)) x.d.n:=jc hU.1 (by have:=hU.2;omega);have ub: ∀z:Int,0<=z->z<256->IntKind.u8.wrap z=z:=λz a b=>by rw[aod];exact Int.emod_eq_of_lt a b
 have fin: ∀q,q<64->x.b.jL (λk=>x.d.g (x.d.q+k)) x.d.n q=if 36<=q then x.d.g (x.d.q+(q-36))else pq g4 32 4 (nM (nM 0 g4 32) (λk=>x.d.g (x.d.q+k)) x.d.n) q:=λq hq=>by
  unfold ZBlk.jL;have ea:nM 0 g4 32=nM 0 x.b.h32 32:=yX λk _=>e4 k
  rw[ea];unfold pq;by_cases q1:q<32
  ·rw[if_pos q1,if_neg (by omega),if_neg (by omega),e4]
  ·rw[if_neg q1]
   by_cases q2:q<36
   ·rw[if_pos q2,if_neg (by omega),if_pos (by omega)]
   ·rw[if_neg q2,if_pos (by omega)]
 unfold agP;simp only[ZC,ZB,Qk,ab1,AP,Qm,agN,yg];simp only[aZ,aV,aU,aA,aI,bQ,bF,aO,aK,ay,aX,aW,bU,bG,bH,bI,bV,bC,bJ,bn,eG,aH,aN,ah,ak,aB,aF,aC,aG,w1,ub _ h3 h4,ub _ h5 h6,ub _ (show(0:Int)<=x.b.key.size by omega) (show(x.b.key.size:Int)<256 by omega)]
 refine⟨by decide,by decide,by decide,by decide,by decide,by decide,by decide,by decide,by decide,
  ⟨g0,4,2,x.b.value.size⟩,⟨show 4+2<=64 by decide,show 1<=2 by decide,show 2<=8 by decide,show(0:Int)<=x.b.value.size by omega,show(x.b.value.size:Int)<256^2 by omega,hg0⟩,⟨rfl,rfl,rfl⟩,λq _=> ?_,
  ⟨g1,8,8,x.b.id⟩,⟨show 8+8<=64 by decide,show 1<=8 by decide,show 8<=8 by decide,h7,h8,hg1⟩,⟨rfl,rfl,rfl⟩,λq _=>rfl,
  ⟨g2,16,8,x.b.ver⟩,⟨show 16+8<=64 by decide,show 1<=8 by decide,show 8<=8 by decide,h9,h10,hg2⟩,⟨rfl,rfl,rfl⟩,λq _=>rfl,
  ⟨g3,24,8,x.b.epoch⟩,⟨show 24+8<=64 by decide,show 1<=8 by decide,show 8<=8 by decide,h11,h12,hg3⟩,⟨rfl,rfl,rfl⟩,λq _=>rfl,
  by decide,by decide,by decide,32,g4,rfl,by decide,λk _=>rfl,hg4,⟨nM 0 g4 32,x.d⟩,⟨hU1,d1,d2,d3⟩,⟨rfl,rfl,rfl⟩,⟨rfl,λq _=>rfl⟩,
  ⟨g4,32,4,nM (nM 0 g4 32) (λk=>x.d.g (x.d.q+k)) x.d.n⟩,⟨show 32+4<=64 by decide,show 1<=4 by decide,show 4<=8 by decide,hU.1,hU.2,hg4⟩,⟨rfl,rfl,w2.symm⟩,λq _=>rfl,?_⟩
 ·simp only[Cs.eff,bT,dw,dA,dI,<-Bool.decide_and,g0]
  split
  ·grind
  ·grind
 ·simp only[qy]
  refine⟨by decide,by decide,by decide,λhb=>⟨d1,λq hq=> ?_⟩,λhb=>⟨by omega,λq hq=> ?_⟩⟩
  ·rw[fin q hq]
   have hn:x.d.n=28:=by have:=Nat.le_of_ble_eq_true hb;omega
   simp only[Cs.eff,bT,dw,dA,dI,<-Bool.decide_and,hn];grind
  ·rw[fin q hq]
   simp only[Cs.eff,bT,dw,dA,dI,<-Bool.decide_and];grind
theorem agU:bZ Tryz.prog 229 aop:=dM dD mixed (.cons (bM ng) (.cons (bM af2) .nil)) noA 200 5 (λ_=>rfl) (λ_=>rfl) λx hx=>Eq.mp (alI x) (ab3 x (aZ.1 hx))
theorem as7:bZ Tryz.prog 228 aqk:=dM dD mixed .nil as5 200 5 (λ_=>rfl) (λ_=>rfl) λx hx=>Eq.mp (alJ x) (ab2 x (aZ.1 hx))
theorem aqs:bZ Tryz.prog 169 Vg:=dM dD mixed (.cons (bM aoe) .nil) noA 200 5 (λ_=>rfl) (λ_=>rfl) λx hx=>Eq.mp (agS x) (Vh x (aZ.1 hx))
theorem alL:dX Tryz.prog as6:= .cons Zc (.cons (bM aoc) (.cons (bM aqs) .nil))
theorem aqt:bZ Tryz.prog 114 DK:=dM dD mixed alL noA 200 5 (λ_=>rfl) (λ_=>rfl) λx hx=>Eq.mp (agQ x) (Vj x (aZ.1 hx))
noncomputable def aoq:Ctr:={X:=ZBlk,args:=λb=>[b.av],k:=0,os:=λ_=>[],pre:=λb=>Hd (b.may/\b.key.size<1099511627776/\b.value.size<1099511627776),outs:=[
 {Y:=Unit,post:=λb _=>Hd (b.cls=0),ret:=λ_ _=> .tup [.slE 0 0 1 64 64,i64 0],m:=1,os:=λb _=>[.cells 5 (rowB b.enc 64)]},
 {Y:=Unit,post:=λb _=>Hd (b.cls≠0),ret:=λb _=> .tup [.slW 0 0 1 (64*b.dJ),i64 0],m:=1,os:=λb _=>[.room 5 (rowB b.enc (64*b.dJ))]}]}
noncomputable def as8(x:ZBlk):FuncId->pX:=λf=>bif Nat.beq f 180 then(λb _ _=>bif Nat.beq b 0 then [
 {σ:=Unit,fr:=λ_=>[(31,i64 0),(4,.slE 1 28 1 (x.iE-28) (x.iE-28)),(5,.slE 2 0 1 64 64)],ob:=λ_=>[],inv:=λ_=>Hd True,meas:=λ_=>x.dJ+1,test:=λfr _=>(match SE.look fr 5 with| .slE .. =>true|_=>false)},
 {σ:=Nat,fr:=λi=>[(31,i64 i),(4,.slE 1 (28+63*i) 1 (x.iE-28-63*i) (x.iE-28-63*i)),(5,.slW 3 0 1 (64*(i+1)))],ob:=λi=>[(3,some (.room 5 (rowB x.enc (64*(i+1)))))],inv:=λi=>Hd (1<=i/\i+1<=x.dJ),meas:=λi=>x.dJ-i,nx:=1,test:=λfr _=>(match SE.look fr 5 with| .slE .. =>false|_=>true)}]else [])elseλ_ _ _=>[]
noncomputable def Em:Ctr:=det Int (λc=>[i64 c]) 0 (λ_=>[]) (λc=>Hd (0<=c/\c<=3)) (λ_=> .slE 0 0 1 64 64) 1 (λc=>[.cells 5 (rowB ((ZBlk.mk c 0 0 0 0 ⟨#[]⟩ ⟨#[]⟩).jL (λ_=>0) (cpc c).toNat) 64)])
structure AQ where
 b:Bys
 s:Nat
def AQ.at_(x:AQ)(i:Nat):Int:=if i<28 then x.b.g (x.b.q+(36+i))else x.b.g (x.b.q+(64*((i-28)/63+1)+1+(i-28)%63))
def AQ.str(x:AQ):ByteArray:=mkStr (28+63*(x.s-1)) (λi=>UInt8.ofNat (x.at_ i).toNat)
def Vk:Ctr:=det AQ (λx=>[x.b.av 0]) 1 (λx=>[x.b.ro]) (λx=>Hd (x.b.ok/\x.b.n=64*x.s/\1<=x.s/\x.s<=8)) (λx=> .lit (.string x.str)) 1 (λx=>[x.b.ro])
def aor(x:AQ):FuncId->pX:=λf=>bif Nat.beq f 179 then(λb _ h=>bif Nat.beq b 0 then [
 {σ:=Unit,fr:=λ_=>[(4,i64 64),(3,.slW 2 0 1 28)],ob:=λ_=>[(2,some (.room 5 (rowB x.at_ 28)))],inv:=λ_=>Hd True,meas:=λ_=>x.s+1,test:=λfr _=>(match SE.look fr 3 with| .slW i _ _ _=>Nat.beq i 2|_=>false)},
 {σ:=Nat,fr:=λi=>[(4,i64 (64+64*i:Nat)),(3,.slW 3 0 1 (28+63*i))],ob:=λi=>[(2,none),(3,some (.room 5 (rowB x.at_ (28+63*i))))],inv:=λi=>Hd (1<=i/\i+1<=x.s),meas:=λi=>x.s-i,nx:=1,test:=λfr _=>(match SE.look fr 3 with| .slW i _ _ _=> !Nat.beq i 2|_=>false)}]else [])elseλ_ _ _=>[]
structure agV where
 b:ZBlk
 g:Nat->Int
noncomputable def aqu:Ctr:=det agV (λx=>[.slW 0 0 1 (64*x.b.dJ)]) 1 (λx=>[.room 5 (rowB x.g (64*x.b.dJ))]) (λx=>Hd (x.b.may/\x.b.key.size<1099511627776/\x.b.value.size<1099511627776/\ ∀k,k<64*x.b.dJ->x.g k=x.b.enc k)) (λx=> .tup [x.b.av,boo true]) 1 (λx=>[.room 5 (rowB x.g (64*x.b.dJ))])
noncomputable def aqv:jd:=[(113,ctrT yZ),(115,ctrT aoh),(229,ctrT aop),(114,ctrT DK)]
noncomputable def as9:jd:=[(113,ctrT yZ),(228,ctrT aqk),(179,ctrT Vk),(180,ctrT aoq)]
end Go.Proofs.YtenfleoejgjklaaGreat
end
