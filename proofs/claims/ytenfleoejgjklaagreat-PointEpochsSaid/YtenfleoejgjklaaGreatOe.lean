import Derived.Test.YtenfleoejgjklaaGreatOa
import Derived.Test.YtenfleoejgjklaaGreatOb
import Derived.Test.YtenfleoejgjklaaGreatOc
import Derived.Test.YtenfleoejgjklaaGreatOd
import Derived.Test.YtenfleoejgjklaaGreatRows
import Derived.KernelRfl
set_option linter.unusedVariables false
set_option linter.unusedSimpArgs false
set_option linter.unnecessarySimpa false
section
namespace Go.Proofs.YtenfleoejgjklaaGreat
open Go SE
noncomputable def tt:TT:=atb Tryz.prog
theorem dD:tt.ok Tryz.prog:=λ_ _ h=>h
set_option maxRecDepth 20000
theorem mixed:Tryz.prog.follows .mixedOrders=true:=by kernel_rfl
def i64(n:Int):AV:= .lit (.int .i64 n)
end Go.Proofs.YtenfleoejgjklaaGreat
end
section
namespace Go.Proofs.YtenfleoejgjklaaGreat
open Go SE
def x32(a b:Int):Int:=IntKind.u32.wrap ((BitVec.ofInt 32 a^^^BitVec.ofInt 32 b).toNat:Nat)
def atM(c:Int):Int:=bif decide (c%2=0)then c/2 else x32 (c/2) 3988292384
def vV(c:Int):Nat->Int
 |0=>c
 |k+1=>atM (vV c k)
def stepM(c x:Int):Int:=vV (x32 c x) 8
def Et(s:ByteArray):Nat->Int
 |0=>4294967295
 |i+1=>stepM (Et s i) (dZ s i)
noncomputable def oN(s:ByteArray):Int:=hide (x32 (Et s s.size) 4294967295)
theorem Z4(s:ByteArray):oN s=x32 (Et s s.size) 4294967295:=iJ _
def U32(c:Int):Prop:=0<=c/\c<4294967296
theorem wrap_u32(z:Int):U32 (IntKind.u32.wrap z):=by
 unfold IntKind.wrap U32;simp[IntKind.bits,IntKind.signed];omega
theorem Eu{z:Int}(h:U32 z):IntKind.u32.wrap z=z:=by
 unfold IntKind.wrap U32 at*
 simp[IntKind.bits,IntKind.signed];omega
theorem U6(a b:Int):U32 (x32 a b):=wrap_u32 _
theorem atN{c:Int}(h:U32 c):U32 (atM c):=by
 unfold atM;cases decide (c%2=0)
 ·exact U6 _ _
 ·unfold U32 at*;simp only[aP];omega
theorem Kz{c:Int}(h:U32 c): ∀k,U32 (vV c k)
 |0=>h
 |k+1=>atN (Kz h k)
theorem aqJ(s:ByteArray): ∀i,U32 (Et s i)
 |0=>by unfold Et U32;omega
 |i+1=>Kz (U6 _ _) 8
theorem aqK(s:ByteArray):U32 (oN s):=by rw[Z4];exact U6 _ _
theorem al7(s:ByteArray)(k:Nat):0<=dZ s k/\dZ s k<256:=by
 unfold dZ;have:=(s.data.toList.getD k 0).toNat_lt;omega
def u32(c:Int):AV:= .lit (.int .u32 c)
def Qi:Ctr:=det (Int×Int) (λp=>[u32 p.1,.lit (.int .u8 p.2)]) 0 (λ_=>[]) (λp=>U32 p.1/\0<=p.2/\p.2<256) (λp=>u32 (stepM p.1 p.2)) 0 (λ_=>[])
def aoZ(p:Int×Int):FuncId->qR:=λf=>
 bif Nat.beq f 216 then(λb fr h=>bif Nat.beq b 0 then [{σ:=Nat,fr:=λk=>[(5,i64 k),(0,u32 (vV (x32 p.1 p.2) k))],ob:=λ_=>[],inv:=λk=>k<=8,meas:=λk=>8-k}]else [])else
 λ_ _ _=>[]
def strV(s:ByteArray):AV:= .lit (.string s)
noncomputable def U7:Ctr:=det ByteArray (λs=>[strV s]) 0 (λ_=>[]) (λs=>s.size<1099511627776) (λs=>u32 (oN s)) 0 (λ_=>[])
def ao0(s:ByteArray):FuncId->qR:=λf=>
 bif Nat.beq f 232 then(λb fr h=>bif Nat.beq b 0 then [{σ:=Nat,fr:=λi=>[(7,i64 i),(3,u32 (Et s i))],ob:=λ_=>[],inv:=λi=>i<=s.size,meas:=λi=>s.size-i}]else [])else
 λ_ _ _=>[]
def agx(p:Int×Int):Prop:=
 (∃s:Nat,s<=8/\True/\((s:Int)=0/\vV (x32 p.1 p.2) s=IntKind.wrap .u32 ((@BitVec.toNat 32 (@HXor.hXor (@BitVec 32) (@BitVec 32) (@BitVec 32) (@instHXorOfXorOp (@BitVec 32) (@BitVec.instXorOp 32)) (@BitVec.ofInt 32 p.1) (@BitVec.ofInt 32 (IntKind.wrap .u32 p.2))):Nat):Int)/\True)/\True)/\(∀s:Nat,s<=8->cP (decide ((s:Int)<8)) (I64 ((s:Int)+1)/\((2:Int)=0->False)/\cP (BEq.beq (Int.tmod (vV (x32 p.1 p.2) s) (2:Int)) (0:Int)) (((2:Int)=0->False)/\ ∃s_1:Nat,s_1<=8/\8-s_1<8-s/\((s_1:Int)=(s:Int)+1/\vV (x32 p.1 p.2) s_1=IntKind.wrap .u32 (Int.tdiv (vV (x32 p.1 p.2) s) (2:Int))/\True)/\True) (((2:Int)=0->False)/\ ∃s_1:Nat,s_1<=8/\8-s_1<8-s/\((s_1:Int)=(s:Int)+1/\vV (x32 p.1 p.2) s_1=IntKind.wrap .u32 ((@BitVec.toNat 32 (@HXor.hXor (@BitVec 32) (@BitVec 32) (@BitVec 32) (@instHXorOfXorOp (@BitVec 32) (@BitVec.instXorOp 32)) (@BitVec.ofInt 32 (IntKind.wrap .u32 (Int.tdiv (vV (x32 p.1 p.2) s) (2:Int)))) (@BitVec.ofInt 32 (3988292384:Int))):Nat):Int)/\True)/\True)) (∃y:Unit,True/\stepM p.1 p.2=vV (x32 p.1 p.2) s/\True))/\True
theorem agy(p:Int×Int):agx p=wpF Tryz.prog [] tt (aoZ p) 200 5 216 (Qi.args p) (hO Qi.k (Qi.os p)) (λv h'=>eG Qi.k p v h' Qi.outs):=by kernel_rfl
def agz(s:ByteArray):Prop:=
 (∃s_1:Nat,s_1<=s.size/\True/\((s_1:Int)=0/\Et s s_1=4294967295/\True)/\True)/\(∀s_1:Nat,s_1<=s.size->cP (decide ((s_1:Int)<(s.size:Int))) ((0<=(s_1:Int)/\(s_1:Int)<(s.size:Int))/\ ∃x:Prod Int Int,((0<=x.1/\x.1<4294967296)/\0<=x.2/\x.2<256)/\(x.1=Et s s_1/\x.2=dZ s s_1/\True)/\True/\ ∀y:Unit,True->I64 ((s_1:Int)+1)/\ ∃s_2:Nat,s_2<=s.size/\s.size-s_2<s.size-s_1/\((s_2:Int)=(s_1:Int)+1/\Et s s_2=stepM x.1 x.2/\True)/\True) (∃y:Unit,True/\oN s=IntKind.wrap .u32 ((@BitVec.toNat 32 (@HXor.hXor (@BitVec 32) (@BitVec 32) (@BitVec 32) (@instHXorOfXorOp (@BitVec 32) (@BitVec.instXorOp 32)) (@BitVec.ofInt 32 (Et s s_1)) (@BitVec.ofInt 32 (4294967295:Int))):Nat):Int)/\True))/\True
theorem agA(s:ByteArray):agz s=wpF Tryz.prog [(216,ctrT Qi)] tt (ao0 s) 200 5 232 (U7.args s) (hO U7.k (U7.os s)) (λv h'=>eG U7.k s v h' U7.outs):=by kernel_rfl
theorem half{c:Int}(h:U32 c):Int.tmod c 2=c%2/\IntKind.u32.wrap (Int.tdiv c 2)=c/2:=by
 have e:Int.tdiv c 2=c/2:=Int.tdiv_eq_ediv_of_nonneg h.1;refine⟨Int.tmod_eq_emod_of_nonneg h.1,?_⟩;rw[e];exact Eu (by unfold U32 at*;omega)
theorem U8(p:Int×Int)(hp:U32 p.1/\0<=p.2/\p.2<256):agx p:=by
 unfold agx;have hw:IntKind.u32.wrap p.2=p.2:=Eu (by unfold U32;omega);have hx: ∀a b,IntKind.u32.wrap ((BitVec.ofInt 32 a^^^BitVec.ofInt 32 b).toNat:Nat)=x32 a b:=λ_ _=>rfl
 simp only[aV,aU,hw,hx];refine⟨⟨0,by omega,rfl,rfl⟩,λs hs=>bf (λhb=> ?_) (λhb=> ?_)⟩
 ·have hb:=aS hb
  obtain⟨h1,h2⟩:=half (Kz (U6 p.1 p.2) s);rw[h1,h2];refine⟨by unfold I64;omega,by omega,bf (λhc=> ?_) (λhc=> ?_)⟩
  ·have hc:vV (x32 p.1 p.2) s%2=0:=by simpa using hc
   exact⟨by omega,s+1,by omega,by omega,rfl,by simp[vV,atM,hc]⟩
  ·have hc:vV (x32 p.1 p.2) s%2≠0:=by simpa using hc
   exact⟨by omega,s+1,by omega,by omega,rfl,by simp only[vV,atM,hc,decide_false,aQ]⟩
 ·have:s=8:=by have:=aT hb;omega
  subst this;exact⟨(),rfl⟩
theorem step_ok:bY Tryz.prog 216 Qi:=dL dD mixed dY.nil aoZ 200 5 (λ_=>rfl) (λ_=>rfl) λx hx=>Eq.mp (agy x) (U8 x hx)
theorem U9(s:ByteArray)(hs:s.size<1099511627776):agz s:=by
 unfold agz;simp only[aV,aU];refine⟨⟨0,by omega,rfl,rfl⟩,λi hi=>bf (λhb=> ?_) (λhb=> ?_)⟩
 ·have hb:=aS hb
  refine⟨⟨by omega,by omega⟩,(Et s i,dZ s i),⟨aqJ s i,al7 s i⟩,⟨rfl,rfl⟩,λ_ _=>⟨by unfold I64;omega,i+1,by omega,by omega,rfl,rfl⟩⟩
 ·have:i=s.size:=by have:=aT hb;omega
  subst this;exact⟨(),Z4 s⟩
theorem aqL:bY Tryz.prog 232 U7:=dL dD mixed (.cons (bM step_ok) .nil) ao0 200 5 (λ_=>rfl) (λ_=>rfl) λx hx=>Eq.mp (agA x) (U9 x hx)
theorem bT(g:Nat->List Value)(q:Nat):Cs.eff g [] q=g q:=rfl
theorem eH(q:Nat):Nat.ble 0 q=true:=by simp
theorem bV(a b:Nat):Nat.blt a b=decide (a<b):=by
 by_cases h:a<b
 ·rw[bg.2 h];simp[h]
 ·have:Nat.blt a b=false:=by
   cases hb:Nat.blt a b with
   |false=>rfl
   |true=>exact absurd (bg.1 hb) h
  rw[this];simp[h]
theorem dh(a b:Nat):Nat.ble a b=decide (a<=b):=by
 by_cases h:a<=b
 ·rw[show Nat.ble a b=true by simpa using h];simp[h]
 ·have:Nat.ble a b=false:=by
   cases hb:Nat.ble a b with
   |false=>rfl
   |true=>exact absurd (by simpa using hb) h
  rw[this];simp[h]
theorem dI{α:Type}{p:Prop} [Decidable p]{x y:α}:(bif decide p then x else y)=if p then x else y:=by by_cases h:p<;>simp[h]
theorem dB(a b:Nat):Nat.beq a b=decide (a=b):=by
 by_cases h:a=b
 ·subst h;simp
 ·rw[fA h];simp[h]
theorem bG{b:Bool}{x y:Value}:(bif b then [x]else [y])=[bif b then x else y]:=by cases b<;>rfl
theorem bH{b:Bool}{k:IntKind}{x y:Int}:(bif b then Value.int k x else Value.int k y)= .int k (bif b then x else y):=by cases b<;>rfl
theorem bn{b:Bool}{x y:Bool}:(bif b then Value.bool x else Value.bool y)= .bool (bif b then x else y):=by cases b<;>rfl
theorem bI{k:IntKind}{x:Int}:([Value.int k x].length.beq 1&&[Value.int k x].all Value.oneCell')=true:=rfl
theorem bC{x:Bool}:([Value.bool x].length.beq 1&&[Value.bool x].all Value.oneCell')=true:=rfl
theorem bU{k:IntKind}{x y:Int}:([Value.int k x]=[Value.int k y])=(x=y):=by simp
theorem bJ{x y:Bool}:([Value.bool x]=[Value.bool y])=(x=y):=by simp
def u64(n:Int):AV:= .lit (.int .u64 n)
def rowB(g:Nat->Int)(n:Nat):Cs:= .row 1 n (λk=>[.int .u8 (g k)]) []
structure Bys where
 g:Nat->Int
 q:Nat
 n:Nat
 N:Nat
namespace Bys
def ok(b:Bys):Prop:=b.q+b.n<=b.N/\b.n<1099511627776/\ ∀k,0<=b.g k/\b.g k<256
def ro(b:Bys):dA:= .ro (rowB b.g b.N)
def av(b:Bys)(i:Nat):AV:= .slR i b.q 1 b.n
end Bys
def CG(c:Int)(g:Nat->Int):Nat->Int
 |0=>c
 |i+1=>stepM (CG c g i) (g i)
noncomputable def nR(c:Int)(g:Nat->Int)(n:Nat):Int:=hide (x32 (CG (x32 c 4294967295) g n) 4294967295)
theorem aqM{c:Int}(h:U32 c)(g:Nat->Int): ∀n,U32 (CG c g n)
 |0=>h
 |n+1=>Kz (U6 _ _) 8
theorem Z5(c:Int)(g:Nat->Int)(n:Nat):U32 (nR c g n):=by unfold nR;rw[iJ];exact U6 _ _
structure aqN where
 c:Int
 b:Bys
noncomputable def ao1:Ctr:=det aqN (λx=>[u32 x.c,x.b.av 0]) 1 (λx=>[x.b.ro]) (λx=>Hd (U32 x.c/\x.b.ok)) (λx=>u32 (nR x.c (λk=>x.b.g (x.b.q+k)) x.b.n)) 1 (λx=>[x.b.ro])
def atO(x:aqN):FuncId->qR:=λf=>
 bif Nat.beq f 170 then(λb fr h=>bif Nat.beq b 0 then [{σ:=Nat,fr:=λk=>[(11,i64 k),(0,u32 (CG (x32 x.c 4294967295) (λk=>x.b.g (x.b.q+k)) k))],ob:=λ_=>[],inv:=λk=>k<=x.b.n,meas:=λk=>x.b.n-k}]else [])else
 λ_ _ _=>[]
def pO(g:Nat->Int)(at_ w:Nat)(v:Int)(k:Nat):Int:=if at_<=k/\k<at_+w then v/256^(k-at_)%256 else g k
structure uT where
 b:Bys
 at_:Nat
 w:Nat
 v:Int
 c:Nat
def uT.ok(x:uT):Prop:=x.b.ok/\x.at_+x.w<=x.b.n/\1<=x.w/\x.w<=8/\0<=x.v/\x.v<256^x.w
def uT.res(x:uT):Nat->Int:=pO (λk=>x.b.g (x.b.q+k)) x.at_ x.w x.v
noncomputable def ao2:Ctr:=det uT (λx=>[.slE 0 x.b.q 1 x.b.n x.c,i64 x.at_,i64 x.w,u64 x.v]) 1 (λx=>[x.b.ro]) (λx=>Hd x.ok) (λx=> .tup [.slW 1 0 1 x.b.n,i64 0]) 2 (λx=>[x.b.ro,.room 5 (rowB x.res x.b.n)])
def atP(x:uT):FuncId->qR:=λf=>
 bif Nat.beq f 215 then(λb fr h=>bif Nat.beq b 0 then [{σ:=Nat,fr:=λk=>[(32,i64 k)],ob:=λk=>[(1,none),(2,some (.room 5 (rowB (pO (λk=>x.b.g (x.b.q+k)) x.at_ k x.v) x.b.n)))],inv:=λk=>k<=x.w,meas:=λk=>x.w-k,nx:=0}]else [])else
 λ_ _ _=>[]
def yu(a:Bys):Prop:=rowB a.g a.N=rowB a.g a.N/\true=true
def aqO(a:uT):Prop:=a.b.q+a.b.n<=a.b.N/\cP (Nat.beq a.b.n 0) ((∃s:Nat,s<=a.w/\True/\((s:Int)=0/\True)/\yu a.b/\True)/\(∀s:Nat,s<=a.w->cP (decide ((s:Int)<(a.w:Int))) (I64 ((a.at_:Int)+(s:Int))/\I64 (8*(s:Int))/\0<=8*(s:Int)/\(0<=(a.at_:Int)+(s:Int)/\(a.at_:Int)+(s:Int)<0)/\False) (∃y:Unit,True/\((a.b.n=0/\0=0/\0=0)/\(0:Int)=0/\True)/\yu a.b/\False/\True))/\True) ((2*(0+a.b.n)+1000)*1<=281474976710656/\(∃s:Nat,s<=a.w/\True/\((s:Int)=0/\True)/\(a.b.n=0+a.b.n/\ ∀q:Nat,q<a.b.n->[Value.int .u8 (pO (λ(k:Nat)=>a.b.g (a.b.q+k)) a.at_ s a.v q)]=[Value.int .u8 (a.b.g (a.b.q+(q-0)))])/\yu a.b/\True)/\(∀s:Nat,s<=a.w->cP (decide ((s:Int)<(a.w:Int))) (I64 ((a.at_:Int)+(s:Int))/\I64 (8*(s:Int))/\0<=8*(s:Int)/\(0<=(a.at_:Int)+(s:Int)/\(a.at_:Int)+(s:Int)<((0+a.b.n:Nat):Int))/\0+Int.toNat ((a.at_:Int)+(s:Int))<a.b.n/\I64 ((s:Int)+1)/\ ∃s_1:Nat,s_1<=a.w/\a.w-s_1<a.w-s/\((s_1:Int)=(s:Int)+1/\True)/\(a.b.n=a.b.n/\ ∀q:Nat,q<a.b.n->[Value.int .u8 (pO (λ(k:Nat)=>a.b.g (a.b.q+k)) a.at_ s_1 a.v q)]=Cs.eff (λ(k:Nat)=>[Value.int .u8 (pO (λ(k_1:Nat)=>a.b.g (a.b.q+k_1)) a.at_ s a.v k)]) [(0+Int.toNat ((a.at_:Int)+(s:Int)),[Value.int .u8 (IntKind.wrap .u8 (Int.fdiv a.v (@HPow.hPow Int Nat Int (@instHPow Int Nat (@instPowNat Int @Int.instNatPow)) (2:Int) (@Min.min Nat @instMinNat (Int.toNat (8*(s:Int))) 64))))])] q)/\yu a.b/\True) (∃y:Unit,True/\((0=0/\a.b.n=0+a.b.n)/\(0:Int)=0/\True)/\yu a.b/\(a.b.n=a.b.n/\
 ∀q:Nat,q<a.b.n->[Value.int .u8 (a.res q)]=[Value.int .u8 (pO (λ(k:Nat)=>a.b.g (a.b.q+k)) a.at_ s a.v q)])/\True))/\True)
def aqP(x:aqN):Prop:=
 (∃s:Nat,s<=x.b.n/\True/\((s:Int)=0/\CG (x32 x.c (4294967295:Int)) (λ(k:Nat)=>x.b.g (x.b.q+k)) s=IntKind.wrap .u32 ((@BitVec.toNat 32 (@HXor.hXor (@BitVec 32) (@BitVec 32) (@BitVec 32) (@instHXorOfXorOp (@BitVec 32) (@BitVec.instXorOp 32)) (@BitVec.ofInt 32 x.c) (@BitVec.ofInt 32 (4294967295:Int))):Nat):Int)/\True)/\yu x.b/\True)/\(∀s:Nat,s<=x.b.n->cP (decide ((s:Int)<(x.b.n:Int))) ((0<=(s:Int)/\(s:Int)<(x.b.n:Int))/\x.b.q+s<x.b.N/\ ∃x_1:Prod Int Int,((0<=x_1.1/\x_1.1<4294967296)/\0<=x_1.2/\x_1.2<256)/\(x_1.1=CG (x32 x.c (4294967295:Int)) (λ(k:Nat)=>x.b.g (x.b.q+k)) s/\x_1.2=x.b.g (x.b.q+s)/\True)/\True/\ ∀y:Unit,True->I64 ((s:Int)+1)/\ ∃s_1:Nat,s_1<=x.b.n/\x.b.n-s_1<x.b.n-s/\((s_1:Int)=(s:Int)+1/\CG (x32 x.c (4294967295:Int)) (λ(k:Nat)=>x.b.g (x.b.q+k)) s_1=stepM x_1.1 x_1.2/\True)/\yu x.b/\True) (∃y:Unit,True/\nR x.c (λ(k:Nat)=>x.b.g (x.b.q+k)) x.b.n=IntKind.wrap .u32 ((@BitVec.toNat 32 (@HXor.hXor (@BitVec 32) (@BitVec 32) (@BitVec 32) (@instHXorOfXorOp (@BitVec 32) (@BitVec.instXorOp 32)) (@BitVec.ofInt 32 (CG (x32 x.c (4294967295:Int)) (λ(k:Nat)=>x.b.g (x.b.q+k)) s)) (@BitVec.ofInt 32 (4294967295:Int))):Nat):Int)/\yu x.b/\True))/\True
theorem al8(x:aqN):aqP x=wpF Tryz.prog [(216,ctrT Qi)] tt (atO x) 200 5 170 (ao1.args x) (hO ao1.k (ao1.os x)) (λv h'=>eG ao1.k x v h' ao1.outs):=by kernel_rfl
def aqQ(x:uT):Prop:=
 cP (decide ((x.w:Int)<1)) (∃y:Unit,True/\(False/\(0:Int)=1/\True)/\yu x.b/\False/\True) (cP (decide ((x.w:Int)>(8:Int))) (∃y:Unit,True/\(False/\(0:Int)=1/\True)/\yu x.b/\False/\True) (I64 ((x.b.n:Int)-(x.w:Int))/\cP (decide ((x.at_:Int)>(x.b.n:Int)-(x.w:Int))) (∃y:Unit,True/\(False/\(0:Int)=2/\True)/\yu x.b/\False/\True) (cP (decide ((x.w:Int)<8)) (I64 (8*(x.w:Int))/\0<=8*(x.w:Int)/\cP (bne (Int.fdiv x.v (@HPow.hPow Int Nat Int (@instHPow Int Nat (@instPowNat Int @Int.instNatPow)) (2:Int) (@Min.min Nat @instMinNat (Int.toNat (8*(x.w:Int))) 64))) (0:Int)) (∃y:Unit,True/\(False/\(0:Int)=11/\True)/\yu x.b/\False/\True) (aqO x)) (aqO x))))
theorem al9(x:uT):aqQ x=wpF Tryz.prog [] tt (atP x) 200 5 215 (ao2.args x) (hO ao2.k (ao2.os x)) (λv h'=>eG ao2.k x v h' ao2.outs):=by kernel_rfl
theorem acy(x:aqN)(hx:U32 x.c/\x.b.ok):aqP x:=by
 obtain⟨hc,h1,h2,h3⟩:=hx;unfold aqP;simp only[yu];have hw: ∀a b,IntKind.u32.wrap ((BitVec.ofInt 32 a^^^BitVec.ofInt 32 b).toNat:Nat)=x32 a b:=λ_ _=>rfl
 simp only[aZ,aV,aU,aA,aI,bQ,bF,aO,aK,ay,aX,aW,hw];refine⟨⟨0,by omega,rfl,rfl⟩,λs hs=>bf (λhb=> ?_) (λhb=> ?_)⟩
 ·have hb:=aS hb
  refine⟨⟨by omega,by omega⟩,by omega,(CG (x32 x.c 4294967295) (λk=>x.b.g (x.b.q+k)) s,x.b.g (x.b.q+s)),⟨aqM (U6 _ _) _ s,h3 _⟩,⟨rfl,rfl⟩,by unfold I64;omega,s+1,by omega,by omega,by omega,rfl⟩
 ·have:s=x.b.n:=by have:=aT hb;omega
  subst this;unfold nR;rw[iJ]
theorem Ew{c:Int}{g g':Nat->Int}: ∀{n:Nat},(∀k,k<n->g k=g' k)->CG c g n=CG c g' n
 |0,_=>rfl
 |n+1,h=>by simp only[CG];rw[Ew (n:=n) λk hk=>h k (by omega),h n (by omega)]
theorem zD{c:Int}{g g':Nat->Int}{n:Nat}(h: ∀k,k<n->g k=g' k):nR c g n=nR c g' n:=by unfold nR;rw[iJ,iJ,Ew h]
theorem ao3:bY Tryz.prog 170 ao1:=dL dD mixed (.cons (bM step_ok) .nil) atO 200 5 (λ_=>rfl) (λ_=>rfl) λx hx=>Eq.mp (al8 x) (acy x (aZ.1 hx))
theorem Va{s:Nat}(h:s<=8):(2:Int)^(min (((8:Int)*(s:Nat)).toNat) 64)=256^s:=by
 have e:((8:Int)*(s:Nat)).toNat=8*s:=by omega
 rw[e,Nat.min_eq_left (by omega)];rw[show(256:Int)=2^8 by rfl,<-Int.pow_mul]
theorem ao4(z:Int):IntKind.u8.wrap z=z%256:=by
 unfold IntKind.wrap;simp[IntKind.bits,IntKind.signed]
theorem agB(g:Nat->Int)(a s:Nat)(v:Int)(q:Nat):pO g a (s+1) v q=if q=a+s then v/256^s%256 else pO g a s v q:=by
 unfold pO;by_cases h:q=a+s
 ·subst h;simp
 ·rw[if_neg h]
  by_cases h2:a<=q/\q<a+s
  ·rw[if_pos h2,if_pos (by omega)]
  ·rw[if_neg h2,if_neg (by omega)]
theorem acz(x:uT)(hx:x.ok):aqQ x:=by
 obtain⟨⟨h1,h2,h3⟩,h4,h5,h6,h7,h8⟩:=hx;have z0: ∀(g:Nat->Int) a v q,pO g a 0 v q=g q:=λg a v q=>by unfold pO;rw[if_neg (by omega)]
 have key: ∀s:Nat,s<x.w-> ∀q,[Value.int .u8 (pO (λk=>x.b.g (x.b.q+k)) x.at_ (s+1) x.v q)]=Cs.eff (λk=>[Value.int .u8 (pO (λk=>x.b.g (x.b.q+k)) x.at_ s x.v k)]) [((((x.at_:Int)+(s:Int)).toNat),[Value.int .u8 (IntKind.u8.wrap (Int.fdiv x.v (2^(min ((8*(s:Int)).toNat) 64))))])] q:=λs hs q=>by
  rw[Va (by omega),ao4,show((x.at_:Int)+(s:Int)).toNat=x.at_+s by omega,agB];simp only[Cs.eff];by_cases h:q=x.at_+s
  ·subst h
   have:Int.fdiv x.v (256^s)=x.v/256^s:=Int.fdiv_eq_ediv_of_nonneg _ (Int.le_of_lt (Int.pow_pos (by omega)));simp[this]
  ·simp[h,fA h]
 unfold aqQ;simp only[yu,aqO];have hn:x.b.n≠0:=by omega
 simp only[aZ,aV,aU,aA,aI,bQ,bF,aO,aK,ay,aX,aW,z0];have i64: ∀z:Int,-9223372036854775808<=z->z<=9223372036854775807->I64 z:=λz a b=>⟨a,b⟩
 refine bf (λh=>absurd (aS h) (by omega)) λ_=>bf (λh=>absurd (aS h) (by omega)) λ_=>⟨i64 _ (by omega) (by omega),bf (λh=>absurd (aS h) (by omega)) λ_=>
  bf (λhb=>⟨i64 _ (by omega) (by omega),by omega,bf (λh=> ?_) (λ_=> ?_)⟩) (λ_=> ?_)⟩
 ·rw[Va h6,show Int.fdiv x.v (256^x.w)=0 by rw[Int.fdiv_eq_ediv_of_nonneg _ (Int.le_of_lt (Int.pow_pos (by omega)))];exact Int.ediv_eq_zero_of_lt h7 h8]at h
  cases h
 all_goals
  refine⟨h1,bf (λh=>absurd (au h) hn) λ_=>⟨by omega,⟨0,by omega,rfl,λq _=>by rw[z0];rfl⟩,λs hs=>bf (λh=> ?_) (λh=> ?_)⟩⟩
  ·have h:=aS h
   exact⟨i64 _ (by omega) (by omega),i64 _ (by omega) (by omega),by omega,⟨by omega,by omega⟩,by omega,i64 _ (by omega) (by omega),s+1,by omega,by omega,by omega,λq _=>key s (by omega) q⟩
  ·have:s=x.w:=by have:=aT h;omega
   subst this;exactλq _=>rfl
theorem ao5:bY Tryz.prog 215 ao2:=dL dD mixed dY.nil atP 200 5 (λ_=>rfl) (λ_=>rfl) λx hx=>Eq.mp (al9 x) (acz x (aZ.1 hx))
noncomputable def acA:Ctr:=det Bys (λb=>[b.av 0]) 1 (λb=>[b.ro]) (λb=>Hd b.ok) (λb=>u32 (nR 0 (λk=>b.g (b.q+k)) b.n)) 1 (λb=>[b.ro])
noncomputable def ama:WTr:=λargs h K=>match args with
 |[x]=>acs h x 1 λe=> ∃(n:Nat) (g:Nat->Int),e.len=n/\n<1099511627776/\(∀k,k<n->e.el k=[.int .u8 (g k)])/\(∀k,0<=g k/\g k<256)/\K (u32 (nR 0 g n)) h
 |_=>False
def isE:List AV->Bool
 | .slE .. ::_=>true
 |_=>false
def acB(v:Int)(k:Nat):Int:=if k=0 then 3 else v/256^(k-1)%256
noncomputable def iE(v:Int)(k:Nat):Int:=if k<9 then acB v k else if k<13 then nR 0 (acB v) 9/256^(k-9)%256 else 0
noncomputable def Bz:Ctr:=det Int (λv=>[u64 v]) 0 (λ_=>[]) (λv=>Hd (0<=v/\v<18446744073709551616)) (λ_=> .slE 0 0 1 64 64) 1 (λv=>[.cells 312 (rowB (iE v) 64)])
noncomputable def tblK:jv:=[(171,ama),(215,orT isE (ctrT ao2) (λargs h K=>wpF Tryz.prog [] tt (λ_ _ _ _=>[]) 200 5 215 args h K))]
def aqR(a:uT)(b:Nat):Prop:=(Nat.beq (List.length [Value.int .u8 (a.res (0+b))]) 1&&List.all [Value.int .u8 (a.res (0+b))] Value.oneCell')=true
def amb(a:uT):Prop:= ∀k:Nat,k<a.b.n->aqR a k
def amc(a:uT):Prop:= ∀k:Nat,k<64->aqR a k
def Hg:Prop:=0<=64/\64<=64/\64<=64
def aqS(a:uT)(b: ∀a:Nat,Int)(c:Nat):Prop:=(a.b.q=0/\a.b.n=64/\a.c=64)/\(a.at_:Int)=9/\(a.w:Int)=4/\a.v=IntKind.wrap .u64 (nR (0:Int) b c)/\True
def agC:Prop:=0=0/\64=64/\64=64
def agD(b:Bys):Prop:=
 ∃x:aqN,Hd (U32 x.c/\x.b.ok)/\(x.c=0/\(x.b.q=b.q/\x.b.n=b.n)/\True)/\((x.b.N=b.N/\ ∀q:Nat,q<x.b.N->[Value.int .u8 (x.b.g q)]=[Value.int .u8 (b.g q)])/\True)/\ ∀y:Unit,True-> ∃y_1:Unit,True/\nR (0:Int) (λ(k:Nat)=>b.g (b.q+k)) b.n=nR x.c (λ(k:Nat)=>x.b.g (x.b.q+k)) x.b.n/\(rowB b.g b.N=rowB b.g b.N/\true=true)/\True
theorem agE(b:Bys):agD b=wpF Tryz.prog [(170,ctrT ao1)] tt (λ_ _ _ _=>[]) 200 5 171 (acA.args b) (hO acA.k (acA.os b)) (λv h'=>eG acA.k b v h' acA.outs):=by kernel_rfl
def Vb(x:Int):Prop:=
 ∃x_1:uT,Hd x_1.ok/\((x_1.b.q=0/\x_1.b.n=9/\x_1.c=9)/\(x_1.at_:Int)=1/\(x_1.w:Int)=8/\x_1.v=x/\True)/\((x_1.b.N=9/\ ∀q:Nat,q<x_1.b.N->[Value.int .u8 (x_1.b.g q)]=[List.getD [Value.int .u8 3,Value.int .u8 0,Value.int .u8 0,Value.int .u8 0,Value.int .u8 0,Value.int .u8 0,Value.int .u8 0,Value.int .u8 0,Value.int .u8 0] q (@Inhabited.default Value @instInhabitedValue)])/\True)/\ ∀y:Unit,True->Hg/\64<=64/\cP (Nat.ble x_1.b.n 64) (0+x_1.b.n<=x_1.b.n/\amb x_1/\Hg/\0+x_1.b.n<=x_1.b.n/\ ∃n:Nat,∃g: ∀a:Nat,Int,x_1.b.n=n/\n<1099511627776/\(∀k:Nat,k<n->[Value.int .u8 (x_1.res (0+k))]=[Value.int .u8 (g k)])/\(∀k:Nat,0<=g k/\g k<256)/\True/\ ∃x_2:uT,Hd x_2.ok/\aqS x_2 g n/\((x_2.b.N=64/\ ∀q:Nat,q<x_2.b.N->[Value.int .u8 (x_2.b.g q)]=Cs.eff (λ(p:Nat)=>cond (Nat.ble 0 p&&Nat.blt p (0+x_1.b.n)) [Value.int .u8 (x_1.res (0+(p-0)))] [Value.int .u8 0]) [] q)/\True)/\ ∀y_1:Unit,True->True/\Hg/\64<=64/\cP (Nat.ble x_2.b.n 64) (0+x_2.b.n<=x_2.b.n/\amb x_2/\(∀k:Nat,k<64->(Nat.beq (List.length (Cs.eff (λ(p:Nat)=>cond (Nat.ble 0 p&&Nat.blt p (0+x_2.b.n)) [Value.int .u8 (x_2.res (0+(p-0)))] (Cs.eff (λ(p_1:Nat)=>cond (Nat.ble 0 p_1&&Nat.blt p_1 (0+x_1.b.n)) [Value.int .u8 (x_1.res (0+(p_1-0)))] [Value.int .u8 0]) [] p)) [] k)) 1&&List.all (Cs.eff (λ(p:Nat)=>cond (Nat.ble 0 p&&Nat.blt p (0+x_2.b.n)) [Value.int .u8 (x_2.res (0+(p-0)))] (Cs.eff (λ(p_1:Nat)=>cond (Nat.ble 0 p_1&&Nat.blt p_1 (0+x_1.b.n)) [Value.int .u8 (x_1.res (0+(p_1-0)))] [Value.int .u8 0]) [] p)) [] k) Value.oneCell')=true)/\
 (∀k:Nat,k<64->(Nat.beq (List.length (Cs.eff (Cs.eff (λ(p:Nat)=>cond (Nat.ble 0 p&&Nat.blt p (0+x_2.b.n)) [Value.int .u8 (x_2.res (0+(p-0)))] (Cs.eff (λ(p_1:Nat)=>cond (Nat.ble 0 p_1&&Nat.blt p_1 (0+x_1.b.n)) [Value.int .u8 (x_1.res (0+(p_1-0)))] [Value.int .u8 0]) [] p)) []) [] k)) 1&&List.all (Cs.eff (Cs.eff (λ(p:Nat)=>cond (Nat.ble 0 p&&Nat.blt p (0+x_2.b.n)) [Value.int .u8 (x_2.res (0+(p-0)))] (Cs.eff (λ(p_1:Nat)=>cond (Nat.ble 0 p_1&&Nat.blt p_1 (0+x_1.b.n)) [Value.int .u8 (x_1.res (0+(p_1-0)))] [Value.int .u8 0]) [] p)) []) [] k) Value.oneCell')=true)/\(∀k:Nat,k<64->(Nat.beq (List.length (Cs.eff (Cs.eff (Cs.eff (λ(p:Nat)=>cond (Nat.ble 0 p&&Nat.blt p (0+x_2.b.n)) [Value.int .u8 (x_2.res (0+(p-0)))] (Cs.eff (λ(p_1:Nat)=>cond (Nat.ble 0 p_1&&Nat.blt p_1 (0+x_1.b.n)) [Value.int .u8 (x_1.res (0+(p_1-0)))] [Value.int .u8 0]) [] p)) []) []) [] k)) 1&&List.all (Cs.eff (Cs.eff (Cs.eff (λ(p:Nat)=>cond (Nat.ble 0 p&&Nat.blt p (0+x_2.b.n)) [Value.int .u8 (x_2.res (0+(p-0)))] (Cs.eff (λ(p_1:Nat)=>cond (Nat.ble 0 p_1&&Nat.blt p_1 (0+x_1.b.n)) [Value.int .u8 (x_1.res (0+(p_1-0)))] [Value.int .u8 0]) [] p)) []) []) [] k) Value.oneCell')=true)/\Hg/\ ∃y_2:Unit,True/\agC/\(64=64/\ ∀q:Nat,q<64->[Value.int .u8 (iE x q)]=Cs.eff (Cs.eff (Cs.eff (Cs.eff (λ(p:Nat)=>cond (Nat.ble 0 p&&Nat.blt p (0+x_2.b.n)) [Value.int .u8 (x_2.res (0+(p-0)))] (Cs.eff (λ(p_1:Nat)=>cond (Nat.ble 0 p_1&&Nat.blt p_1 (0+x_1.b.n)) [Value.int .u8 (x_1.res (0+(p_1-0)))] [Value.int .u8 0]) [] p)) []) []) []) [] q)/\True) (64<=x_2.b.n/\amc x_2/\
 (∀k:Nat,k<64->(Nat.beq (List.length (Cs.eff (λ(p:Nat)=>cond (Nat.ble 0 p&&Nat.blt p 64) [Value.int .u8 (x_2.res (0+(p-0)))] (Cs.eff (λ(p_1:Nat)=>cond (Nat.ble 0 p_1&&Nat.blt p_1 (0+x_1.b.n)) [Value.int .u8 (x_1.res (0+(p_1-0)))] [Value.int .u8 0]) [] p)) [] k)) 1&&List.all (Cs.eff (λ(p:Nat)=>cond (Nat.ble 0 p&&Nat.blt p 64) [Value.int .u8 (x_2.res (0+(p-0)))] (Cs.eff (λ(p_1:Nat)=>cond (Nat.ble 0 p_1&&Nat.blt p_1 (0+x_1.b.n)) [Value.int .u8 (x_1.res (0+(p_1-0)))] [Value.int .u8 0]) [] p)) [] k) Value.oneCell')=true)/\(∀k:Nat,k<64->(Nat.beq (List.length (Cs.eff (Cs.eff (λ(p:Nat)=>cond (Nat.ble 0 p&&Nat.blt p 64) [Value.int .u8 (x_2.res (0+(p-0)))] (Cs.eff (λ(p_1:Nat)=>cond (Nat.ble 0 p_1&&Nat.blt p_1 (0+x_1.b.n)) [Value.int .u8 (x_1.res (0+(p_1-0)))] [Value.int .u8 0]) [] p)) []) [] k)) 1&&List.all (Cs.eff (Cs.eff (λ(p:Nat)=>cond (Nat.ble 0 p&&Nat.blt p 64) [Value.int .u8 (x_2.res (0+(p-0)))] (Cs.eff (λ(p_1:Nat)=>cond (Nat.ble 0 p_1&&Nat.blt p_1 (0+x_1.b.n)) [Value.int .u8 (x_1.res (0+(p_1-0)))] [Value.int .u8 0]) [] p)) []) [] k) Value.oneCell')=true)/\
 (∀k:Nat,k<64->(Nat.beq (List.length (Cs.eff (Cs.eff (Cs.eff (λ(p:Nat)=>cond (Nat.ble 0 p&&Nat.blt p 64) [Value.int .u8 (x_2.res (0+(p-0)))] (Cs.eff (λ(p_1:Nat)=>cond (Nat.ble 0 p_1&&Nat.blt p_1 (0+x_1.b.n)) [Value.int .u8 (x_1.res (0+(p_1-0)))] [Value.int .u8 0]) [] p)) []) []) [] k)) 1&&List.all (Cs.eff (Cs.eff (Cs.eff (λ(p:Nat)=>cond (Nat.ble 0 p&&Nat.blt p 64) [Value.int .u8 (x_2.res (0+(p-0)))] (Cs.eff (λ(p_1:Nat)=>cond (Nat.ble 0 p_1&&Nat.blt p_1 (0+x_1.b.n)) [Value.int .u8 (x_1.res (0+(p_1-0)))] [Value.int .u8 0]) [] p)) []) []) [] k) Value.oneCell')=true)/\Hg/\ ∃y_2:Unit,True/\agC/\(64=64/\ ∀q:Nat,q<64->[Value.int .u8 (iE x q)]=Cs.eff (Cs.eff (Cs.eff (Cs.eff (λ(p:Nat)=>cond (Nat.ble 0 p&&Nat.blt p 64) [Value.int .u8 (x_2.res (0+(p-0)))] (Cs.eff (λ(p_1:Nat)=>cond (Nat.ble 0 p_1&&Nat.blt p_1 (0+x_1.b.n)) [Value.int .u8 (x_1.res (0+(p_1-0)))] [Value.int .u8 0]) [] p)) []) []) []) [] q)/\True)) (64<=x_1.b.n/\amc x_1/\Hg/\0+x_1.b.n<=x_1.b.n/\ ∃n:Nat,∃g: ∀a:Nat,Int,x_1.b.n=n/\n<1099511627776/\(∀k:Nat,k<n->[Value.int .u8 (x_1.res (0+k))]=[Value.int .u8 (g k)])/\(∀k:Nat,0<=g k/\g k<256)/\True/\ ∃x_2:uT,Hd x_2.ok/\aqS x_2 g n/\((x_2.b.N=64/\ ∀q:Nat,q<x_2.b.N->[Value.int .u8 (x_2.b.g q)]=Cs.eff (λ(p:Nat)=>cond (Nat.ble 0 p&&Nat.blt p 64) [Value.int .u8 (x_1.res (0+(p-0)))] [Value.int .u8 0]) [] q)/\True)/\ ∀y_1:Unit,True->True/\Hg/\64<=64/\cP (Nat.ble x_2.b.n 64) (0+x_2.b.n<=x_2.b.n/\amb x_2/\
 (∀k:Nat,k<64->(Nat.beq (List.length (Cs.eff (λ(p:Nat)=>cond (Nat.ble 0 p&&Nat.blt p (0+x_2.b.n)) [Value.int .u8 (x_2.res (0+(p-0)))] (Cs.eff (λ(p_1:Nat)=>cond (Nat.ble 0 p_1&&Nat.blt p_1 64) [Value.int .u8 (x_1.res (0+(p_1-0)))] [Value.int .u8 0]) [] p)) [] k)) 1&&List.all (Cs.eff (λ(p:Nat)=>cond (Nat.ble 0 p&&Nat.blt p (0+x_2.b.n)) [Value.int .u8 (x_2.res (0+(p-0)))] (Cs.eff (λ(p_1:Nat)=>cond (Nat.ble 0 p_1&&Nat.blt p_1 64) [Value.int .u8 (x_1.res (0+(p_1-0)))] [Value.int .u8 0]) [] p)) [] k) Value.oneCell')=true)/\(∀k:Nat,k<64->(Nat.beq (List.length (Cs.eff (Cs.eff (λ(p:Nat)=>cond (Nat.ble 0 p&&Nat.blt p (0+x_2.b.n)) [Value.int .u8 (x_2.res (0+(p-0)))] (Cs.eff (λ(p_1:Nat)=>cond (Nat.ble 0 p_1&&Nat.blt p_1 64) [Value.int .u8 (x_1.res (0+(p_1-0)))] [Value.int .u8 0]) [] p)) []) [] k)) 1&&List.all (Cs.eff (Cs.eff (λ(p:Nat)=>cond (Nat.ble 0 p&&Nat.blt p (0+x_2.b.n)) [Value.int .u8 (x_2.res (0+(p-0)))] (Cs.eff (λ(p_1:Nat)=>cond (Nat.ble 0 p_1&&Nat.blt p_1 64) [Value.int .u8 (x_1.res (0+(p_1-0)))] [Value.int .u8 0]) [] p)) []) [] k) Value.oneCell')=true)/\
 (∀k:Nat,k<64->(Nat.beq (List.length (Cs.eff (Cs.eff (Cs.eff (λ(p:Nat)=>cond (Nat.ble 0 p&&Nat.blt p (0+x_2.b.n)) [Value.int .u8 (x_2.res (0+(p-0)))] (Cs.eff (λ(p_1:Nat)=>cond (Nat.ble 0 p_1&&Nat.blt p_1 64) [Value.int .u8 (x_1.res (0+(p_1-0)))] [Value.int .u8 0]) [] p)) []) []) [] k)) 1&&List.all (Cs.eff (Cs.eff (Cs.eff (λ(p:Nat)=>cond (Nat.ble 0 p&&Nat.blt p (0+x_2.b.n)) [Value.int .u8 (x_2.res (0+(p-0)))] (Cs.eff (λ(p_1:Nat)=>cond (Nat.ble 0 p_1&&Nat.blt p_1 64) [Value.int .u8 (x_1.res (0+(p_1-0)))] [Value.int .u8 0]) [] p)) []) []) [] k) Value.oneCell')=true)/\Hg/\ ∃y_2:Unit,True/\agC/\(64=64/\ ∀q:Nat,q<64->[Value.int .u8 (iE x q)]=Cs.eff (Cs.eff (Cs.eff (Cs.eff (λ(p:Nat)=>cond (Nat.ble 0 p&&Nat.blt p (0+x_2.b.n)) [Value.int .u8 (x_2.res (0+(p-0)))] (Cs.eff (λ(p_1:Nat)=>cond (Nat.ble 0 p_1&&Nat.blt p_1 64) [Value.int .u8 (x_1.res (0+(p_1-0)))] [Value.int .u8 0]) [] p)) []) []) []) [] q)/\True) (64<=x_2.b.n/\amc x_2/\(∀k:Nat,k<64->(Nat.beq (List.length (Cs.eff (λ(p:Nat)=>cond (Nat.ble 0 p&&Nat.blt p 64) [Value.int .u8 (x_2.res (0+(p-0)))] (Cs.eff (λ(p_1:Nat)=>cond (Nat.ble 0 p_1&&Nat.blt p_1 64) [Value.int .u8 (x_1.res (0+(p_1-0)))] [Value.int .u8 0]) [] p)) [] k)) 1&&List.all (Cs.eff (λ(p:Nat)=>cond (Nat.ble 0 p&&Nat.blt p 64) [Value.int .u8 (x_2.res (0+(p-0)))] (Cs.eff (λ(p_1:Nat)=>cond (Nat.ble 0 p_1&&Nat.blt p_1 64) [Value.int .u8 (x_1.res (0+(p_1-0)))] [Value.int .u8 0]) [] p)) [] k) Value.oneCell')=true)/\
 (∀k:Nat,k<64->(Nat.beq (List.length (Cs.eff (Cs.eff (λ(p:Nat)=>cond (Nat.ble 0 p&&Nat.blt p 64) [Value.int .u8 (x_2.res (0+(p-0)))] (Cs.eff (λ(p_1:Nat)=>cond (Nat.ble 0 p_1&&Nat.blt p_1 64) [Value.int .u8 (x_1.res (0+(p_1-0)))] [Value.int .u8 0]) [] p)) []) [] k)) 1&&List.all (Cs.eff (Cs.eff (λ(p:Nat)=>cond (Nat.ble 0 p&&Nat.blt p 64) [Value.int .u8 (x_2.res (0+(p-0)))] (Cs.eff (λ(p_1:Nat)=>cond (Nat.ble 0 p_1&&Nat.blt p_1 64) [Value.int .u8 (x_1.res (0+(p_1-0)))] [Value.int .u8 0]) [] p)) []) [] k) Value.oneCell')=true)/\(∀k:Nat,k<64->(Nat.beq (List.length (Cs.eff (Cs.eff (Cs.eff (λ(p:Nat)=>cond (Nat.ble 0 p&&Nat.blt p 64) [Value.int .u8 (x_2.res (0+(p-0)))] (Cs.eff (λ(p_1:Nat)=>cond (Nat.ble 0 p_1&&Nat.blt p_1 64) [Value.int .u8 (x_1.res (0+(p_1-0)))] [Value.int .u8 0]) [] p)) []) []) [] k)) 1&&List.all (Cs.eff (Cs.eff (Cs.eff (λ(p:Nat)=>cond (Nat.ble 0 p&&Nat.blt p 64) [Value.int .u8 (x_2.res (0+(p-0)))] (Cs.eff (λ(p_1:Nat)=>cond (Nat.ble 0 p_1&&Nat.blt p_1 64) [Value.int .u8 (x_1.res (0+(p_1-0)))] [Value.int .u8 0]) [] p)) []) []) [] k) Value.oneCell')=true)/\Hg/\ ∃y_2:Unit,True/\agC/\(64=64/\ ∀q:Nat,q<64->[Value.int .u8 (iE x q)]=Cs.eff (Cs.eff (Cs.eff (Cs.eff (λ(p:Nat)=>cond (Nat.ble 0 p&&Nat.blt p 64) [Value.int .u8 (x_2.res (0+(p-0)))] (Cs.eff (λ(p_1:Nat)=>cond (Nat.ble 0 p_1&&Nat.blt p_1 64) [Value.int .u8 (x_1.res (0+(p_1-0)))] [Value.int .u8 0]) [] p)) []) []) []) [] q)/\True))
theorem acC(x:Int):Vb x=wpF Tryz.prog tblK tt (λ_ _ _ _=>[]) 200 5 150 (Bz.args x) (hO Bz.k (Bz.os x)) (λv h'=>eG Bz.k x v h' Bz.outs):=by kernel_rfl
theorem Vd(b:Bys)(hb:b.ok):agD b:=by
 unfold agD;simp only[aZ,aV,aU,aA,aI,bQ,bF,aO,aK,ay,aX,aW];exact⟨⟨0,b⟩,⟨(show U32 0 from ⟨by omega,by omega⟩),hb⟩,⟨rfl,rfl,rfl⟩,⟨rfl,λ_ _=>rfl⟩,rfl⟩
theorem mG(v:Int)(k:Nat):0<=v/256^k%256/\v/256^k%256<256:=⟨Int.emod_nonneg _ (by omega),Int.emod_lt_of_pos _ (by omega)⟩
theorem zF{g:Nat->Int}(h: ∀k,0<=g k/\g k<256)(a w:Nat)(v:Int)(k:Nat):0<=pO g a w v k/\pO g a w v k<256:=by
 unfold pO;split
 ·exact mG _ _
 ·exact h k
theorem Qj(v:Int)(hv:0<=v/\v<18446744073709551616):Vb v:=by
 unfold Vb;simp only[Hg,amb,aqS,agC,amc,aqR];simp only[aZ,aV,aU,aA,aI,bQ,bF,aO,aK,ay,aX,aW];let b0:Bys:=⟨λk=>if k=0 then 3 else 0,0,9,9⟩
 let x1:uT:=⟨b0,1,8,v,9⟩
 have ok1:x1.ok:=⟨⟨by simp[x1,b0],by simp[x1,b0],λk=>by simp only[x1,b0];split<;>omega⟩,by simp[x1,b0],by simp[x1],by simp[x1],hv.1,hv.2⟩;have r1: ∀k,k<9->x1.res k=acB v k:=λk hk=>by
  simp only[uT.res,pO,acB,x1,b0];by_cases h:k=0
  ·subst h;simp
  ·rw[if_pos (by omega),if_neg h]
 have u1: ∀k,0<=x1.res k/\x1.res k<256:=zF (λk=>ok1.1.2.2 _) _ _ _;let b1:Bys:=⟨λk=>if k<9 then x1.res k else 0,0,64,64⟩
 let x2:uT:=⟨b1,9,4,nR 0 x1.res 9,64⟩
 have c1:nR 0 x1.res 9=nR 0 (acB v) 9:=zD r1;have hU:=Z5 0 x1.res 9
 have ok2:x2.ok:=⟨⟨by simp[x2,b1],by simp[x2,b1],λk=>by
  show 0<=(if k<9 then x1.res k else 0)/\(if k<9 then x1.res k else 0)<256;split
  ·exact u1 k
  ·exact⟨by omega,by omega⟩⟩,by simp[x2,b1],by simp[x2],by simp[x2],hU.1,hU.2⟩
 have w64:IntKind.u64.wrap (nR 0 x1.res 9)=nR 0 x1.res 9:=by
  have:=hU.1;have:=hU.2;unfold IntKind.wrap;simp[IntKind.bits,IntKind.signed];omega
 have nb:x1.b.n=9:=rfl;have nb2:x2.b.n=64:=rfl;have ble9:Nat.ble 9 64=true:=rfl;have aqT:Nat.ble 64 64=true:=rfl;refine⟨x1,ok1,⟨⟨rfl,rfl,rfl⟩,rfl,rfl,rfl⟩,⟨rfl,λq hq=> ?_⟩,by omega,by omega,?_⟩
 ·have hq:q<9:=hq
  match q,hq with
  |0,_|1,_|2,_|3,_|4,_|5,_|6,_|7,_|8,_=>rfl
 simp only[nb,ble9,cP,bT,bG,bH,bI,bU,bC,bJ,bn,eH,aH,aN,ah,ak,aB,aF,aC,aG,aK,aU];refine⟨by omega,by omega,by omega,9,x1.res,rfl,by omega,λ_ _=>rfl,u1,x2,ok2,⟨⟨rfl,rfl,rfl⟩,rfl,rfl,w64.symm⟩,⟨rfl,λq hq=> ?_⟩,by omega,by omega,?_⟩
 ·show(if q<9 then x1.res q else 0)=_
  rw[bV,dI]
 simp only[nb2,aqT,cP,bT,bG,bH,bI,bU,bC,bJ,bn,eH,aH,aN,ah,ak,aB,aF,aC,aG,aK,aU];refine⟨by omega,by omega,λq hq=> ?_⟩;simp[bg.2 hq];show iE v q=pO (λk=>if 0+k<9 then x1.res (0+k)else 0) 9 4 (nR 0 x1.res 9) q;simp only[iE,pO,c1,aA];by_cases h:q<9
 ·rw[if_pos h,if_neg (by omega),if_pos h,r1 q h]
 ·by_cases h2:q<13
  ·rw[if_neg h,if_pos h2,if_pos (by omega)]
  ·rw[if_neg h,if_neg h2,if_neg (by omega),if_neg h]
theorem Ve{P:Program}{f:FuncId}{X:Type}{args:X->List AV}{k m:Nat}{os os':X->List dA}{pre:X->Prop}{ret:X->AV}(hC:bY P f (det X args k os pre ret m os'))(x:X)(hp:pre x):Sp P f (args x) (hO k (os x)) (λv _=>v=ret x):=
 (hC x hp).2.mono λ_ _ hh=>by
  have ha:Ku x (λv _=>v=ret x) (det X args k os pre ret m os').outs:=λ_ _=>rfl
  exact zA ha hh
theorem agF:bY Tryz.prog 171 acA:=dL dD mixed (.cons (bM ao3) .nil) (λ_ _ _ _ _=>[]) 200 5 (λ_=>rfl) (λ_=>rfl) λx hx=>Eq.mp (agE x) (Vd x (aZ.1 hx))
theorem Z7(args:List AV)(h:Heap)(K:AV->Heap->Prop)(hq:ama args h K):Sp Tryz.prog 171 args h K:=by
 unfold ama at hq;split at hq
 ·refine alT (agF ⟨λ_=>0,0,0,0⟩ (aZ.2 ⟨by simp,by simp,λ_=>by simp⟩)).2.1 (by omega) hq λe he=> ?_
  obtain⟨n,g,h1,h2,h3,h4,hK⟩:=he;have hs:=Ve agF ⟨g,0,n,n⟩ (aZ.2 ⟨by simp,h2,h4⟩);refine⟨n,λk=>[.int .u8 (g k)],u32 (nR 0 (λk=>g (0+k)) n),h1,h3,rfl,?_,hs⟩;simpa only[aA]using hK
 ·exact hq.elim
theorem agG:dY Tryz.prog tblK:= .cons Z7 (.cons (atK (bM ao5) λ_ _ _ hq=>vF dD mixed dY.nil _ _ _ _ _ _ _ hq) .nil)
theorem Z8:bY Tryz.prog 150 Bz:=dL dD mixed agG (λ_ _ _ _ _=>[]) 200 5 (λ_=>rfl) (λ_=>rfl) λx hx=>Eq.mp (acC x) (Qj x (aZ.1 hx))
theorem acD:rH Tryz.prog 102 (Extern.Atomic.loadT (.int .u64)):=⟨Tryz.f102,by kernel_rfl,by kernel_rfl,by kernel_rfl,by kernel_rfl,by kernel_rfl⟩
def Z9:jv:=[(102,alY .u64)]
theorem Vf:dY Tryz.prog Z9:= .He (λ_ _ _ hq=>ZX _ _ _ acD hq) .nil
theorem Vg:rH Tryz.prog 104 Extern.Atomic.storeT:=⟨Tryz.f104,by kernel_rfl,by kernel_rfl,by kernel_rfl,by kernel_rfl,by kernel_rfl⟩
def Qk:jv:=[(104,ZW .u64)]
theorem Ql:dY Tryz.prog Qk:= .He (λ_ _ _ hq=>Qc _ _ _ Vg hq) .nil
theorem agH:rH Tryz.prog 103 (Extern.Atomic.casT (.int .u64)):=⟨Tryz.f103,by kernel_rfl,by kernel_rfl,by kernel_rfl,by kernel_rfl,by kernel_rfl⟩
def agJ:jv:=[(103,casX .u64)]
theorem acE:dY Tryz.prog agJ:= .He (λ_ _ _ hq=>aqG _ _ _ agH hq) .nil
theorem agK:rH Tryz.prog 108 (Extern.Atomic.update (Op.intArith .add) .u64 true):=⟨Tryz.f108,by kernel_rfl,by kernel_rfl,by kernel_rfl,by kernel_rfl,by kernel_rfl⟩
def agL:jv:=[(108,addX .u64)]
theorem acF:dY Tryz.prog agL:= .He (λ_ _ _ hq=>agn _ _ _ agK hq) .nil
theorem acG:rH Tryz.prog 285 (Extern.Atomic.swapT (.int .u64)):=⟨Tryz.f285,by kernel_rfl,by kernel_rfl,by kernel_rfl,by kernel_rfl,by kernel_rfl⟩
def aac:jv:=[(285,aqE .u64)]
theorem Vh:dY Tryz.prog aac:= .He (λ_ _ _ hq=>alZ _ _ _ acG hq) .nil
theorem acH:rH Tryz.prog 168 (Extern.Atomic.update (Op.intArith .add) .i64 true):=⟨Tryz.f168,by kernel_rfl,by kernel_rfl,by kernel_rfl,by kernel_rfl,by kernel_rfl⟩
def aad:jv:=[(168,addX .i64)]
theorem Vj:dY Tryz.prog aad:= .He (λ_ _ _ hq=>agn _ _ _ acH hq) .nil
def Qm:jv:=[]
theorem Qn:dY Tryz.prog Qm:= .nil
theorem acI:rH Tryz.prog 193 (Extern.Atomic.loadT (.int .u32)):=⟨Tryz.f193,by kernel_rfl,by kernel_rfl,by kernel_rfl,by kernel_rfl,by kernel_rfl⟩
def aae:jv:=[(193,alY .u32)]
theorem Vk:dY Tryz.prog aae:= .He (λ_ _ _ hq=>ZX _ _ _ acI hq) .nil
theorem Vl:rH Tryz.prog 239 Extern.Atomic.storeT:=⟨Tryz.f239,by kernel_rfl,by kernel_rfl,by kernel_rfl,by kernel_rfl,by kernel_rfl⟩
def Qo:jv:=[(239,ZW .u32)]
theorem Qp:dY Tryz.prog Qo:= .He (λ_ _ _ hq=>Qc _ _ _ Vl hq) .nil
noncomputable def oZ:jv:=Z9++Qk++agJ++agL++aac++aad++Qm++aae++Qo
theorem dP:dY Tryz.prog oZ:= .append (.append (.append (.append (.append (.append (.append (.append (Vf) Ql) acE) acF) Vh) Vj) Qn) Vk) Qp
structure DevM where
 n:Nat
 b:Nat->Int
 s:Nat->Bool
 st:Int
 fl:Int
 fe:Int
 ba:Int
 cu:Int
def small(z:Int):Prop:=0<=z/\z<1099511627776
noncomputable def gu(d:DevM)(p:Nat):List Value:=hide [if p%193=192 then .bool (d.s (p/193))else .int .u8 (d.b p)]
theorem oO(d:DevM)(p:Nat):gu d p=[if p%193=192 then .bool (d.s (p/193))else .int .u8 (d.b p)]:=iJ _
namespace DevM
def ok(d:DevM):Prop:=d.n<=258/\(∀p,0<=d.b p/\d.b p<256)/\small d.st/\small d.fl/\small d.fe/\small d.ba/\small d.cu
def dev(i:Nat)(d:DevM):dA:= .cells 201 (.av [.slE i 0 193 d.n d.n,i64 d.st,i64 d.fl,i64 d.fe,i64 d.ba,i64 d.cu])
noncomputable def cells(d:DevM):dA:= .cells 229 (.row 1 (d.n*193) (gu d) [])
noncomputable def os(d:DevM):List dA:=[d.dev 1,d.cells]
def _root_.Go.Proofs.YtenfleoejgjklaaGreat.yw(n:Nat):DevM:=⟨n,λ_=>0,λ_=>false,0,0,0,0,0⟩
def flush(d:DevM)(k:Nat):DevM:={d with b:=λp=>if k*193+128<=p/\p<k*193+192 then d.b (p-128)else d.b p,s:=λq=>if q=k then true else d.s q,fl:=if k<d.n then d.fl+1 else d.fl}
def iK(d:DevM)(k:Nat):DevM:={d with b:=λp=>if p/193<k/\d.s (p/193)=true/\64<=p%193/\p%193<128 then d.b (p+64)else d.b p,s:=λq=>if q<k then false else d.s q}
def fence(d:DevM):DevM:={d.iK d.n with fe:=d.fe+1}
def store(d:DevM)(k a n:Nat)(g:Nat->Int):DevM:={d with b:=λp=>if k*193+a<=p/\p<k*193+a+n then g (p-(k*193+a))else d.b p,st:=d.st+1}
end DevM
structure Qq where
 d:DevM
 k:Nat
noncomputable def BA:Ctr:=det Qq (λx=>[.ptr 0 0,i64 x.k]) 2 (λx=>x.d.os) (λx=>Hd (x.d.ok/\x.k<258)) (λx=>i64 (if x.k<x.d.n then 0 else 2)) 2 (λx=>(x.d.flush x.k).os)
noncomputable def BD:Ctr:=det DevM (λ_=>[.ptr 0 0]) 2 (λd=>d.os) (λd=>Hd d.ok) (λ_=>i64 0) 2 (λd=>d.fence.os)
noncomputable def agM(d:DevM):FuncId->qR:=λf=>
 bif Nat.beq f 106 then(λb fr h=>bif Nat.beq b 0 then [{σ:=Nat,fr:=λk=>[(12,i64 k)],ob:=λk=>[(1,some (d.iK k).cells)],inv:=λk=>k<=d.n,meas:=λk=>d.n-k}]else [])else
 λ_ _ _=>[]
structure lN where
 d:DevM
 k:Nat
 a:Nat
 b:Bys
noncomputable def BF:Ctr:=det lN (λx=>[.ptr 0 0,i64 x.k,i64 x.a,x.b.av 2]) 3 (λx=>x.d.os++[x.b.ro]) (λx=>Hd (x.d.ok/\x.k<x.d.n/\x.b.ok/\x.a+x.b.n<=64)) (λ_=>i64 0) 3 (λx=>(x.d.store x.k x.a x.b.n (λq=>x.b.g (x.b.q+q))).os++[x.b.ro])
def acJ(a:DevM):Prop:=a.ba=a.ba/\a.cu=a.cu/\True
def Vm(a:DevM):Prop:=a.fe=a.fe/\acJ a
def lQ(a:Nat):Prop:=a*193=a*193
def ou(a:Nat):Prop:=0=0/\a=a/\a=a
def Qr(a:Bys):Prop:=(rowB a.g a.N=rowB a.g a.N/\true=true)/\True
def Vo(a:DevM):Prop:=a.fl=a.fl/\Vm a
def amd(a:lN):Prop:= ∃y:Unit,True/\(0:Int)=2/\(ou a.d.n/\a.d.st+1=a.d.st/\Vo a.d)/\(lQ a.d.n/\ ∀q:Nat,q<a.d.n*193->Cs.eff (gu (a.d.store a.k a.a a.b.n (λ(q_1:Nat)=>a.b.g (a.b.q+q_1)))) [] q=Cs.eff (gu a.d) [] q)/\Qr a.b
def ame(a:DevM):Prop:=(ou a.n/\a.st=a.st/\Vo a)/\True
def aaf(a:Bys)(b:Nat):Prop:=(Nat.beq (List.length [Value.int .u8 (a.g (a.q+b))]) 1&&List.all [Value.int .u8 (a.g (a.q+b))] Value.oneCell')=true
def aag:Prop:= ∃y:Unit,True/\(False/\(0:Int)=2/\True)/\False/\False/\True
def agN(n:Nat):Prop:=
 cP (decide ((n:Int)<1)) aag (cP (decide ((n:Int)>(258:Int))) aag ((0<=(n:Int)/\(n:Int)<=(n:Int)/\193*(n:Int)<=281474976710656/\(n:Int)<4611686018427387904)/\ ∃y:Unit,True/\(0=0/\(0:Int)=0/\True)/\(ou n/\(0:Int)=0/\(0:Int)=0/\(0:Int)=0/\(0:Int)=0/\(0:Int)=0/\True)/\(lQ n/\ ∀q:Nat,∀j:Nat,q<n->j<193-> ∃v:Value,getElem? (List.replicate 192 (Value.int .u8 0)++[Value.bool false]) j=some v/\Cs.eff (gu (yw n)) [] (q*193+j)=[v])/\True))
def Vp(x:Qq):Prop:=
 cP (decide ((x.k:Int)>=(x.d.n:Int))) (∃y:Unit,True/\ite (x.k<x.d.n) (0:Int) (2:Int)=2/\(ou x.d.n/\x.d.st=x.d.st/\ite (x.k<x.d.n) (x.d.fl+1) x.d.fl=x.d.fl/\Vm x.d)/\(lQ x.d.n/\ ∀q:Nat,q<x.d.n*193->Cs.eff (gu (x.d.flush x.k)) [] q=Cs.eff (gu x.d) [] q)/\True) (I64 (64:Int)/\(0<=(x.k:Int)/\(x.k:Int)<(x.d.n:Int))/\(0+x.k)*193+0+64<=x.d.n*193/\(0+x.k)*193+128+64<=x.d.n*193/\(∀k:Nat,k<64->(Nat.beq (List.length (Cs.eff (gu x.d) [] ((0+x.k)*193+0+k))) 1&&List.all (Cs.eff (gu x.d) [] ((0+x.k)*193+0+k)) Value.oneCell')=true)/\(0+x.k)*193+192<x.d.n*193/\I64 (x.d.fl+1)/\ ∃y:Unit,True/\ite (x.k<x.d.n) (0:Int) (2:Int)=0/\(ou x.d.n/\x.d.st=x.d.st/\ite (x.k<x.d.n) (x.d.fl+1) x.d.fl=x.d.fl+1/\Vm x.d)/\(lQ x.d.n/\ ∀q:Nat,q<x.d.n*193->Cs.eff (gu (x.d.flush x.k)) [] q=Cs.eff (λ(p:Nat)=>cond (Nat.ble ((0+x.k)*193+128) p&&Nat.blt p ((0+x.k)*193+128+64)) (Cs.eff (gu x.d) [] ((0+x.k)*193+0+(p-((0+x.k)*193+128)))) (Cs.eff (gu x.d) [] p)) [((0+x.k)*193+192,[Value.bool true])] q)/\True)
theorem acK(x:Qq):Vp x=wpF Tryz.prog oZ tt (λ_ _ _ _=>[]) 200 5 105 (BA.args x) (hO BA.k (BA.os x)) (λv h'=>eG BA.k x v h' BA.outs):=by kernel_rfl
def Vq(d:DevM):Prop:=
 (∃s:Nat,s<=d.n/\True/\((s:Int)=0/\True)/\(lQ d.n/\ ∀q:Nat,q<d.n*193->Cs.eff (gu (d.iK s)) [] q=Cs.eff (gu d) [] q)/\ame d)/\(∀s:Nat,s<=d.n->cP (decide ((s:Int)<(d.n:Int))) ((0<=(s:Int)/\(s:Int)<(d.n:Int))/\(0+s)*193+192<d.n*193/\ ∃b:Bool,getElem? (gu (d.iK s) ((0+s)*193+192)) 0=some (Value.bool b)/\cP b ((0+s)*193+128+64<=d.n*193/\(0+s)*193+64+64<=d.n*193/\(∀k:Nat,k<64->(Nat.beq (List.length (Cs.eff (gu (d.iK s)) [] ((0+s)*193+128+k))) 1&&List.all (Cs.eff (gu (d.iK s)) [] ((0+s)*193+128+k)) Value.oneCell')=true)/\(0+s)*193+192<d.n*193/\I64 ((s:Int)+1)/\ ∃s_1:Nat,s_1<=d.n/\d.n-s_1<d.n-s/\((s_1:Int)=(s:Int)+1/\True)/\(lQ d.n/\ ∀q:Nat,q<d.n*193->Cs.eff (gu (d.iK s_1)) [] q=Cs.eff (λ(p:Nat)=>cond (Nat.ble ((0+s)*193+64) p&&Nat.blt p ((0+s)*193+64+64)) (Cs.eff (gu (d.iK s)) [] ((0+s)*193+128+(p-((0+s)*193+64)))) (Cs.eff (gu (d.iK s)) [] p)) [((0+s)*193+192,[Value.bool false])] q)/\ame d) (I64 ((s:Int)+1)/\ ∃s_1:Nat,s_1<=d.n/\d.n-s_1<d.n-s/\((s_1:Int)=(s:Int)+1/\True)/\(lQ d.n/\ ∀q:Nat,q<d.n*193->Cs.eff (gu (d.iK s_1)) [] q=Cs.eff (gu (d.iK s)) [] q)/\ame d)) (I64 (d.fe+1)/\ ∃y:Unit,True/\(0:Int)=0/\(ou d.n/\d.st=d.st/\d.fl=d.fl/\d.fe+1=d.fe+1/\acJ d)/\(lQ d.n/\ ∀q:Nat,q<d.n*193->Cs.eff (gu d.fence) [] q=Cs.eff (gu (d.iK s)) [] q)/\True))/\True
theorem acL(d:DevM):Vq d=wpF Tryz.prog oZ tt (agM d) 200 5 106 (BD.args d) (hO BD.k (BD.os d)) (λv h'=>eG BD.k d v h' BD.outs):=by kernel_rfl
def KA(x:lN):Prop:=
 cP (decide ((x.k:Int)>=(x.d.n:Int))) (amd x) (I64 (64-(x.b.n:Int))/\cP (decide ((x.a:Int)>64-(x.b.n:Int))) (amd x) ((0<=(x.k:Int)/\(x.k:Int)<(x.d.n:Int))/\0<=(x.a:Int)/\(x.a<=64/\64<=64/\64<=64)/\(0+x.k)*193+0+x.a+(64-x.a)<=x.d.n*193/\cP (Nat.ble x.b.n (64-x.a)) (x.b.q+x.b.n<=x.b.N/\(∀k:Nat,k<x.b.n->aaf x.b k)/\I64 (x.d.st+1)/\ ∃y:Unit,True/\(0:Int)=0/\(ou x.d.n/\x.d.st+1=x.d.st+1/\Vo x.d)/\(lQ x.d.n/\ ∀q:Nat,q<x.d.n*193->Cs.eff (gu (x.d.store x.k x.a x.b.n (λ(q_1:Nat)=>x.b.g (x.b.q+q_1)))) [] q=Cs.eff (λ(p:Nat)=>cond (Nat.ble ((0+x.k)*193+0+x.a) p&&Nat.blt p ((0+x.k)*193+0+x.a+x.b.n)) [Value.int .u8 (x.b.g (x.b.q+(p-((0+x.k)*193+0+x.a))))] (Cs.eff (gu x.d) [] p)) [] q)/\Qr x.b) (x.b.q+(64-x.a)<=x.b.N/\(∀k:Nat,k<64-x.a->aaf x.b k)/\I64 (x.d.st+1)/\ ∃y:Unit,True/\(0:Int)=0/\(ou x.d.n/\x.d.st+1=x.d.st+1/\Vo x.d)/\(lQ x.d.n/\ ∀q:Nat,q<x.d.n*193->Cs.eff (gu (x.d.store x.k x.a x.b.n (λ(q_1:Nat)=>x.b.g (x.b.q+q_1)))) [] q=Cs.eff (λ(p:Nat)=>cond (Nat.ble ((0+x.k)*193+0+x.a) p&&Nat.blt p ((0+x.k)*193+0+x.a+(64-x.a))) [Value.int .u8 (x.b.g (x.b.q+(p-((0+x.k)*193+0+x.a))))] (Cs.eff (gu x.d) [] p)) [] q)/\Qr x.b)))
theorem acM(x:lN):KA x=wpF Tryz.prog oZ tt (λ_ _ _ _=>[]) 200 5 62 (BF.args x) (hO BF.k (BF.os x)) (λv h'=>eG BF.k x v h' BF.outs):=by kernel_rfl
theorem agO(d:DevM)(p:Nat):((gu d p).length.beq 1&&(gu d p).all Value.oneCell')=true:=by
 rw[oO];split<;>rfl
theorem Vr(n:Nat)(hn:1<=n/\n<=258):agN n:=by
 unfold agN;simp only[aag,ou,lQ];simp only[aZ,aV,aU,aA,aI,bQ,bF,aO,aK,ay,aX,aW,bT,bG,bH,bI,bU,bC,bJ,bn,eH,aH,aN,ah,ak,aB,aF,aC,aG];refine bf (λh=>absurd (aS h) (by omega)) λ_=>bf (λh=>absurd (aS h) (by omega)) λ_=>⟨by omega,λq j _ hj=> ?_⟩
 rw[oO,show(q*193+j)%193=j by omega];by_cases h:j=192
 ·subst h;exact⟨_,rfl,rfl⟩
 ·rw[if_neg h]
  refine⟨.int .u8 0,?_,rfl⟩;rw[List.getElem?_append_left (by rw[List.length_replicate];omega),List.getElem?_replicate,if_pos (by omega)]
theorem Qs(x:Qq)(hx:x.d.ok/\x.k<258):Vp x:=by
 obtain⟨⟨h1,h2,h3,h4,h5,h6⟩,hk⟩:=hx;unfold small at*
 unfold Vp;simp only[ou,Vm,lQ,acJ];simp only[aZ,aV,aU,aA,aI,bQ,bF,aO,aK,ay,aX,aW,bT,bG,bH,bI,bU,bC,bJ,bn,eH,aH,aN,ah,ak,aB,aF,aC,aG];refine bf (λh=> ?_) λh=> ?_
 ·have h:=aS h
  refine⟨by rw[if_neg (by omega)],by rw[if_neg (by omega)],λq hq=> ?_⟩;simp only[oO,DevM.flush];grind
 ·have h:x.k<x.d.n:=by have:=aT h;omega
  rw[if_pos h,if_pos h];refine⟨by unfold I64;omega,by omega,by omega,by omega,λk _=>agO _ _,by omega,by unfold I64;omega,rfl,rfl,λq hq=> ?_⟩;simp only[Cs.eff,bV,dh,dB,dI,<-Bool.decide_and,oO,DevM.flush];grind
theorem Qu(d:DevM)(hd:d.ok):Vq d:=by
 obtain⟨h1,h2,h3,h4,h5,h6⟩:=hd;unfold small at*
 unfold Vq;simp only[lQ,ame,ou,acJ,Vo,Vm];simp only[aZ,aV,aU,aA,aI,bQ,bF,aO,aK,ay,aX,aW,bT,bG,bH,bI,bU,bC,bJ,bn,eH,aH,aN,ah,ak,aB,aF,aC,aG];refine⟨⟨0,by omega,by omega,λq hq=> ?_⟩,λs hs=>bf (λhb=> ?_) (λhb=> ?_)⟩
 ·simp only[oO,DevM.iK];grind
 ·have hb:=aS hb
  refine⟨by omega,by omega,d.s s,?_,bf (λhc=> ?_) (λhc=> ?_)⟩
  ·simp only[oO,DevM.iK];grind
  ·refine⟨by omega,by omega,λk _=>agO _ _,by omega,by unfold I64;omega,s+1,by omega,by omega,by omega,λq hq=> ?_⟩
   simp only[Cs.eff,bV,dh,dB,dI,<-Bool.decide_and,oO,DevM.iK];grind (splits:=30)
  ·refine⟨by unfold I64;omega,s+1,by omega,by omega,by omega,λq hq=> ?_⟩
   simp only[oO,DevM.iK];grind
 ·have:s=d.n:=by have:=aT hb;omega
  subst this;exact⟨by unfold I64;omega,λq _=>rfl⟩
theorem BG(x:lN)(hx:x.d.ok/\x.k<x.d.n/\x.b.ok/\x.a+x.b.n<=64):KA x:=by
 obtain⟨⟨h1,h2,h3,h4,h5,h6⟩,hk,hb,ha⟩:=hx;unfold small at*
 unfold KA;simp only[amd,aaf,ou,Vo,lQ,Qr,Vm,acJ];simp only[aZ,aV,aU,aA,aI,bQ,bF,aO,aK,ay,aX,aW,bT,bG,bH,bI,bU,bC,bJ,bn,eH,aH,aN,ah,ak,aB,aF,aC,aG];obtain⟨b1,b2,b3⟩:=hb;refine bf (λh=>absurd (aS h) (by omega)) λ_=>⟨by unfold I64;omega,bf (λh=>absurd (aS h) (by omega)) λ_=>⟨by omega,by omega,by omega,by omega,bf (λh=> ?_) (λh=> ?_)⟩⟩
 ·refine⟨b1,by unfold I64;omega,λq hq=> ?_⟩
  simp only[Cs.eff,bV,dh,dB,dI,<-Bool.decide_and,oO,DevM.store];grind
 ·have: ¬x.b.n<=64-x.a:=λhh=>by rw[show Nat.ble x.b.n (64-x.a)=true by simpa using hh]at h;cases h
  omega
theorem aah:bY Tryz.prog 105 BA:=dL dD mixed dP (λ_ _ _ _ _=>[]) 200 5 (λ_=>rfl) (λ_=>rfl) λx hx=>Eq.mp (acK x) (Qs x (aZ.1 hx))
theorem aai:bY Tryz.prog 106 BD:=dL dD mixed dP agM 200 5 (λ_=>rfl) (λ_=>rfl) λx hx=>Eq.mp (acL x) (Qu x (aZ.1 hx))
theorem aaj:bY Tryz.prog 62 BF:=dL dD mixed dP (λ_ _ _ _ _=>[]) 200 5 (λ_=>rfl) (λ_=>rfl) λx hx=>Eq.mp (acM x) (BG x (aZ.1 hx))
structure eX where
 t:Nat
 now:Int
 dur:Int
 jJ:Int
 o:Nat->Int
 N:Nat->Bool
 L:Nat->Bool
def atQ(f:Nat->Bool):Cs:= .row 1 258 (λk=>[.bool (f k)]) []
def U64(z:Int):Prop:=0<=z/\z<4611686018427387904
def stA(i:Nat):Nat->AV
 |0=> .lit .nilFunc
 |1=> .fn (.func 57) [.ptr i 0] []
 |2=> .fn (.func 107) [.ptr i 0] []
 |3=> .fn (.func 165) [.ptr i 0] []
 |_=> .fn (.func 212) [.ptr i 0] []
def stV(ph:Nat):AV:=stA 0 ph
namespace eX
def ok(c:eX):Prop:=1<=c.t/\c.t<=4/\U64 c.now/\U64 c.dur/\U64 c.jJ/\ ∀k,small (c.o k)
def clkA(c:eX)(i:Nat)(st:AV):dA:= .cells 131 (.cat (.av [u64 c.now,u64 c.dur,u64 c.jJ,.slE i 0 1 c.t c.t]) (.cat (atQ c.N) (.cat (atQ c.L) (.av [st]))))
def clk(c:eX)(ph:Nat):dA:=c.clkA 1 (stV ph)
def owed(c:eX):dA:= .cells 3 (.row 1 c.t (λk=>[.int .i64 (c.o k)]) [])
def os(c:eX)(ph:Nat):List dA:=[c.clk ph,c.owed]
def note(c:eX)(t:Nat)(l:Int):eX:={c with o:=λk=>if k=t/\0<=l/\l<258 then c.o k+1 else c.o k,N:=λq=>c.N q||decide (l=(q:Nat))}
def start(c:eX):eX:={c with now:=c.now+1,jJ:=c.now,o:=λ_=>0,N:=λ_=>false,L:=c.N}
def aak(c:eX)(k:Nat):eX:={c with L:=λq=>if q=k then false else c.L q}
def fin(c:eX):eX:={c with dur:=c.jJ,jJ:=0}
end eX
def agP(t:Nat)(d:Int):eX:=⟨t,d+1,d,0,λ_=>0,λ_=>false,λ_=>false⟩
structure vW where
 c:eX
 t:Nat
 l:Int
def Ey:Ctr:=det eX (λ_=>[.ptr 0 0]) 2 (λc=>c.os 0) (λc=>Hd (c.ok/\c.jJ=0)) (λ_=>i64 0) 2 (λc=>c.start.os 1)
structure qj where
 c:eX
 d:DevM
namespace qj
def ok(x:qj):Prop:=x.c.ok/\x.d.ok/\x.c.jJ≠0/\1<x.d.n
noncomputable def os(x:qj)(ph:Nat):List dA:=x.c.os ph++[x.d.dev 3,x.d.cells]
end qj
def Hl(a:Int):AV:= .tup [i64 a,i64 0]
noncomputable def Ez:Ctr:={X:=qj,args:=λ_=>[.ptr 0 0,.ptr 2 0],k:=4,os:=λx=>x.os 1,pre:=λx=>Hd x.ok,outs:=[
 {Y:=Nat,post:=λx k=>Hd (k<258/\x.c.L k=true/\ ∀j,j<k->x.c.L j=false),ret:=λ_ _=>Hl 1,m:=4,os:=λx k=>qj.os ⟨x.c.aak k,x.d.flush k⟩ 1},
 {Y:=Unit,post:=λx _=>Hd (∀j,j<258->x.c.L j=false),ret:=λ_ _=>Hl 2,m:=4,os:=λx _=>qj.os ⟨x.c,x.d.fence⟩ 2}]}
def agQ(x:qj):FuncId->qR:=λf=>
 bif Nat.beq f 57 then(λb fr h=>bif Nat.beq b 0 then [{σ:=Nat,fr:=λk=>[(11,i64 k)],ob:=λ_=>[],inv:=λk=>Hd (k<=258/\ ∀j,j<k->x.c.L j=false),meas:=λk=>258-k}]else [])else
 λ_ _ _=>[]
noncomputable def EC:Ctr:=det qj (λ_=>[.ptr 0 0,.ptr 2 0]) 4 (λx=>x.os 2) (λx=>Hd x.ok) (λ_=>Hl 3) 4 (λx=>qj.os ⟨x.c,x.d.store 1 0 64 (iE x.c.jJ)⟩ 3)
noncomputable def ED:Ctr:=det qj (λ_=>[.ptr 0 0,.ptr 2 0]) 4 (λx=>x.os 3) (λx=>Hd x.ok) (λ_=>Hl 1) 4 (λx=>qj.os ⟨x.c,x.d.flush 1⟩ 4)
noncomputable def EF:Ctr:=det qj (λ_=>[.ptr 0 0,.ptr 2 0]) 4 (λx=>x.os 4) (λx=>Hd x.ok) (λ_=>Hl 2) 4 (λx=>qj.os ⟨x.c.fin,x.d.fence⟩ 0)
noncomputable def atS:jv:=oZ++[(105,ctrT BA),(106,ctrT BD),(62,ctrT BF),(150,ctrT Bz)]
theorem KC:dY Tryz.prog atS:= .append dP (.cons (bM aah) (.cons (bM aai) (.cons (bM aaj) (.cons (bM Z8) .nil))))
def lS(a:Nat):Prop:=0=0/\a=a/\a=a
def rM(a:eX):Prop:=a.now=a.now/\a.dur=a.dur/\a.jJ=a.jJ/\lS a.t/\True
def vY(a:eX):Prop:=a.t=a.t/\ ∀q:Nat,q<a.t->[Value.int .i64 (a.o q)]=[Value.int .i64 (a.o q)]
def BH:Prop:=Value.nilFunc=Value.nilFunc/\True
def vC(a:eX):Prop:=258=258/\ ∀q:Nat,q<258->[Value.bool (a.L q)]=[Value.bool (a.L q)]
def amf(a:vW):Prop:=(rM a.c/\(258=258/\ ∀q:Nat,q<258->[Value.bool (Bool.or (a.c.N q) (decide (a.l=(q:Int))))]=[Value.bool (a.c.N q)])/\vC a.c/\BH)/\(a.c.t=a.c.t/\ ∀q:Nat,q<a.c.t->[Value.int .i64 (ite (q=a.t/\0<=a.l/\a.l<258) (a.c.o q+1) (a.c.o q))]=[Value.int .i64 (a.c.o q)])/\True
def qB(a:eX):Prop:=258=258/\ ∀q:Nat,q<258->[Value.bool (a.N q)]=[Value.bool (a.N q)]
def IY(a:DevM)(b:DevM):Prop:=a.n*193=b.n*193/\ ∀q:Nat,q<a.n*193->Cs.eff (gu a) [] q=Cs.eff (gu b) [] q
def qO(a:Nat)(b:Nat):Prop:=0=0/\a=b/\a=b
def BI(a:DevM)(b:DevM):Prop:=a.ba=b.ba/\a.cu=b.cu/\True
def EG(a:DevM)(b:DevM):Prop:=a.fe=b.fe/\BI a b
def IZ(a:DevM)(b:DevM):Prop:=a.fl=b.fl/\EG a b
def I4(a:DevM)(b:DevM):Prop:=a.st=b.st/\IZ a b
def Vs(a:DevM)(b:DevM):Prop:=(qO a.n b.n/\I4 a b)/\IY a b/\True
def I5(a:DevM):Prop:=a.ba=a.ba/\a.cu=a.cu/\True
def EH(a:DevM):Prop:=a.fe=a.fe/\I5 a
def oz:Prop:=(0=0/\True)/\True
def aal:Prop:=(@Fn.func (57: @FuncId)= @Fn.func (57: @FuncId)/\oz)/\True
def agR(a:qj):Prop:=(a.d.n*193=a.d.n*193/\ ∀q:Nat,q<a.d.n*193->Cs.eff (gu a.d) [] q=Cs.eff (gu a.d) [] q)/\(lS a.d.n/\a.d.st=a.d.st/\a.d.fl=a.d.fl/\EH a.d)/\vY a.c/\(rM a.c/\qB a.c/\vC a.c/\aal)/\True
def aam(a:qj):Prop:=vY a.c/\(lS a.d.n/\a.d.st=a.d.st/\a.d.fl=a.d.fl/\a.d.fe+1=a.d.fe/\I5 a.d)/\(a.d.n*193=a.d.n*193/\ ∀q:Nat,q<a.d.n*193->Cs.eff (gu a.d.fence) [] q=Cs.eff (gu a.d) [] q)/\True
def aan(a:qj)(b:DevM):Prop:=vY a.c/\(qO a.d.n b.n/\a.d.st=b.st/\a.d.fl=b.fl/\a.d.fe+1=b.fe+1/\BI a.d b)/\(a.d.n*193=b.n*193/\ ∀q:Nat,q<a.d.n*193->Cs.eff (gu a.d.fence) [] q=Cs.eff (gu b.fence) [] q)/\True
def I7:Prop:=258=258/\ ∀q:Nat,q<258->[Value.bool false]=[Value.bool false]
def aao(a:Nat)(b:eX):Prop:=Hd (a<258/\b.L a=true/\ ∀j:Nat,j<a->b.L j=false)
def aap:Prop:= ∃y:Unit,True/\(False/\(0:Int)=2/\True)/\False/\False/\True
def yx:Prop:=(0:Int)=12/\True
def agS(p:Nat×Int):Prop:=
 cP (decide ((p.1:Int)<1)) aap (cP (decide ((p.1:Int)>(4:Int))) aap (cP (decide (p.2>(1152921504606846976:Int))) (∃y:Unit,True/\(False/\(0:Int)=10/\True)/\False/\False/\True) ((0<=(p.1:Int)/\(p.1:Int)<=(p.1:Int)/\8*(p.1:Int)<=281474976710656/\(p.1:Int)<4611686018427387904)/\ ∃y:Unit,True/\(0=0/\(0:Int)=0/\True)/\((p.2+1=IntKind.wrap .u64 (p.2+1)/\p.2=p.2/\(0:Int)=0/\(0=0/\p.1=p.1/\p.1=p.1)/\True)/\I7/\I7/\BH)/\(p.1=p.1/\ ∀q:Nat,q<p.1->[Value.int .i64 0]=[Value.int .i64 0])/\True)))
def ao6(x:vW):Prop:=
 cP (decide ((x.t:Int)>=(x.c.t:Int))) (∃y:Unit,True/\ite (0<=x.l/\x.l<258) (0:Int) (2:Int)=1/\amf x) (cP (decide (x.l<0)) (∃y:Unit,True/\ite (0<=x.l/\x.l<258) (0:Int) (2:Int)=2/\amf x) (cP (decide (x.l>=(258:Int))) (∃y:Unit,True/\ite (0<=x.l/\x.l<258) (0:Int) (2:Int)=2/\amf x) ((0<=(x.t:Int)/\(x.t:Int)<(x.c.t:Int))/\0+x.t<x.c.t/\I64 (x.c.o (0+x.t)+1)/\(0<=(x.t:Int)/\(x.t:Int)<(x.c.t:Int))/\0+x.t<x.c.t/\(0<=x.l/\x.l<258)/\Int.toNat x.l<258/\ ∃y:Unit,True/\ite (0<=x.l/\x.l<258) (0:Int) (2:Int)=0/\(rM x.c/\(258=258/\ ∀q:Nat,q<258->[Value.bool (Bool.or (x.c.N q) (decide (x.l=(q:Int))))]=Cs.eff (λ(k:Nat)=>[Value.bool (x.c.N k)]) [(Int.toNat x.l,[Value.bool true])] q)/\vC x.c/\BH)/\(x.c.t=x.c.t/\ ∀q:Nat,q<x.c.t->[Value.int .i64 (ite (q=x.t/\0<=x.l/\x.l<258) (x.c.o q+1) (x.c.o q))]=Cs.eff (λ(k:Nat)=>[Value.int .i64 (x.c.o k)]) [(0+x.t,[Value.int .i64 (x.c.o (0+x.t)+1)])] q)/\True)))
def Vt(c:eX):Prop:=
 cP (decide (c.jJ=0)) ((∀k:Nat,k<258->(Nat.beq (List.length [Value.bool (c.N k)]) 1&&List.all [Value.bool (c.N k)] Value.oneCell')=true)/\(∀k:Nat,k<258->(Nat.beq (List.length [Value.bool false]) 1&&List.all [Value.bool false] Value.oneCell')=true)/\0+c.t<=c.t/\ ∃y:Unit,True/\(0:Int)=0/\((c.now+1=IntKind.wrap .u64 (c.now+1)/\c.dur=c.dur/\c.now=c.now/\lS c.t/\True)/\I7/\qB c/\(@Fn.func (57: @FuncId)= @Fn.func 57/\oz)/\True)/\(c.t=c.t/\ ∀q:Nat,q<c.t->[Value.int .i64 0]=Cs.eff (λ(p:Nat)=>cond (Nat.ble 0 p&&Nat.blt p (0+c.t)) [Value.int .i64 0] [Value.int .i64 (c.o p)]) [] q)/\True) (∃y:Unit,True/\(0:Int)=7/\((c.now+1=c.now/\c.dur=c.dur/\c.now=c.jJ/\lS c.t/\True)/\(258=258/\ ∀q:Nat,q<258->[Value.bool false]=[Value.bool (c.N q)])/\(258=258/\ ∀q:Nat,q<258->[Value.bool (c.N q)]=[Value.bool (c.L q)])/\False/\True)/\(c.t=c.t/\ ∀q:Nat,q<c.t->[Value.int .i64 0]=[Value.int .i64 (c.o q)])/\True)
theorem acN(c:eX):Vt c=wpF Tryz.prog oZ tt (λ_ _ _ _=>[]) 200 5 23 (Ey.args c) (hO Ey.k (Ey.os c)) (λv h'=>eG Ey.k c v h' Ey.outs):=by kernel_rfl
def Vu(x:qj):Prop:=
 cP (BEq.beq x.c.jJ (0:Int)) ((∃y:Nat,aao y x.c/\((1:Int)=0/\yx)/\(rM x.c/\qB x.c/\(258=258/\ ∀q:Nat,q<258->[Value.bool (ite (q=y) false (x.c.L q))]=[Value.bool (x.c.L q)])/\aal)/\vY x.c/\(lS x.d.n/\x.d.st=x.d.st/\ite (y<x.d.n) (x.d.fl+1) x.d.fl=x.d.fl/\EH x.d)/\(x.d.n*193=x.d.n*193/\ ∀q:Nat,q<x.d.n*193->Cs.eff (gu (x.d.flush y)) [] q=Cs.eff (gu x.d) [] q)/\True)\/ ∃y:Unit,Hd (∀j:Nat,j<258->x.c.L j=false)/\((2:Int)=0/\yx)/\(rM x.c/\qB x.c/\vC x.c/\(@Fn.func (107: @FuncId)= @Fn.func (57: @FuncId)/\oz)/\True)/\aam x) ((∃s:Nat,Hd (s<=258/\ ∀j:Nat,j<s->x.c.L j=false)/\True/\((s:Int)=0/\True)/\agR x)/\(∀s:Nat,Hd (s<=258/\ ∀j:Nat,j<s->x.c.L j=false)->cP (decide ((s:Int)<258)) ((0<=(s:Int)/\(s:Int)<258)/\s<258/\ ∃b:Bool,some (Value.bool (x.c.L s))=some (Value.bool b)/\cP b ((0<=(s:Int)/\(s:Int)<258)/\s<258/\ ∃x_1:Qq,Hd (x_1.d.ok/\x_1.k<258)/\(0=0/\(x_1.k:Int)=(s:Int)/\True)/\Vs x_1.d x.d/\ ∀y:Unit,True->(∃y_1:Nat,aao y_1 x.c/\((1:Int)=1/\(0:Int)=0/\True)/\(rM x.c/\qB x.c/\(258=258/\ ∀q:Nat,q<258->[Value.bool (ite (q=y_1) false (x.c.L q))]=Cs.eff (λ(k:Nat)=>[Value.bool (x.c.L k)]) [(s,[Value.bool false])] q)/\aal)/\vY x.c/\(qO x.d.n x_1.d.n/\x.d.st=x_1.d.st/\ite (y_1<x.d.n) (x.d.fl+1) x.d.fl=ite (x_1.k<x_1.d.n) (x_1.d.fl+1) x_1.d.fl/\EG x.d x_1.d)/\(x.d.n*193=x_1.d.n*193/\ ∀q:Nat,q<x.d.n*193->Cs.eff (gu (x.d.flush y_1)) [] q=Cs.eff (gu (x_1.d.flush x_1.k)) [] q)/\True)\/ ∃y_1:Unit,Hd (∀j:Nat,j<258->x.c.L j=false)/\
 ((2:Int)=1/\(0:Int)=0/\True)/\(rM x.c/\qB x.c/\(258=258/\ ∀q:Nat,q<258->[Value.bool (x.c.L q)]=Cs.eff (λ(k:Nat)=>[Value.bool (x.c.L k)]) [(s,[Value.bool false])] q)/\(@Fn.func (107: @FuncId)= @Fn.func (57: @FuncId)/\oz)/\True)/\vY x.c/\(qO x.d.n x_1.d.n/\x.d.st=x_1.d.st/\x.d.fl=ite (x_1.k<x_1.d.n) (x_1.d.fl+1) x_1.d.fl/\x.d.fe+1=x_1.d.fe/\BI x.d x_1.d)/\(x.d.n*193=x_1.d.n*193/\ ∀q:Nat,q<x.d.n*193->Cs.eff (gu x.d.fence) [] q=Cs.eff (gu (x_1.d.flush x_1.k)) [] q)/\True) (I64 ((s:Int)+1)/\ ∃s_1:Nat,Hd (s_1<=258/\ ∀j:Nat,j<s_1->x.c.L j=false)/\258-s_1<258-s/\((s_1:Int)=(s:Int)+1/\True)/\agR x)) (∃x_1:DevM,Hd x_1.ok/\(0=0/\True)/\Vs x_1 x.d/\ ∀y:Unit,True->(∃y_1:Nat,aao y_1 x.c/\((1:Int)=2/\(0:Int)=0/\True)/\(rM x.c/\qB x.c/\(258=258/\ ∀q:Nat,q<258->[Value.bool (ite (q=y_1) false (x.c.L q))]=[Value.bool (x.c.L q)])/\(@Fn.func (57: @FuncId)= @Fn.func 107/\oz)/\True)/\vY x.c/\(qO x.d.n x_1.n/\x.d.st=x_1.st/\ite (y_1<x.d.n) (x.d.fl+1) x.d.fl=x_1.fl/\x.d.fe=x_1.fe+1/\BI x.d x_1)/\(x.d.n*193=x_1.n*193/\ ∀q:Nat,q<x.d.n*193->Cs.eff (gu (x.d.flush y_1)) [] q=Cs.eff (gu x_1.fence) [] q)/\True)\/ ∃y_1:Unit,Hd (∀j:Nat,j<258->x.c.L j=false)/\((2:Int)=2/\(0:Int)=0/\True)/\(rM x.c/\qB x.c/\vC x.c/\(@Fn.func (107: @FuncId)= @Fn.func 107/\oz)/\True)/\aan x x_1))/\True)
theorem acO(x:qj):Vu x=wpF Tryz.prog atS tt (agQ x) 200 5 24 (Ez.args x) (hO Ez.k (Ez.os x)) (λv h'=>eG Ez.k x v h' Ez.outs):=by kernel_rfl
def Vw(x:qj):Prop:=
 cP (BEq.beq x.c.jJ (0:Int)) (∃y:Unit,True/\((3:Int)=0/\yx)/\(rM x.c/\qB x.c/\vC x.c/\(@Fn.func (165: @FuncId)= @Fn.func (107: @FuncId)/\oz)/\True)/\vY x.c/\(lS x.d.n/\x.d.st+1=x.d.st/\x.d.fl=x.d.fl/\EH x.d)/\(x.d.n*193=x.d.n*193/\ ∀q:Nat,q<x.d.n*193->Cs.eff (gu (x.d.store 1 0 64 (iE x.c.jJ))) [] q=Cs.eff (gu x.d) [] q)/\True) (∃x_1:Int,Hd (0<=x_1/\x_1<18446744073709551616)/\(x_1=x.c.jJ/\True)/\True/\ ∀y:Unit,True-> ∃x_2:lN,Hd (x_2.d.ok/\x_2.k<x_2.d.n/\x_2.b.ok/\x_2.a+x_2.b.n<=64)/\(0=0/\(x_2.k:Int)=1/\(x_2.a:Int)=0/\(x_2.b.q=0/\x_2.b.n=64)/\True)/\((qO x_2.d.n x.d.n/\I4 x_2.d x.d)/\IY x_2.d x.d/\(x_2.b.N=64/\ ∀q:Nat,q<x_2.b.N->[Value.int .u8 (x_2.b.g q)]=[Value.int .u8 (iE x_1 q)])/\True)/\ ∀y_1:Unit,True-> ∃y_2:Unit,True/\((3:Int)=3/\(0:Int)=0/\True)/\(rM x.c/\qB x.c/\vC x.c/\(@Fn.func (165: @FuncId)= @Fn.func 165/\oz)/\True)/\vY x.c/\(qO x.d.n x_2.d.n/\x.d.st+1=x_2.d.st+1/\IZ x.d x_2.d)/\(x.d.n*193=x_2.d.n*193/\ ∀q:Nat,q<x.d.n*193->Cs.eff (gu (x.d.store 1 0 64 (iE x.c.jJ))) [] q=Cs.eff (gu (x_2.d.store x_2.k x_2.a x_2.b.n (λ(q_1:Nat)=>x_2.b.g (x_2.b.q+q_1)))) [] q)/\True)
theorem acP(x:qj):Vw x=wpF Tryz.prog atS tt (λ_ _ _ _=>[]) 200 5 24 (EC.args x) (hO EC.k (EC.os x)) (λv h'=>eG EC.k x v h' EC.outs):=by kernel_rfl
def Vx(x:qj):Prop:=
 cP (BEq.beq x.c.jJ (0:Int)) (∃y:Unit,True/\((1:Int)=0/\yx)/\(rM x.c/\qB x.c/\vC x.c/\(@Fn.func (212: @FuncId)= @Fn.func (165: @FuncId)/\oz)/\True)/\vY x.c/\(lS x.d.n/\x.d.st=x.d.st/\ite (1<x.d.n) (x.d.fl+1) x.d.fl=x.d.fl/\EH x.d)/\(x.d.n*193=x.d.n*193/\ ∀q:Nat,q<x.d.n*193->Cs.eff (gu (x.d.flush 1)) [] q=Cs.eff (gu x.d) [] q)/\True) (∃x_1:Qq,Hd (x_1.d.ok/\x_1.k<258)/\(0=0/\(x_1.k:Int)=1/\True)/\Vs x_1.d x.d/\ ∀y:Unit,True-> ∃y_1:Unit,True/\((1:Int)=1/\(0:Int)=0/\True)/\(rM x.c/\qB x.c/\vC x.c/\(@Fn.func (212: @FuncId)= @Fn.func 212/\oz)/\True)/\vY x.c/\(qO x.d.n x_1.d.n/\x.d.st=x_1.d.st/\ite (1<x.d.n) (x.d.fl+1) x.d.fl=ite (x_1.k<x_1.d.n) (x_1.d.fl+1) x_1.d.fl/\EG x.d x_1.d)/\(x.d.n*193=x_1.d.n*193/\ ∀q:Nat,q<x.d.n*193->Cs.eff (gu (x.d.flush 1)) [] q=Cs.eff (gu (x_1.d.flush x_1.k)) [] q)/\True)
theorem acQ(x:qj):Vx x=wpF Tryz.prog atS tt (λ_ _ _ _=>[]) 200 5 24 (ED.args x) (hO ED.k (ED.os x)) (λv h'=>eG ED.k x v h' ED.outs):=by kernel_rfl
def Vy(x:qj):Prop:=
 cP (BEq.beq x.c.jJ (0:Int)) (∃y:Unit,True/\((2:Int)=0/\yx)/\((x.c.now=x.c.now/\x.c.jJ=x.c.dur/\0=x.c.jJ/\lS x.c.t/\True)/\qB x.c/\vC x.c/\False/\True)/\aam x) (∃x_1:DevM,Hd x_1.ok/\(0=0/\True)/\Vs x_1 x.d/\ ∀y:Unit,True->True/\True/\ ∃y_1:Unit,True/\((2:Int)=2/\(0:Int)=0/\True)/\((x.c.now=x.c.now/\x.c.jJ=x.c.jJ/\(0:Int)=0/\lS x.c.t/\True)/\qB x.c/\vC x.c/\BH)/\aan x x_1)
theorem acR(x:qj):Vy x=wpF Tryz.prog atS tt (λ_ _ _ _=>[]) 200 5 24 (EF.args x) (hO EF.k (EF.os x)) (λv h'=>eG EF.k x v h' EF.outs):=by kernel_rfl
theorem Vz(p:Nat×Int)(hp:1<=p.1/\p.1<=4/\0<=p.2/\p.2<=1152921504606846976):agS p:=by
 unfold agS;simp only[aap,I7,BH];simp only[aZ,aV,aU,aA,aI,bQ,bF,aO,aK,ay,aX,aW,bT,bG,bH,bI,bU,bC,bJ,bn,eH,aH,aN,ah,ak,aB,aF,aC,aG];refine bf (λh=>absurd (aS h) (by omega)) λ_=>bf (λh=>absurd (aS h) (by omega)) λ_=>bf (λh=>absurd (aS h) (by omega)) λ_=>⟨by omega,?_⟩
 unfold IntKind.wrap;simp[IntKind.bits,IntKind.signed];omega
theorem VA(x:vW)(hx:x.c.ok/\x.t<x.c.t):ao6 x:=by
 obtain⟨⟨h1,h2,h3,h4,h5,h6⟩,ht⟩:=hx;have hs:=h6 x.t;unfold small at hs;unfold ao6;simp only[amf,rM,vC,BH,lS];simp only[aZ,aV,aU,aA,aI,bQ,bF,aO,aK,ay,aX,aW,bT,bG,bH,bI,bU,bC,bJ,bn,eH,aH,aN,ah,ak,aB,aF,aC,aG];refine bf (λh=>absurd (aS h) (by omega)) λ_=>bf (λh=> ?_) λh=>bf (λh2=> ?_) λh2=> ?_
 ·have h:=aS h
  exact⟨by rw[if_neg (by omega)],λq hq=>by simp;intro;omega,λq hq=>by rw[if_neg (by omega)]⟩
 ·have h:=aS h2
  exact⟨by rw[if_neg (by omega)],λq hq=>by simp;intro;omega,λq hq=>by rw[if_neg (by omega)]⟩
 ·have h:=aT h
  have h2:=aT h2;have hl:0<=x.l/\x.l<258:=by omega
  refine⟨by omega,by omega,by unfold I64;omega,by omega,by omega,hl,by omega,by rw[if_pos hl],λq hq=> ?_,λq hq=> ?_⟩
  ·simp only[Cs.eff,bV,dh,dB,dI,<-Bool.decide_and]
   by_cases e:q=x.l.toNat
   ·rw[if_pos e,show decide (x.l=(q:Int))=true by simp;omega,Bool.or_true]
   ·rw[if_neg e,show decide (x.l=(q:Int))=false by simp;omega,Bool.or_false]
  ·simp only[Cs.eff,bV,dh,dB,dI,<-Bool.decide_and]
   by_cases e:q=x.t
   ·subst e;rw[if_pos ⟨rfl,hl⟩,if_pos rfl]
   ·rw[if_neg (by omega),if_neg e]
theorem Qv(c:eX)(hx:c.ok/\c.jJ=0):Vt c:=by
 obtain⟨⟨h1,h2,h3,h4,h5,h6⟩,hc⟩:=hx;unfold U64 at*
 unfold Vt;simp only[lS,I7,qB,oz];simp only[aZ,aV,aU,aA,aI,bQ,bF,aO,aK,ay,aX,aW,bT,bG,bH,bI,bU,bC,bJ,bn,eH,aH,aN,ah,ak,aB,aF,aC,aG];refine bf (λh=>⟨by omega,?_,λq hq=>by rw[bg.2 hq];rfl⟩) λh=>absurd hc (aT h)
 unfold IntKind.wrap;simp[IntKind.bits,IntKind.signed];omega
set_option maxRecDepth 8000 in
theorem Qw(x:qj)(hx:x.ok):Vu x:=by
 obtain⟨hc,hd,hz,hn⟩:=hx;unfold Vu;simp only[aao,yx,rM,qB,aal,vY,lS,EH,vC,oz,aam,agR,Vs,qO,EG,BI,aan,I4,IY,IZ,I5];simp only[aZ,aV,aU,aA,aI,bQ,bF,aO,aK,ay,aX,aW,bT,bG,bH,bI,bU,bC,bJ,bn,eH,aH,aN,ah,ak,aB,aF,aC,aG];refine bf (λh=>absurd (by simpa using h) hz) λ_=>⟨⟨0,⟨Nat.zero_le _,λj hj=>absurd hj (Nat.not_lt_zero j)⟩,Int.natCast_zero⟩,λs hs=>bf (λh=> ?_) λh=> ?_⟩
 ·have h:=aS h
  refine⟨by omega,by omega,bf (λhl=> ?_) λhl=> ?_⟩
  ·refine⟨by omega,by omega,⟨x.d,s⟩,⟨hd,(show s<258 by omega)⟩,rfl,⟨⟨rfl,rfl,rfl,rfl,rfl,rfl⟩,rfl,λ_ _=>rfl⟩,.inl ⟨s,⟨by omega,hl,hs.2⟩,λq hq=> ?_,⟨rfl,rfl,rfl,rfl,rfl,rfl⟩,rfl,λ_ _=>rfl⟩⟩
   simp only[Cs.eff,bV,dh,dB,dI,<-Bool.decide_and];by_cases e:q=s
   ·rw[if_pos e,if_pos e]
   ·rw[if_neg e,if_neg e]
  ·refine⟨by unfold I64;omega,s+1,⟨by omega,λj hj=> ?_⟩,by omega,by omega⟩
   by_cases e:j=s
   ·subst e;exact hl
   ·exact hs.2 j (by omega)
 ·have h:=aT h
  have:s=258:=by omega
  subst this;exact⟨x.d,hd,⟨⟨rfl,rfl,rfl,rfl,rfl,rfl⟩,rfl,λ_ _=>rfl⟩,.inr ⟨hs.2,⟨rfl,rfl,rfl,rfl,rfl,rfl⟩,rfl,λ_ _=>rfl⟩⟩
theorem yA(v:Int)(k:Nat):0<=iE v k/\iE v k<256:=by
 unfold iE acB;split
 ·split
  ·omega
  ·exact mG _ _
 ·split
  ·exact mG _ _
  ·omega
theorem Qy(x:qj)(hx:x.ok):Vw x:=by
 obtain⟨hc,hd,hz,hn⟩:=hx;have hU:=hc.2.2.2.2.1;unfold U64 at hU;unfold Vw;simp only[yx,rM,qB,vC,oz,vY,lS,EH,qO,I4,IY,IZ,EG,BI,I5];simp only[aZ,aV,aU,aA,aI,bQ,bF,aO,aK,ay,aX,aW,bT,bG,bH,bI,bU,bC,bJ,bn,eH,aH,aN,ah,ak,aB,aF,aC,aG];refine bf (λh=>absurd (by simpa using h) hz) λ_=>⟨x.c.jJ,by omega,rfl,⟨x.d,1,0,⟨iE x.c.jJ,0,64,64⟩⟩,⟨hd,hn,⟨by simp,by simp,yA _⟩,by simp⟩,⟨rfl,rfl,rfl,rfl⟩,⟨⟨rfl,rfl,rfl,rfl,rfl,rfl⟩,⟨rfl,λ_ _=>rfl⟩,rfl,λ_ _=>rfl⟩,⟨rfl,rfl,rfl,rfl,rfl,rfl⟩,rfl,λq _=> ?_⟩
 simp only[aA]
theorem Qz(x:qj)(hx:x.ok):Vx x:=by
 obtain⟨hc,hd,hz,hn⟩:=hx;unfold Vx;simp only[yx,rM,qB,vC,oz,vY,lS,EH,Vs,qO,EG,BI,I4,IY,IZ,I5];simp only[aZ,aV,aU,aA,aI,bQ,bF,aO,aK,ay,aX,aW,bT,bG,bH,bI,bU,bC,bJ,bn,eH,aH,aN,ah,ak,aB,aF,aC,aG];exact bf (λh=>absurd (by simpa using h) hz) λ_=>⟨⟨x.d,1⟩,⟨hd,(show 1<258 by omega)⟩,rfl,⟨⟨rfl,rfl,rfl,rfl,rfl,rfl⟩,rfl,λ_ _=>rfl⟩,⟨rfl,rfl,rfl,rfl,rfl,rfl⟩,rfl,λ_ _=>rfl⟩
theorem QA(x:qj)(hx:x.ok):Vy x:=by
 obtain⟨hc,hd,hz,hn⟩:=hx;unfold Vy;simp only[yx,lS,qB,vC,aam,Vs,BH,aan,vY,qO,BI,I4,IY,IZ,EG,I5];simp only[aZ,aV,aU,aA,aI,bQ,bF,aO,aK,ay,aX,aW,bT,bG,bH,bI,bU,bC,bJ,bn,eH,aH,aN,ah,ak,aB,aF,aC,aG];exact bf (λh=>absurd (by simpa using h) hz) λ_=>⟨x.d,hd,⟨⟨rfl,rfl,rfl,rfl,rfl,rfl⟩,rfl,λ_ _=>rfl⟩,⟨rfl,rfl,rfl,rfl,rfl,rfl⟩,rfl,λ_ _=>rfl⟩
theorem amg:bY Tryz.prog 23 Ey:=dL dD mixed dP (λ_ _ _ _ _=>[]) 200 5 (λ_=>rfl) (λ_=>rfl) λx hx=>Eq.mp (acN x) (Qv x (aZ.1 hx))
theorem amh:bY Tryz.prog 24 Ez:=jf dD mixed KC agQ 200 5 (λ_=>rfl) (λ_=>⟨λ_=>rfl,λ_=>rfl,trivial⟩) λx hx=>Eq.mp (acO x) (Qw x (aZ.1 hx))
theorem ami:bY Tryz.prog 24 EC:=dL dD mixed KC (λ_ _ _ _ _=>[]) 200 5 (λ_=>rfl) (λ_=>rfl) λx hx=>Eq.mp (acP x) (Qy x (aZ.1 hx))
theorem amj:bY Tryz.prog 24 ED:=dL dD mixed KC (λ_ _ _ _ _=>[]) 200 5 (λ_=>rfl) (λ_=>rfl) λx hx=>Eq.mp (acQ x) (Qz x (aZ.1 hx))
theorem amk:bY Tryz.prog 24 EF:=dL dD mixed KC (λ_ _ _ _ _=>[]) 200 5 (λ_=>rfl) (λ_=>rfl) λx hx=>Eq.mp (acR x) (QA x (aZ.1 hx))
theorem kX{x y:Prop}:cP true x y=x:=rfl
theorem iy{x y:Prop}:cP false x y=y:=rfl
def noA{X:Type}:X->FuncId->qR:=λ_ _ _ _ _=>[]
def boo(b:Bool):AV:= .lit (.bool b)
def ig:AV:= .lit (.slice none 0 0)
def ql(X:Type)(args:X->List AV)(k:Nat)(l:X->List PO)(pre:X->Prop)(ret:X->AV)(m:Nat)(l':X->List PO):jg:=
 {X:=X,args:=args,k:=k,l:=l,pre:=pre,outs:=[{Y:=Unit,post:=λ_ _=>True,ret:=λx _=>ret x,m:=m,l:=λx _=>l' x}]}
def spn(c:Int):Int:=if c=0 then 1 else if c=1 then 2 else if c=2 then 4 else if c=3 then 8 else 0
def cpc(c:Int):Int:=if c=0 then 28 else if c=1 then 91 else if c=2 then 217 else if c=3 then 469 else 0
def ned(n:Int):Int:=if n<0 then-1 else if n<=28 then 0 else if n<=91 then 1 else if n<=217 then 2 else if n<=469 then 3 else-1
def zG:Ctr:=det Int (λc=>[i64 c]) 0 (λ_=>[]) (λ_=>True) (λc=>i64 (spn c)) 0 (λ_=>[])
def ao7:Ctr:=det Int (λc=>[i64 c]) 0 (λ_=>[]) (λ_=>True) (λc=>i64 (cpc c)) 0 (λ_=>[])
def VB:Ctr:=det Int (λc=>[i64 c]) 0 (λ_=>[]) (λ_=>True) (λc=>i64 (ned c)) 0 (λ_=>[])
def slb(l:Int):Int:=if l<2\/258<=l then-1 else(l-2)/8
def QB:Ctr:=det Int (λk=>[i64 k]) 0 (λ_=>[]) (λ_=>True) (λk=>i64 (if k<0\/32<=k then-1 else 2+k*8)) 0 (λ_=>[])
def vZ:Ctr:=det Int (λk=>[i64 k]) 0 (λ_=>[]) (λ_=>True) (λk=>i64 (slb k)) 0 (λ_=>[])
structure iL where
 k:Nat
 c:Int
def zH(x:iL)(n:Nat):Cs:= .row 1 n (λi=>[.int .i64 (2+x.k*8+i*spn x.c)]) []
def wo:Ctr:={X:=iL,args:=λx=>[i64 x.k,i64 x.c],k:=0,os:=λ_=>[],pre:=λx=>Hd (x.k<32),outs:=[
 {Y:=Unit,post:=λx _=>Hd (spn x.c=0),ret:=λ_ _=>ig,m:=0,os:=λ_ _=>[]},
 {Y:=Unit,post:=λx _=>Hd (spn x.c≠0),ret:=λx _=> .slW 0 0 1 (8/spn x.c).toNat,m:=1,os:=λx _=>[.room 3 (zH x (8/spn x.c).toNat)]}]}
def aaq(x:iL):FuncId->qR:=λf=>bif Nat.beq f 73 then(λb _ _=>bif Nat.beq b 0 then [
 {σ:=Unit,fr:=λ_=>[(21,i64 0),(7,ig)],ob:=λ_=>[],inv:=λ_=>Hd (spn x.c≠0),meas:=λ_=>9,test:=λfr _=>(match SE.look fr 7 with| .lit _=>true|_=>false)},
 {σ:=Nat,fr:=λi=>[(21,i64 i),(7,.slW 0 0 1 i)],ob:=λi=>[(0,some (.room 3 (zH x i)))],inv:=λi=>Hd (spn x.c≠0/\1<=i/\i<=(8/spn x.c).toNat),meas:=λi=>8-i,nx:=1,test:=λfr _=>(match SE.look fr 7 with| .lit _=>false|_=>true)}]else [])elseλ_ _ _=>[]
structure agT where
 g:Nat->Int
 n:Nat
 v:Int
def agT.os(x:agT):List dA:=[.room 3 (.row 1 x.n (λi=>[.int .i64 (x.g i)]) [])]
def aqU:Ctr:={X:=agT,args:=λx=>[.slW 0 0 1 x.n,i64 x.v],k:=1,os:=agT.os,pre:=λx=>Hd (x.n<1000),outs:=[
 {Y:=Nat,post:=λx i=>Hd (i<x.n/\x.g i=x.v/\ ∀j,j<i->x.g j≠x.v),ret:=λ_ i=>i64 i,m:=1,os:=λx _=>x.os},
 {Y:=Unit,post:=λx _=>Hd (∀j,j<x.n->x.g j≠x.v),ret:=λ_ _=>i64 (-1),m:=1,os:=λx _=>x.os}]}
def atT(x:agT):FuncId->qR:=λf=>bif Nat.beq f 173 then(λb _ _=>bif Nat.beq b 0 then [
 {σ:=Nat,fr:=λi=>[(8,i64 i)],ob:=λ_=>[],inv:=λi=>Hd (i<=x.n/\ ∀j,j<i->x.g j≠x.v),meas:=λi=>x.n-i}]else [])elseλ_ _ _=>[]
def aml:jv:=[(113,ctrT zG)]
def tblS2:jv:=[(115,ctrT ao7)]
def tblS3:jv:=[(113,ctrT zG),(131,ctrT QB)]
def VD(a:agT):Prop:=(a.n=a.n/\ ∀q:Nat,q<a.n->[Value.int .i64 (a.g q)]=[Value.int .i64 (a.g q)])/\True
def aqV:Prop:=Value.slice none 0 0=Value.slice none 0 0/\True
def amm(a:Int):Prop:=(∃y_2:Unit,Hd (spn a=0)/\aqV)\/ ∃y_2:Unit,Hd (spn a≠(0:Int))/\False/\False/\True
def amn(a:Int)(b:Nat):Prop:=Hd (spn a≠(0:Int)/\1<=b/\b<=Int.toNat ((8:Int)/spn a))
def aqW(a:Int):Prop:= ∃y:Unit,True/\ite (a<0\/32<=a) (-(1:Int)) (2+a*8)=(-(1:Int))/\True
def agU(c:Int):Prop:=
 cP (decide (c<0)) (∃y:Unit,True/\spn c=0/\True) (cP (decide (c>(3:Int))) (∃y:Unit,True/\spn c=0/\True) (0<=c/\ ∃y:Unit,True/\spn c=IntKind.wrap .i64 (1* @HPow.hPow Int Nat Int (@instHPow Int Nat (@instPowNat Int @Int.instNatPow)) (2:Int) (@Min.min Nat @instMinNat (Int.toNat c) 64))/\True))
theorem agV(c:Int):agU c=wpF Tryz.prog [] tt (noA c) 200 5 113 (zG.args c) (hO zG.k (zG.os c)) (λv h'=>eG zG.k c v h' zG.outs):=by kernel_rfl
def aqX(c:Int):Prop:=
 ∃x:Int,True/\(x=c/\True)/\True/\ ∀y:Unit,True->cP (decide (spn x>(0:Int))) (I64 (spn x-1)/\I64 ((spn x-1)*63)/\I64 (28+(spn x-1)*63)/\ ∃y_1:Unit,True/\cpc c=28+(spn x-1)*63/\True) (∃y_1:Unit,True/\cpc c=0/\True)
theorem amo(c:Int):aqX c=wpF Tryz.prog aml tt (noA c) 200 5 115 (ao7.args c) (hO ao7.k (ao7.os c)) (λv h'=>eG ao7.k c v h' ao7.outs):=by kernel_rfl
def agW(c:Int):Prop:=
 cP (decide (c<0)) (∃y:Unit,True/\ned c=(-(1:Int))/\True) (∃x:Int,True/\(x=0/\True)/\True/\ ∀y:Unit,True->cP (decide (cpc x>=c)) (∃y_1:Unit,True/\ned c=0/\True) (I64 (1:Int)/\ ∃x_1:Int,True/\(x_1=1/\True)/\True/\ ∀y_1:Unit,True->cP (decide (cpc x_1>=c)) (∃y_2:Unit,True/\ned c=1/\True) (I64 (2:Int)/\ ∃x_2:Int,True/\(x_2=2/\True)/\True/\ ∀y_2:Unit,True->cP (decide (cpc x_2>=c)) (∃y_3:Unit,True/\ned c=2/\True) (I64 (3:Int)/\ ∃x_3:Int,True/\(x_3=3/\True)/\True/\ ∀y_3:Unit,True->cP (decide (cpc x_3>=c)) (∃y_4:Unit,True/\ned c=3/\True) (I64 (4:Int)/\ ∃y_4:Unit,True/\ned c=(-(1:Int))/\True)))))
theorem agX(c:Int):agW c=wpF Tryz.prog tblS2 tt (noA c) 200 5 201 (VB.args c) (hO VB.k (VB.os c)) (λv h'=>eG VB.k c v h' VB.outs):=by kernel_rfl
def agY(c:Int):Prop:=
 cP (decide (c<0)) (aqW c) (cP (decide (c>=(32:Int))) (aqW c) (I64 (c*8)/\I64 (2+c*8)/\ ∃y:Unit,True/\ite (c<0\/32<=c) (-(1:Int)) (2+c*8)=2+c*8/\True))
theorem agZ(c:Int):agY c=wpF Tryz.prog [] tt (noA c) 200 5 131 (QB.args c) (hO QB.k (QB.os c)) (λv h'=>eG QB.k c v h' QB.outs):=by kernel_rfl
def KD(c:Int):Prop:=
 cP (decide (c<2)) (∃y:Unit,True/\slb c=(-(1:Int))/\True) (cP (decide (c>=(258:Int))) (∃y:Unit,True/\slb c=(-(1:Int))/\True) (I64 (c-2)/\((8:Int)=0->False)/\I64 (Int.tdiv (c-2) (8:Int))/\ ∃y:Unit,True/\slb c=Int.tdiv (c-2) (8:Int)/\True))
theorem VE(c:Int):KD c=wpF Tryz.prog [] tt (noA c) 200 5 172 (vZ.args c) (hO vZ.k (vZ.os c)) (λv h'=>eG vZ.k c v h' vZ.outs):=by kernel_rfl
def KE(x:iL):Prop:=
 ∃x_1:Int,True/\(x_1=x.c/\True)/\True/\ ∀y:Unit,True-> ∃x_2:Int,True/\(x_2=(x.k:Int)/\True)/\True/\ ∀y_1:Unit,True->cP (BEq.beq (spn x_1) (0:Int)) (amm x.c) (cP (decide (ite (x_2<0\/32<=x_2) (-(1:Int)) (2+x_2*8)<0)) (amm x.c) ((spn x_1=0->False)/\I64 (Int.tdiv (8:Int) (spn x_1))/\(∃s:Unit,Hd (spn x.c≠(0:Int))/\True/\((0:Int)=0/\aqV)/\True)/\(∀s:Unit,Hd (spn x.c≠(0:Int))->cP (decide (0<Int.tdiv (8:Int) (spn x_1))) (I64 (0*spn x_1)/\I64 (ite (x_2<0\/32<=x_2) (-(1:Int)) (2+x_2*8)+0*spn x_1)/\(2*(0+1)+1000)*8<=281474976710656/\I64 (1:Int)/\ ∃s_1:Nat,amn x.c s_1/\8-s_1<9/\((s_1:Int)=1/\(0=0/\s_1=1)/\True)/\(s_1=0+List.length [List.take 1 [Value.int .i64 (ite (x_2<0\/32<=x_2) (-(1:Int)) (2+x_2*8)+0*spn x_1)]]/\ ∀q:Nat,q<s_1->[Value.int .i64 (2+(x.k:Int)*8+(q:Int)*spn x.c)]=Cs.eff (λ(x_3:Nat)=>[]) [(0,List.take 1 [Value.int .i64 (ite (x_2<0\/32<=x_2) (-(1:Int)) (2+x_2*8)+0*spn x_1)])] q)/\True) (amm x.c))/\(∀s:Nat,amn x.c s->cP (decide ((s:Int)<Int.tdiv (8:Int) (spn x_1))) (I64 ((s:Int)*spn x_1)/\I64 (ite (x_2<0\/32<=x_2) (-(1:Int)) (2+x_2*8)+(s:Int)*spn x_1)/\s=s/\List.all [List.take 1 [Value.int .i64 (ite (x_2<0\/32<=x_2) (-(1:Int)) (2+x_2*8)+(s:Int)*spn x_1)]] (λ(l:List Value)=>Nat.beq (List.length l) 1&&List.all l Value.oneCell')=true/\(2*(s+1)+1000)*8<=281474976710656/\I64 ((s:Int)+1)/\ ∃s_1:Nat,amn x.c s_1/\8-s_1<8-s/\((s_1:Int)=(s:Int)+1/\(0=0/\s_1=s+1)/\True)/\
 (s_1=s+List.length [List.take 1 [Value.int .i64 (ite (x_2<0\/32<=x_2) (-(1:Int)) (2+x_2*8)+(s:Int)*spn x_1)]]/\ ∀q:Nat,q<s_1->[Value.int .i64 (2+(x.k:Int)*8+(q:Int)*spn x.c)]=Cs.eff (λ(i:Nat)=>[Value.int .i64 (2+(x.k:Int)*8+(i:Int)*spn x.c)]) [(s,List.take 1 [Value.int .i64 (ite (x_2<0\/32<=x_2) (-(1:Int)) (2+x_2*8)+(s:Int)*spn x_1)])] q)/\True) ((∃y_2:Unit,Hd (spn x.c=0)/\False/\True)\/ ∃y_2:Unit,Hd (spn x.c≠(0:Int))/\(0=0/\Int.toNat ((8:Int)/spn x.c)=s)/\(Int.toNat ((8:Int)/spn x.c)=s/\ ∀q:Nat,q<Int.toNat ((8:Int)/spn x.c)->[Value.int .i64 (2+(x.k:Int)*8+(q:Int)*spn x.c)]=[Value.int .i64 (2+(x.k:Int)*8+(q:Int)*spn x.c)])/\True))/\True))
theorem VF(x:iL):KE x=wpF Tryz.prog tblS3 tt (aaq x) 200 5 73 (wo.args x) (hO wo.k (wo.os x)) (λv h'=>eG wo.k x v h' wo.outs):=by kernel_rfl
def aqY(x:agT):Prop:=
 (∃s:Nat,Hd (s<=x.n/\ ∀j:Nat,j<s->x.g j≠x.v)/\True/\((s:Int)=0/\True)/\VD x)/\(∀s:Nat,Hd (s<=x.n/\ ∀j:Nat,j<s->x.g j≠x.v)->cP (decide ((s:Int)<(x.n:Int))) ((0<=(s:Int)/\(s:Int)<(x.n:Int))/\0+s<x.n/\cP (BEq.beq x.v (x.g (0+s))) ((∃y:Nat,Hd (y<x.n/\x.g y=x.v/\ ∀j:Nat,j<y->x.g j≠x.v)/\(y:Int)=(s:Int)/\VD x)\/ ∃y:Unit,Hd (∀j:Nat,j<x.n->x.g j≠x.v)/\(-(1:Int))=(s:Int)/\VD x) (I64 ((s:Int)+1)/\ ∃s_1:Nat,Hd (s_1<=x.n/\ ∀j:Nat,j<s_1->x.g j≠x.v)/\x.n-s_1<x.n-s/\((s_1:Int)=(s:Int)+1/\True)/\VD x)) ((∃y:Nat,Hd (y<x.n/\x.g y=x.v/\ ∀j:Nat,j<y->x.g j≠x.v)/\(y:Int)=(-(1:Int))/\VD x)\/ ∃y:Unit,Hd (∀j:Nat,j<x.n->x.g j≠x.v)/\(-(1:Int))=(-(1:Int))/\VD x))/\True
theorem amq(x:agT):aqY x=wpF Tryz.prog [] tt (atT x) 200 5 173 (aqU.args x) (hO aqU.k (aqU.os x)) (λv h'=>eG aqU.k x v h' aqU.outs):=by kernel_rfl
theorem dM(c:Int):(c=0/\spn c=1/\cpc c=28)\/(c=1/\spn c=2/\cpc c=91)\/(c=2/\spn c=4/\cpc c=217)\/(c=3/\spn c=8/\cpc c=469)\/((c<0\/3<c)/\spn c=0/\cpc c=0):=by
 by_cases h0:c=0
 ·subst h0;simp[spn,cpc]
 by_cases h1:c=1
 ·subst h1;simp[spn,cpc]
 by_cases h2:c=2
 ·subst h2;simp[spn,cpc]
 by_cases h3:c=3
 ·subst h3;simp[spn,cpc]
 simp[spn,cpc,h0,h1,h2,h3];omega
theorem VG(c:Int):agU c:=by
 unfold agU;simp only[aZ,aV,aU,aA,aI,bQ,bF,aO,aK,ay,aX,aW,bT,bG,bH,bI,bU,bC,bJ,bn,eH,aH,aN,ah,ak,aB,aF,aC,aG,qN,decide_eq_true_eq,decide_eq_false_iff_not];refine⟨λh=> ?_,λh=>⟨λh2=> ?_,λh2=>⟨by omega,?_⟩⟩⟩
 ·rcases dM c with h'|h'|h'|h'|h'<;>omega
 ·rcases dM c with h'|h'|h'|h'|h'<;>omega
 ·have:c=0\/c=1\/c=2\/c=3:=by omega
  rcases this with rfl|rfl|rfl|rfl<;>decide
theorem acS(c:Int):aqX c:=by
 unfold aqX;simp only[aZ,aV,aU,aA,aI,bQ,bF,aO,aK,ay,aX,aW,bT,bG,bH,bI,bU,bC,bJ,bn,eH,aH,aN,ah,ak,aB,aF,aC,aG,qN,decide_eq_true_eq,decide_eq_false_iff_not];unfold I64;rcases dM c with h'|h'|h'|h'|h'<;>omega
theorem VH(c:Int):agW c:=by
 unfold agW;simp only[aZ,aV,aU,aA,aI,bQ,bF,aO,aK,ay,aX,aW,bT,bG,bH,bI,bU,bC,bJ,bn,eH,aH,aN,ah,ak,aB,aF,aC,aG,qN,decide_eq_true_eq,decide_eq_false_iff_not];unfold I64 ned;have e:cpc 0=28/\cpc 1=91/\cpc 2=217/\cpc 3=469:=⟨rfl,rfl,rfl,rfl⟩;obtain⟨e0,e1,e2,e3⟩:=e;rw[e0,e1,e2,e3];grind
theorem VI(c:Int):agY c:=by
 unfold agY;simp only[aqW];simp only[aZ,aV,aU,aA,aI,bQ,bF,aO,aK,ay,aX,aW,bT,bG,bH,bI,bU,bC,bJ,bn,eH,aH,aN,ah,ak,aB,aF,aC,aG,qN,decide_eq_true_eq,decide_eq_false_iff_not];unfold I64;grind
theorem KF(c:Int):KD c:=by
 unfold KD;simp only[aZ,aV,aU,aA,aI,bQ,bF,aO,aK,ay,aX,aW,bT,bG,bH,bI,bU,bC,bJ,bn,eH,aH,aN,ah,ak,aB,aF,aC,aG,qN,decide_eq_true_eq,decide_eq_false_iff_not];refine⟨λh=>by unfold slb;rw[if_pos (by omega)],λh=>⟨λh2=>by unfold slb;rw[if_pos (by omega)],λh2=> ?_⟩⟩;have e:(c-2).tdiv 8=(c-2)/8:=Int.tdiv_eq_ediv_of_nonneg (by omega);rw[e];exact⟨by unfold I64;omega,by decide,by unfold I64;omega,by unfold slb;rw[if_neg (by omega)]⟩
theorem KG(x:iL)(hx:x.k<32):KE x:=by
 unfold KE;simp only[amm,aqV,amn];simp only[aZ,aV,aU,aA,aI,bQ,bF,aO,aK,ay,aX,aW,bT,bG,bH,bI,bU,bC,bJ,bn,eH,aH,aN,ah,ak,aB,aF,aC,aG];have hf:(if (x.k:Int)<0\/32<=(x.k:Int)then(-1:Int)else 2+x.k*8)=2+x.k*8:=if_neg (by omega);rw[hf];have hs:=dM x.c;have hdiv:spn x.c≠0->Int.tdiv 8 (spn x.c)=8/spn x.c/\1<=8/spn x.c/\8/spn x.c<=8/\0<spn x.c/\spn x.c<=8/\(8/spn x.c)*spn x.c=8:=λh=>by
  rcases hs with h'|h'|h'|h'|h'<;>obtain⟨_,e,_⟩:=h'<;>rw[e]<;>first|decide|exact(h e).elim
 refine bf (λh=> .inl (by simpa using h)) λh=>bf (λh2=>absurd (aS h2) (by omega)) λ_=> ?_
 have hz:spn x.c≠0:=by simpa using h
 obtain⟨e1,e2,e3,e4,e5,e6⟩:=hdiv hz
 have hm: ∀s:Nat,(s:Int)<=8->(s:Int)*spn x.c<=64/\0<=(s:Int)*spn x.c:=λs hs=>⟨by
  have:=Int.mul_le_mul hs e5 (by omega) (by omega:(0:Int)<=8);omega,Int.mul_nonneg (by omega) (by omega)⟩
 rw[e1];refine⟨hz,by unfold I64;omega,hz,λ_=>bf (λ_=> ?_) λh=>absurd (aT h) (by omega),λs hs=>bf (λh=> ?_) λh=> ?_⟩
 ·refine⟨by unfold I64;omega,by unfold I64;omega,by omega,by unfold I64;omega,1,⟨hz,by omega,by omega⟩,by omega,⟨rfl,rfl⟩,rfl,λq hq=> ?_⟩
  have:q=0:=by omega
  subst this;simp[Cs.eff]
 ·have h:=aS h
  obtain⟨_,h1,h2⟩:=hs;obtain⟨m1,m2⟩:=hm s (by omega);refine⟨by unfold I64;omega,by unfold I64;omega,rfl,by omega,by unfold I64;omega,s+1,⟨hz,by omega,by omega⟩,by omega,⟨by omega,rfl⟩,rfl,λq hq=> ?_⟩;simp only[Cs.eff,bV,dh,dB,dI,<-Bool.decide_and];by_cases e:q=s
  ·subst e;rw[if_pos rfl];rfl
  ·rw[if_neg e]
 ·have h:=aT h
  exact .inr ⟨hz,by omega⟩
theorem acT(x:agT)(hx:x.n<1000):aqY x:=by
 unfold aqY;simp only[VD];simp only[aZ,aV,aU,aA,aI,bQ,bF,aO,aK,ay,aX,aW,bT,bG,bH,bI,bU,bC,bJ,bn,eH,aH,aN,ah,ak,aB,aF,aC,aG];refine⟨⟨0,⟨Nat.zero_le _,λj hj=>absurd hj (Nat.not_lt_zero j)⟩,Int.natCast_zero⟩,λs hs=>bf (λh=> ?_) λh=> ?_⟩
 ·have h:=aS h
  refine⟨by omega,by omega,bf (λe=> .inl ⟨s,⟨by omega,(beq_iff_eq.1 e).symm,hs.2⟩,rfl⟩) λe=>⟨by unfold I64;omega,s+1,⟨by omega,λj hj=> ?_⟩,by omega,by omega⟩⟩;by_cases e':j=s
  ·subst e';intro h';simp[h']at e
  ·exact hs.2 j (by omega)
 ·have h:=aT h
  exact .inr λj hj=>hs.2 j (by omega)
theorem ny:bY Tryz.prog 113 zG:=dL dD mixed dY.nil noA 200 5 (λ_=>rfl) (λ_=>rfl) λx _=>Eq.mp (agV x) (VG x)
theorem ao8:bY Tryz.prog 115 ao7:=dL dD mixed (.cons (bM ny) .nil) noA 200 5 (λ_=>rfl) (λ_=>rfl) λx _=>Eq.mp (amo x) (acS x)
theorem ag0:bY Tryz.prog 201 VB:=dL dD mixed (.cons (bM ao8) .nil) noA 200 5 (λ_=>rfl) (λ_=>rfl) λx _=>Eq.mp (agX x) (VH x)
theorem ag1:bY Tryz.prog 131 QB:=dL dD mixed dY.nil noA 200 5 (λ_=>rfl) (λ_=>rfl) λx _=>Eq.mp (agZ x) (VI x)
theorem ag2:bY Tryz.prog 172 vZ:=dL dD mixed dY.nil noA 200 5 (λ_=>rfl) (λ_=>rfl) λx _=>Eq.mp (VE x) (KF x)
theorem QC:bY Tryz.prog 73 wo:=jf dD mixed (.cons (bM ny) (.cons (bM ag1) .nil)) aaq 200 5 (λ_=>rfl) (λ_=>⟨λ_=>rfl,λ_=>rfl,trivial⟩) λx hx=>Eq.mp (VF x) (KG x (aZ.1 hx))
theorem atU:bY Tryz.prog 173 aqU:=jf dD mixed .nil atT 200 5 (λ_=>rfl) (λ_=>⟨λ_=>rfl,λ_=>rfl,trivial⟩) λx hx=>Eq.mp (amq x) (acT x (aZ.1 hx))
structure ZPool where
 n:Nat
 cls:Nat->Int
 tk:Nat->Nat->Bool
 cnt:Nat->Int
noncomputable def gy(p:ZPool)(q:Nat):List Value:=hide [if q%10=0 then .int .i64 (p.cls (q/10))else if q%10=9 then .int .i64 (p.cnt (q/10))else .bool (p.tk (q/10) (q%10-1))]
theorem ku(p:ZPool)(q:Nat):gy p q=[if q%10=0 then .int .i64 (p.cls (q/10))else if q%10=9 then .int .i64 (p.cnt (q/10))else .bool (p.tk (q/10) (q%10-1))]:=iJ _
namespace ZPool
def ok(p:ZPool):Prop:=1<=p.n/\p.n<=32/\ ∀i,i<p.n-> -1<=p.cls i/\p.cls i<=3/\0<=p.cnt i/\p.cnt i<=8
noncomputable def VJ(p:ZPool):dA:= .cells 177 (.row 1 (p.n*10) (gy p) [])
noncomputable def os(p:ZPool):List dA:=[.cells 245 (.av [.slE 1 0 10 p.n p.n]),p.VJ]
def many(c:Int):Nat:=(8/spn c).toNat
def full(p:ZPool)(c:Int)(i:Nat):Prop:=p.cls i=c-> ∀k,k<many c->p.tk i k=true
def takes(p:ZPool)(c:Int)(i k:Nat):Prop:=i<p.n/\k<many c/\p.tk i k=(if p.cls i=c then false else p.tk i k)/\
 ((p.cls i=c/\(∀j,j<k->p.tk i j=true)/\ ∀j,j<i->p.full c j)\/(p.cls i= -1/\k=0/\(∀j,j<p.n->p.full c j)/\ ∀j,j<i->p.cls j≠ -1))
def take(p:ZPool)(c:Int)(i k:Nat):ZPool:={p with cls:=λj=>if j=i then c else p.cls j,tk:=λj q=>if j=i/\q=k then true else p.tk j q,cnt:=λj=>if j=i then p.cnt j+1 else p.cnt j}
def give(p:ZPool)(i k:Nat):ZPool:={p with cls:=λj=>if j=i/\p.cnt j=1 then-1 else p.cls j,tk:=λj q=>if j=i/\q=k then false else p.tk j q,cnt:=λj=>if j=i then p.cnt j-1 else p.cnt j}
end ZPool
def dV(n i:Nat):ZPool:=⟨n,λj=>if j<i then-1 else 0,λ_ _=>false,λ_=>0⟩
noncomputable def ao9(n:Nat):FuncId->qR:=λf=>bif Nat.beq f 82 then(λb _ _=>bif Nat.beq b 0 then [
 {σ:=Nat,fr:=λi=>[(22,i64 i)],ob:=λi=>[(0,some (dV n i).VJ)],inv:=λi=>i<=n,meas:=λi=>n-i}]else [])elseλ_ _ _=>[]
structure yB where
 p:ZPool
 i:Nat
noncomputable def VK:Ctr:={X:=yB,args:=λx=>[.nP 0 x.i 10 0],k:=1,os:=λx=>[x.p.VJ],pre:=λx=>Hd (x.p.ok/\x.i<x.p.n/\0<=x.p.cls x.i),outs:=[
 {Y:=Nat,post:=λx k=>Hd (k<ZPool.many (x.p.cls x.i)/\x.p.tk x.i k=false/\ ∀j,j<k->x.p.tk x.i j=true),ret:=λ_ k=>i64 k,m:=1,os:=λx _=>[x.p.VJ]},
 {Y:=Unit,post:=λx _=>Hd (∀k,k<ZPool.many (x.p.cls x.i)->x.p.tk x.i k=true),ret:=λ_ _=>i64 (-1),m:=1,os:=λx _=>[x.p.VJ]}]}
noncomputable def apa(x:yB):FuncId->qR:=λf=>bif Nat.beq f 276 then(λb _ _=>bif Nat.beq b 0 then [
 {σ:=Nat,fr:=λk=>[(10,i64 k)],ob:=λ_=>[],inv:=λk=>Hd (k<=ZPool.many (x.p.cls x.i)/\ ∀j,j<k->x.p.tk x.i j=true),meas:=λk=>8-k}]else [])elseλ_ _ _=>[]
structure lT where
 p:ZPool
 c:Int
noncomputable def ag3:jg:={X:=lT,args:=λx=>[.ptr 0 0,i64 x.c],k:=1,l:=λx=>[.m x.p.os],pre:=λx=>Hd x.p.ok,outs:=[
 {Y:=Unit,post:=λx _=>Hd (spn x.c=0),ret:=λ_ _=> .tup [i64 0,i64 1],m:=1,l:=λx _=>[.m x.p.os]},
 {Y:=Unit,post:=λx _=>Hd (spn x.c≠0/\ ∀i,i<x.p.n->x.p.cls i≠ -1/\x.p.full x.c i),ret:=λ_ _=> .tup [i64 0,i64 4],m:=1,l:=λx _=>[.m x.p.os]},
 {Y:=Nat×Nat,post:=λx y=>Hd (spn x.c≠0/\x.p.takes x.c y.1 y.2),ret:=λx y=> .tup [i64 (2+y.1*8+y.2*spn x.c),i64 0],m:=1,l:=λx y=>[.m (x.p.take x.c y.1 y.2).os]}]}
noncomputable def apb(x:lT):FuncId->qR:=λf=>bif Nat.beq f 242 then(λb _ _=>
 bif Nat.beq b 0 then [{σ:=Nat,fr:=λi=>[(14,i64 i)],ob:=λ_=>[],inv:=λi=>Hd (i<=x.p.n/\ ∀j,j<i->x.p.full x.c j),meas:=λi=>x.p.n-i}]else
 bif Nat.beq b 2 then [{σ:=Nat,fr:=λi=>[(39,i64 i)],ob:=λ_=>[],inv:=λi=>Hd (i<=x.p.n/\(∀j,j<x.p.n->x.p.full x.c j)/\ ∀j,j<i->x.p.cls j≠ -1),meas:=λi=>x.p.n-i}]else [])elseλ_ _ _=>[]
noncomputable def VL:Ctr:={X:=lT,args:=λx=>[.ptr 0 0,i64 x.c],k:=2,os:=λx=>x.p.os,pre:=λx=>Hd (x.p.ok/\spn x.c≠0),outs:=[
 {Y:=Unit,post:=λx _=>Hd (∀i,i<x.p.n->x.p.cls i≠ -1/\x.p.full x.c i),ret:=λ_ _=> .tup [i64 0,i64 0,boo false],m:=2,os:=λx _=>x.p.os},
 {Y:=Nat×Nat,post:=λx y=>Hd (x.p.takes x.c y.1 y.2),ret:=λ_ y=> .tup [i64 y.1,i64 y.2,boo true],m:=2,os:=λx _=>x.p.os}]}
structure EI where
 p:ZPool
 c:Int
 i:Nat
 k:Nat
noncomputable def EJ:Ctr:=det EI (λx=>[.nP 0 x.i 10 0,i64 x.c,i64 x.k]) 1 (λx=>[x.p.VJ]) (λx=>Hd (x.p.ok/\x.i<x.p.n/\x.k<8)) (λ_=> .tup []) 1 (λx=>[(x.p.take x.c x.i x.k).VJ])
structure fM where
 p:ZPool
 i:Nat
 k:Nat
def fM.ok(x:fM):Prop:=x.p.ok/\x.i<x.p.n/\0<=x.p.cls x.i/\x.k<ZPool.many (x.p.cls x.i)/\x.p.tk x.i x.k=true
def fM.line(x:fM):Int:=2+x.i*8+x.k*spn (x.p.cls x.i)
noncomputable def atC:Ctr:=det fM (λx=>[.ptr 0 0,i64 x.line]) 2 (λx=>x.p.os) (λx=>Hd x.ok) (λx=> .tup [.nP 1 x.i 10 0,i64 x.k,boo true]) 2 (λx=>x.p.os)
noncomputable def ag4:jg:=ql fM (λx=>[.ptr 0 0,i64 x.line]) 1 (λx=>[.m x.p.os]) (λx=>Hd x.ok) (λ_=>i64 0) 1 (λx=>[.m (x.p.give x.i x.k).os])
noncomputable def ofP:jg:=ql fM (λx=>[.ptr 0 0,i64 x.line]) 1 (λx=>[.m x.p.os]) (λx=>Hd x.ok) (λx=> .tup [i64 (x.p.cls x.i),boo true]) 1 (λx=>[.m x.p.os])
noncomputable def tblP0:jv:=[(276,ctrT VK)]
noncomputable def tblP1:jv:=[(113,ctrT zG),(131,ctrT QB),(242,ctrT VL),(243,ctrT EJ)]
noncomputable def tblP2:jv:=[(113,ctrT zG),(172,ctrT vZ),(73,ctrT wo),(173,ctrT aqU)]
noncomputable def atV:jv:=[(116,ctrT atC)]
def yC(a:Nat)(b:Nat):Prop:=(0=0/\a=b/\a=b)/\True
def amr(a:Int)(b:fM)(c:fM)(d:Int):Prop:=cP (BEq.beq a (0:Int)) (b.i*10+0<b.p.n*10/\ ∃y_1:Unit,True/\(0:Int)=0/\yC c.p.n b.p.n/\(c.p.n*10=b.p.n*10/\ ∀q:Nat,q<c.p.n*10->Cs.eff (gy (c.p.give c.i c.k)) [] q=Cs.eff (gy b.p) [(b.i*10+0,[Value.int .i64 (-(1:Int))]),(b.i*10+9,[Value.int .i64 (d-1)]),(b.i*10+(1+b.k*1),[Value.bool false])] q)/\True) (∃y_1:Unit,True/\(0:Int)=0/\yC c.p.n b.p.n/\(c.p.n*10=b.p.n*10/\ ∀q:Nat,q<c.p.n*10->Cs.eff (gy (c.p.give c.i c.k)) [] q=Cs.eff (gy b.p) [(b.i*10+9,[Value.int .i64 (d-1)]),(b.i*10+(1+b.k*1),[Value.bool false])] q)/\True)
def aqZ(a:Int)(b:fM)(c:fM):Prop:=I64 (a-1)/\b.i*10+9<b.p.n*10/\b.i*10+9<b.p.n*10/\cP (Nat.beq (b.i*10+9) (b.i*10+9)) (∃z_1:Int,some (Value.int .i64 (a-1))=some (Value.int .i64 z_1)/\amr z_1 b c a) (cP (Nat.beq (b.i*10+9) (b.i*10+(1+b.k*1))) (∃z_1:Int,some (Value.bool false)=some (Value.int .i64 z_1)/\amr z_1 b c a) (∃z_1:Int,getElem? (gy b.p (b.i*10+9)) 0=some (Value.int .i64 z_1)/\amr z_1 b c a))
def yD(a:ZPool):Prop:=a.n*10=a.n*10/\ ∀q:Nat,q<a.n*10->Cs.eff (gy a) [] q=Cs.eff (gy a) [] q
def Ho(a:ZPool)(b:ZPool):Prop:=a.n*10=b.n*10/\ ∀q:Nat,q<a.n*10->Cs.eff (gy a) [] q=Cs.eff (gy b) [] q
def aar(a:Int)(b:EI):Prop:=I64 (a+1)/\b.i*10+9<b.p.n*10/\ ∃y:Unit,True/\True/\(b.p.n*10=b.p.n*10/\ ∀q:Nat,q<b.p.n*10->Cs.eff (gy (b.p.take b.c b.i b.k)) [] q=Cs.eff (gy b.p) [(b.i*10+9,[Value.int .i64 (a+1)]),(b.i*10+(1+b.k*1),[Value.bool true]),(b.i*10+0,[Value.int .i64 b.c])] q)/\True
def oC(a:Nat):Prop:=(0=0/\a=a/\a=a)/\True
def qP(a:ZPool):Prop:=oC a.n/\yD a/\True
def yE(a:ZPool)(b:ZPool):Prop:=yC a.n b.n/\Ho a b/\True
def aas(a:Nat)(b:lT):Prop:=Hd (a<=b.p.n/\(∀j:Nat,j<b.p.n->b.p.full b.c j)/\ ∀j:Nat,j<a->b.p.cls j≠(-(1:Int)))
def I8(a:lT):Prop:=Hd (∀i:Nat,i<a.p.n->a.p.cls i≠(-(1:Int))/\a.p.full a.c i)
def QD(a:ZPool):Prop:=yD a/\oC a.n/\True
def aat(a:lT):Prop:=Hd (spn a.c≠(0:Int)/\ ∀i:Nat,i<a.p.n->a.p.cls i≠(-(1:Int))/\a.p.full a.c i)
def QE(a:Nat)(b:yB):Prop:=Hd (a<ZPool.many (b.p.cls b.i)/\b.p.tk b.i a=false/\ ∀j:Nat,j<a->b.p.tk b.i j=true)
def aau(a:Nat)(b:yB):Prop:=Hd (a<=ZPool.many (b.p.cls b.i)/\ ∀j:Nat,j<a->b.p.tk b.i j=true)
def QF(a:Nat)(b:lT):Prop:=Hd (a<=b.p.n/\ ∀j:Nat,j<a->b.p.full b.c j)
def QG(a:yB):Prop:=Hd (∀k:Nat,k<ZPool.many (a.p.cls a.i)->a.p.tk a.i k=true)
def ag5(a:ZPool)(b:Nat)(c:EI):Prop:=yC a.n b/\(a.n*10=c.p.n*10/\ ∀q:Nat,q<a.n*10->Cs.eff (gy a) [] q=Cs.eff (gy (c.p.take c.c c.i c.k)) [] q)/\True
def yF(a:Nat):Prop:=0<=(a:Int)/\(a:Int)<8
def aav:Prop:= ∃y:Unit,True/\(False/\(0:Int)=2/\True)/\False/\False/\True
def yG(a:Nat)(b:Nat):Prop:=(a:Int)=(b:Int)+1/\True
def ag6(a:fM):Prop:= ∃y_1:Unit,True/\(False/\(a.k:Int)=0/\true=false/\True)/\qP a.p
def ag7(n:Nat):Prop:=
 cP (decide ((n:Int)<1)) aav (I64 (256:Int)/\((8:Int)=0->False)/\I64 (32:Int)/\cP (decide ((n:Int)>(32:Int))) aav ((0<=(n:Int)/\(n:Int)<=(n:Int)/\24*(n:Int)<=281474976710656/\(n:Int)<4611686018427387904)/\(∃s:Nat,s<=n/\True/\((s:Int)=0/\True)/\oC n/\(n*10=n*10/\ ∀q:Nat,∀j:Nat,q<n->j<10-> ∃v:Value,getElem? [Value.int .i64 0,Value.bool false,Value.bool false,Value.bool false,Value.bool false,Value.bool false,Value.bool false,Value.bool false,Value.bool false,Value.int .i64 0] j=some v/\Cs.eff (gy (dV n s)) [] (q*10+j)=[v])/\True)/\(∀s:Nat,s<=n->cP (decide ((s:Int)<(n:Int))) ((0<=(s:Int)/\(s:Int)<(n:Int))/\(0+s)*10+0<n*10/\I64 ((s:Int)+1)/\ ∃s_1:Nat,s_1<=n/\n-s_1<n-s/\yG s_1 s/\oC n/\(n*10=n*10/\ ∀q:Nat,q<n*10->Cs.eff (gy (dV n s_1)) [] q=Cs.eff (gy (dV n s)) [((0+s)*10+0,[Value.int .i64 (-(1:Int))])] q)/\True) (∃y:Unit,True/\(0=0/\(0:Int)=0/\True)/\oC n/\(n*10=n*10/\ ∀q:Nat,q<n*10->Cs.eff (gy (dV n n)) [] q=Cs.eff (gy (dV n s)) [] q)/\True))/\True))
def ag8(x:yB):Prop:=
 x.i*10+0<x.p.n*10/\ ∃z:Int,getElem? (gy x.p (x.i*10+0)) 0=some (Value.int .i64 z)/\ ∃x_1:Int,True/\(x_1=z/\True)/\True/\ ∀y:Unit,True->(spn x_1=0->False)/\I64 (Int.tdiv (8:Int) (spn x_1))/\(∃s:Nat,aau s x/\True/\((s:Int)=0/\True)/\yD x.p/\True)/\(∀s:Nat,aau s x->cP (decide ((s:Int)<Int.tdiv (8:Int) (spn x_1))) (yF s/\x.i*10+(1+s*1)<x.p.n*10/\ ∃b:Bool,getElem? (gy x.p (x.i*10+(1+s*1))) 0=some (Value.bool b)/\cP (Bool.not b) ((∃y_1:Nat,QE y_1 x/\(y_1:Int)=(s:Int)/\yD x.p/\True)\/ ∃y_1:Unit,QG x/\(-(1:Int))=(s:Int)/\yD x.p/\True) (I64 ((s:Int)+1)/\ ∃s_1:Nat,aau s_1 x/\8-s_1<8-s/\yG s_1 s/\yD x.p/\True)) ((∃y_1:Nat,QE y_1 x/\(y_1:Int)=(-(1:Int))/\yD x.p/\True)\/ ∃y_1:Unit,QG x/\(-(1:Int))=(-(1:Int))/\yD x.p/\True))/\True
theorem ag9(x:yB):ag8 x=wpF Tryz.prog aml tt (apa x) 200 5 276 (VK.args x) (hO VK.k (VK.os x)) (λv h'=>eG VK.k x v h' VK.outs):=by kernel_rfl
def aha(x:lT):Prop:=
 (∃s:Nat,QF s x/\True/\((s:Int)=0/\True)/\QD x.p)/\(∀s:Nat,QF s x->cP (decide ((s:Int)<(x.p.n:Int))) ((0<=(s:Int)/\(s:Int)<(x.p.n:Int))/\(0+s)*10+0<x.p.n*10/\ ∃z:Int,getElem? (gy x.p ((0+s)*10+0)) 0=some (Value.int .i64 z)/\cP (BEq.beq z x.c) (∃x_1:yB,Hd (x_1.p.ok/\x_1.i<x_1.p.n/\0<=x_1.p.cls x_1.i)/\((x_1.i=0+s/\0=0)/\True)/\(Ho x_1.p x.p/\True)/\(∀y:Nat,QE y x_1->(∃y_1:Unit,I8 x/\(0=(s:Int)/\0=(y:Int)/\false=true/\True)/\oC x.p.n/\Ho x.p x_1.p/\True)\/ ∃y_1:Prod Nat Nat,Hd (x.p.takes x.c y_1.1 y_1.2)/\((y_1.1:Int)=(s:Int)/\(y_1.2:Int)=(y:Int)/\true=true/\True)/\oC x.p.n/\Ho x.p x_1.p/\True)/\ ∀y:Unit,QG x_1->I64 ((s:Int)+1)/\ ∃s_1:Nat,QF s_1 x/\x.p.n-s_1<x.p.n-s/\yG s_1 s/\Ho x.p x_1.p/\oC x.p.n/\True) (I64 ((s:Int)+1)/\ ∃s_1:Nat,QF s_1 x/\x.p.n-s_1<x.p.n-s/\yG s_1 s/\QD x.p)) ((∃s_1:Nat,aas s_1 x/\True/\((s_1:Int)=0/\True)/\QD x.p)/\(∀s_1:Nat,aas s_1 x->cP (decide ((s_1:Int)<(x.p.n:Int))) ((0<=(s_1:Int)/\(s_1:Int)<(x.p.n:Int))/\(0+s_1)*10+0<x.p.n*10/\ ∃z:Int,getElem? (gy x.p ((0+s_1)*10+0)) 0=some (Value.int .i64 z)/\cP (BEq.beq z (-(1:Int))) ((∃y:Unit,I8 x/\(0=(s_1:Int)/\(0:Int)=0/\false=true/\True)/\qP x.p)\/ ∃y:Prod Nat Nat,Hd (x.p.takes x.c y.1 y.2)/\((y.1:Int)=(s_1:Int)/\(y.2:Int)=0/\true=true/\True)/\qP x.p) (I64 ((s_1:Int)+1)/\ ∃s_2:Nat,aas s_2 x/\x.p.n-s_2<x.p.n-s_1/\yG s_2 s_1/\QD x.p)) ((∃y:Unit,I8 x/\((0:Int)=0/\(0:Int)=0/\false=false/\True)/\
 qP x.p)\/ ∃y:Prod Nat Nat,Hd (x.p.takes x.c y.1 y.2)/\((y.1:Int)=0/\(y.2:Int)=0/\true=false/\True)/\qP x.p))/\True))/\True
theorem ahb(x:lT):aha x=wpF Tryz.prog tblP0 tt (apb x) 200 5 242 (VL.args x) (hO VL.k (VL.os x)) (λv h'=>eG VL.k x v h' VL.outs):=by kernel_rfl
def VN(x:EI):Prop:=
 x.i*10+0<x.p.n*10/\yF x.k/\x.i*10+(1+x.k*1)<x.p.n*10/\x.i*10+9<x.p.n*10/\cP (Nat.beq (x.i*10+9) (x.i*10+(1+x.k*1))) (∃z:Int,some (Value.bool true)=some (Value.int .i64 z)/\aar z x) (cP (Nat.beq (x.i*10+9) (x.i*10+0)) (∃z:Int,some (Value.int .i64 x.c)=some (Value.int .i64 z)/\aar z x) (∃z:Int,getElem? (gy x.p (x.i*10+9)) 0=some (Value.int .i64 z)/\aar z x))
theorem acU(x:EI):VN x=wpF Tryz.prog [] tt (noA x) 200 5 243 (EJ.args x) (hO EJ.k (EJ.os x)) (λv h'=>eG EJ.k x v h' EJ.outs):=by kernel_rfl
def ahc(x:lT):Prop:=
 ∃x_1:Int,True/\(x_1=x.c/\True)/\True/\ ∀y:Unit,True->cP (BEq.beq (spn x_1) (0:Int)) ((∃y_1:Unit,Hd (spn x.c=0)/\((0:Int)=0/\(1:Int)=1/\True)/\qP x.p)\/(∃y_1:Unit,aat x/\((0:Int)=0/\(4:Int)=1/\True)/\qP x.p)\/ ∃y_1:Prod Nat Nat,Hd (spn x.c≠(0:Int)/\x.p.takes x.c y_1.1 y_1.2)/\(2+(y_1.1:Int)*8+(y_1.2:Int)*spn x.c=0/\(0:Int)=1/\True)/\oC x.p.n/\(x.p.n*10=x.p.n*10/\ ∀q:Nat,q<x.p.n*10->Cs.eff (gy (x.p.take x.c y_1.1 y_1.2)) [] q=Cs.eff (gy x.p) [] q)/\True) (∃x_2:lT,Hd (x_2.p.ok/\spn x_2.c≠(0:Int))/\(0=0/\x_2.c=x.c/\True)/\yE x_2.p x.p/\(∀y_1:Unit,I8 x_2->(∃y_2:Unit,Hd (spn x.c=0)/\((0:Int)=0/\(1:Int)=4/\True)/\yE x.p x_2.p)\/(∃y_2:Unit,aat x/\((0:Int)=0/\(4:Int)=4/\True)/\yE x.p x_2.p)\/ ∃y_2:Prod Nat Nat,Hd (spn x.c≠(0:Int)/\x.p.takes x.c y_2.1 y_2.2)/\(2+(y_2.1:Int)*8+(y_2.2:Int)*spn x.c=0/\(0:Int)=4/\True)/\yC x.p.n x_2.p.n/\(x.p.n*10=x_2.p.n*10/\ ∀q:Nat,q<x.p.n*10->Cs.eff (gy (x.p.take x.c y_2.1 y_2.2)) [] q=Cs.eff (gy x_2.p) [] q)/\True)/\ ∀y_1:Prod Nat Nat,Hd (x_2.p.takes x_2.c y_1.1 y_1.2)->(0<=(y_1.1:Int)/\(y_1.1:Int)<(x_2.p.n:Int))/\ ∃x_3:EI,Hd (x_3.p.ok/\x_3.i<x_3.p.n/\x_3.k<8)/\((x_3.i=0+y_1.1/\0=0)/\x_3.c=x.c/\(x_3.k:Int)=(y_1.2:Int)/\True)/\(Ho x_3.p x_2.p/\True)/\ ∀y_2:Unit,True-> ∃x_4:Int,True/\(x_4=(y_1.1:Int)/\True)/\True/\ ∀y_3:Unit,True-> ∃x_5:Int,True/\(x_5=x.c/\True)/\True/\ ∀y_4:Unit,True->I64 ((y_1.2:Int)*spn x_5)/\I64 (ite (x_4<0\/32<=x_4) (-(1:Int)) (2+x_4*8)+(y_1.2:Int)*spn x_5)/\
 ((∃y_5:Unit,Hd (spn x.c=0)/\(0=ite (x_4<0\/32<=x_4) (-(1:Int)) (2+x_4*8)+(y_1.2:Int)*spn x_5/\(1:Int)=0/\True)/\ag5 x.p x_2.p.n x_3)\/(∃y_5:Unit,aat x/\(0=ite (x_4<0\/32<=x_4) (-(1:Int)) (2+x_4*8)+(y_1.2:Int)*spn x_5/\(4:Int)=0/\True)/\ag5 x.p x_2.p.n x_3)\/ ∃y_5:Prod Nat Nat,Hd (spn x.c≠(0:Int)/\x.p.takes x.c y_5.1 y_5.2)/\(2+(y_5.1:Int)*8+(y_5.2:Int)*spn x.c=ite (x_4<0\/32<=x_4) (-(1:Int)) (2+x_4*8)+(y_1.2:Int)*spn x_5/\(0:Int)=0/\True)/\yC x.p.n x_2.p.n/\(x.p.n*10=x_3.p.n*10/\ ∀q:Nat,q<x.p.n*10->Cs.eff (gy (x.p.take x.c y_5.1 y_5.2)) [] q=Cs.eff (gy (x_3.p.take x_3.c x_3.i x_3.k)) [] q)/\True))
theorem ahd(x:lT):ahc x=wpF Tryz.prog tblP1 tt (noA x) 200 5 202 (ag3.args x) (hO 2 (flatP 1 (ag3.l x))) (λv h'=>endsPK 1 x v h' ag3.outs):=by kernel_rfl
def atVC(x:fM):Prop:=
 ∃x_1:Int,True/\(x_1=x.line/\True)/\True/\ ∀y:Unit,True->cP (decide (slb x_1<0)) (ag6 x) (cP (decide (slb x_1>=(x.p.n:Int))) (ag6 x) ((0<=slb x_1/\slb x_1<(x.p.n:Int))/\(0+Int.toNat (slb x_1))*10+0<x.p.n*10/\ ∃z:Int,getElem? (gy x.p ((0+Int.toNat (slb x_1))*10+0)) 0=some (Value.int .i64 z)/\ ∃x_2:iL,Hd (x_2.k<32)/\((x_2.k:Int)=slb x_1/\x_2.c=z/\True)/\True/\(∀y_1:Unit,Hd (spn x_2.c=0)-> ∃x_3:agT,Hd (x_3.n<1000)/\(False/\x_3.v=x.line/\True)/\(False/\True)/\(∀y_2:Nat,Hd (y_2<x_3.n/\x_3.g y_2=x_3.v/\ ∀j:Nat,j<y_2->x_3.g j≠x_3.v)->yF y_2/\(0+Int.toNat (slb x_1))*10+(1+y_2*1)<x.p.n*10/\ ∃b:Bool,getElem? (gy x.p ((0+Int.toNat (slb x_1))*10+(1+y_2*1))) 0=some (Value.bool b)/\ ∃y_3:Unit,True/\((x.i=0+Int.toNat (slb x_1)/\0=0)/\(x.k:Int)=(y_2:Int)/\true=b/\True)/\False/\yD x.p/\True)/\ ∀y_2:Unit,Hd (∀j:Nat,j<x_3.n->x_3.g j≠x_3.v)-> ∃y_3:Unit,True/\((x.i=0+Int.toNat (slb x_1)/\0=0)/\(x.k:Int)=(-(1:Int))/\true=false/\True)/\False/\yD x.p/\True)/\ ∀y_1:Unit,Hd (spn x_2.c≠(0:Int))-> ∃x_3:agT,Hd (x_3.n<1000)/\((0=0/\x_3.n=Int.toNat ((8:Int)/spn x_2.c))/\x_3.v=x.line/\True)/\((x_3.n=Int.toNat ((8:Int)/spn x_2.c)/\ ∀q:Nat,q<x_3.n->[Value.int .i64 (x_3.g q)]=[Value.int .i64 (2+(x_2.k:Int)*8+(q:Int)*spn x_2.c)])/\True)/\(∀y_2:Nat,Hd (y_2<x_3.n/\x_3.g y_2=x_3.v/\ ∀j:Nat,j<y_2->x_3.g j≠x_3.v)->yF y_2/\(0+Int.toNat (slb x_1))*10+(1+y_2*1)<x.p.n*10/\ ∃b:Bool,getElem? (gy x.p ((0+Int.toNat (slb x_1))*10+(1+y_2*1))) 0=some (Value.bool b)/\
 ∃y_3:Unit,True/\((x.i=0+Int.toNat (slb x_1)/\0=0)/\(x.k:Int)=(y_2:Int)/\true=b/\True)/\qP x.p)/\ ∀y_2:Unit,Hd (∀j:Nat,j<x_3.n->x_3.g j≠x_3.v)-> ∃y_3:Unit,True/\((x.i=0+Int.toNat (slb x_1)/\0=0)/\(x.k:Int)=(-(1:Int))/\true=false/\True)/\qP x.p))
theorem aq0(x:fM):atVC x=wpF Tryz.prog tblP2 tt (noA x) 200 5 116 (atC.args x) (hO atC.k (atC.os x)) (λv h'=>eG atC.k x v h' atC.outs):=by kernel_rfl
def ahe(x:fM):Prop:=
 ∃x_1:fM,Hd x_1.ok/\(0=0/\x_1.line=x.line/\True)/\yE x_1.p x.p/\ ∀y:Unit,True->yF x_1.k/\x_1.i*10+(1+x_1.k*1)<x_1.p.n*10/\x_1.i*10+9<x_1.p.n*10/\cP (Nat.beq (x_1.i*10+9) (x_1.i*10+(1+x_1.k*1))) (∃z:Int,some (Value.bool false)=some (Value.int .i64 z)/\aqZ z x_1 x) (∃z:Int,getElem? (gy x_1.p (x_1.i*10+9)) 0=some (Value.int .i64 z)/\aqZ z x_1 x)
theorem ahf(x:fM):ahe x=wpF Tryz.prog atV tt (noA x) 200 5 65 (ag4.args x) (hO 2 (flatP 1 (ag4.l x))) (λv h'=>endsPK 1 x v h' ag4.outs):=by kernel_rfl
def ofVC(x:fM):Prop:=
 ∃x_1:fM,Hd x_1.ok/\(0=0/\x_1.line=x.line/\True)/\yE x_1.p x.p/\ ∀y:Unit,True->x_1.i*10+0<x_1.p.n*10/\ ∃z:Int,getElem? (gy x_1.p (x_1.i*10+0)) 0=some (Value.int .i64 z)/\ ∃y_1:Unit,True/\(x.p.cls x.i=z/\true=true/\True)/\yE x.p x_1.p
theorem aq1(x:fM):ofVC x=wpF Tryz.prog atV tt (noA x) 200 5 246 (ofP.args x) (hO 2 (flatP 1 (ofP.l x))) (λv h'=>endsPK 1 x v h' ofP.outs):=by kernel_rfl
theorem gG(c:Int):(c=0/\spn c=1/\ZPool.many c=8)\/(c=1/\spn c=2/\ZPool.many c=4)\/(c=2/\spn c=4/\ZPool.many c=2)\/(c=3/\spn c=8/\ZPool.many c=1)\/((c<0\/3<c)/\spn c=0/\ZPool.many c=0):=by
 have:=dM c;unfold ZPool.many;rcases this with h|h|h|h|h<;>obtain⟨h1,h2,_⟩:=h<;>rw[h2]<;>simp[h1]
theorem yH{c:Int}(h:0<=c/\c<=3):Int.tdiv 8 (spn c)=ZPool.many c/\spn c≠0/\1<=ZPool.many c/\ZPool.many c<=8:=by
 rcases gG c with h'|h'|h'|h'|h'<;>obtain⟨h1,h2,h3⟩:=h'<;>first|(rw[h2,h3];decide)|omega
theorem VO(n:Nat)(hn:1<=n/\n<=32):ag7 n:=by
 unfold ag7;simp only[aav,oC,yG];simp only[aZ,aV,aU,aA,aI,bQ,bF,aO,aK,ay,aX,aW,bT,bG,bH,bI,bU,bC,bJ,bn,eH,aH,aN,ah,ak,aB,aF,aC,aG];refine bf (λh=>absurd (aS h) (by omega)) λ_=>⟨by unfold I64;omega,by decide,by unfold I64;omega,bf (λh=>absurd (aS h) (by omega)) λ_=>⟨by omega,⟨0,by omega,rfl,λq j hq hj=> ?_⟩,λs hs=>bf (λh=> ?_) λh=> ?_⟩⟩
 ·rw[ku,show(q*10+j)%10=j by omega]
  simp only[dV,Nat.not_lt_zero,if_false]
  match j,hj with
  |0,_|1,_|2,_|3,_|4,_|5,_|6,_|7,_|8,_|9,_=>exact⟨_,rfl,rfl⟩
 ·have h:=aS h
  refine⟨by omega,by omega,by unfold I64;omega,s+1,by omega,by omega,by omega,λq hq=> ?_⟩;simp only[Cs.eff,bV,dh,dB,dI,<-Bool.decide_and,ku,dV];grind
 ·have:s=n:=by have:=aT h;omega
  subst this;exactλq _=>rfl
theorem VP(x:yB)(hx:x.p.ok/\x.i<x.p.n/\0<=x.p.cls x.i):ag8 x:=by
 obtain⟨⟨h1,h2,h3⟩,hi,hc⟩:=hx;obtain⟨m1,m2,m3,m4⟩:=yH ⟨hc,(h3 _ hi).2.1⟩;unfold ag8;simp only[aau,yD,yF,QE,QG,yG];simp only[aZ,aV,aU,aA,aI,bQ,bF,aO,aK,ay,aX,aW,bT,bG,bH,bI,bU,bC,bJ,bn,eH,aH,aN,ah,ak,aB,aF,aC,aG];refine⟨by omega,x.p.cls x.i,?_,m2,by rw[m1];unfold I64;omega,⟨0,⟨Nat.zero_le _,λj hj=>absurd hj (Nat.not_lt_zero j)⟩,Int.natCast_zero⟩,λs hs=> ?_⟩
 ·rw[ku,show x.i*10%10=0 by omega,show x.i*10/10=x.i by omega];rfl
 rw[m1];refine bf (λh=> ?_) λh=> ?_
 ·have h:=aS h
  refine⟨by omega,by omega,x.p.tk x.i s,?_,bf (λhb=> .inl ⟨s,⟨by omega,by simpa using hb,hs.2⟩,rfl⟩) λhb=>⟨by unfold I64;omega,s+1,⟨by omega,λj hj=> ?_⟩,by omega,by omega⟩⟩
  ·rw[ku]
   simp only[show(x.i*10+(1+s*1))%10=1+s by omega,show(x.i*10+(1+s*1))/10=x.i by omega];rw[if_neg (by omega),if_neg (by omega),show 1+s-1=s by omega];rfl
  ·by_cases e:j=s
   ·subst e;simpa using hb
   ·exact hs.2 j (by omega)
 ·have h:=aT h
  exact .inr λk hk=>hs.2 k (by omega)
theorem Dn(p:ZPool)(i:Nat):gy p (i*10)=[.int .i64 (p.cls i)]:=by
 rw[ku,show i*10%10=0 by omega,show i*10/10=i by omega];rfl
theorem aaw(p:ZPool)(i:Nat):gy p (i*10+9)=[.int .i64 (p.cnt i)]:=by
 rw[ku,show(i*10+9)%10=9 by omega,show(i*10+9)/10=i by omega];rfl
theorem aq2(p:ZPool)(i k:Nat)(h:k<8):gy p (i*10+(1+k*1))=[.bool (p.tk i k)]:=by
 rw[ku];simp only[show(i*10+(1+k*1))%10=1+k by omega,show(i*10+(1+k*1))/10=i by omega];rw[if_neg (by omega),if_neg (by omega),show 1+k-1=k by omega]
theorem VQ(x:lT)(hx:x.p.ok/\spn x.c≠0):aha x:=by
 obtain⟨⟨h1,h2,h3⟩,hz⟩:=hx;have hcc:0<=x.c/\x.c<=3:=by rcases dM x.c with h|h|h|h|h<;>omega
 obtain⟨m1,m2,m3,m4⟩:=yH hcc;unfold aha;simp only[QF,QD,Ho,QE,I8,oC,QG,yG,aas,qP,yD];simp only[aZ,aV,aU,aA,aI,bQ,bF,aO,aK,ay,aX,aW,bT,bG,bH,bI,bU,bC,bJ,bn,eH,aH,aN,ah,ak,aB,aF,aC,aG];refine⟨⟨0,⟨Nat.zero_le _,λj hj=>absurd hj (Nat.not_lt_zero j)⟩,Int.natCast_zero⟩,λs hs=>bf (λh=> ?_) λh=>⟨⟨0,⟨Nat.zero_le _,λj hj=>hs.2 j (by have:=aT h;omega),λj hj=>absurd hj (Nat.not_lt_zero j)⟩,Int.natCast_zero⟩,λt ht=>bf (λh2=> ?_) λh2=> ?_⟩⟩
 ·have h:=aS h
  refine⟨by omega,by omega,x.p.cls s,by rw[Dn];rfl,bf (λhe=> ?_) λhe=>⟨by unfold I64;omega,s+1,⟨by omega,λj hj=> ?_⟩,by omega,by omega⟩⟩
  ·have he:=beq_iff_eq.1 he
   refine⟨⟨x.p,s⟩,⟨⟨h1,h2,h3⟩,(show s<x.p.n by omega),(show 0<=x.p.cls s by omega)⟩,rfl,⟨rfl,λ_ _=>rfl⟩,λy hy=> .inr ⟨(s,y),?_,⟨rfl,rfl⟩,rfl,λ_ _=>rfl⟩,λhall=>⟨by unfold I64;omega,s+1,⟨by omega,λj hj=> ?_⟩,by omega,by omega,rfl,λ_ _=>rfl⟩⟩
   ·obtain⟨y1,y2,y3⟩:=hy
    simp only[he]at y1;exact⟨by show s<x.p.n;omega,y1,by show x.p.tk s y=_;rw[if_pos he];exact y2,.inl ⟨he,y3,hs.2⟩⟩
   ·by_cases e:j=s
    ·subst e;intro _ k hk;exact hall k (by simp only[he];exact hk)
    ·exact hs.2 j (by omega)
  ·by_cases e:j=s
   ·subst e;intro h';simp[h']at he
   ·exact hs.2 j (by omega)
 ·have h2:=aS h2
  refine⟨by omega,by omega,x.p.cls t,by rw[Dn];rfl,bf (λhe=> ?_) λhe=>⟨by unfold I64;omega,t+1,⟨by omega,ht.2.1,λj hj=> ?_⟩,by omega,by omega⟩⟩
  ·have he:=beq_iff_eq.1 he
   exact .inr ⟨(t,0),⟨by show t<x.p.n;omega,m3,by show x.p.tk t 0=_;rw[if_neg (by show¬x.p.cls t=x.c;omega)],.inr ⟨he,rfl,ht.2.1,ht.2.2⟩⟩,rfl,rfl⟩
  ·by_cases e:j=t
   ·subst e;intro h';simp[h']at he
   ·exact ht.2.2 j (by omega)
 ·have h2:=aT h2
  exact .inl λi hi=>⟨ht.2.2 i (by omega),ht.2.1 i hi⟩
theorem QH(x:EI)(hx:x.p.ok/\x.i<x.p.n/\x.k<8):VN x:=by
 obtain⟨⟨h1,h2,h3⟩,hi,hk⟩:=hx;have:=h3 _ hi;unfold VN;simp only[yF,aar];simp only[aZ,aV,aU,aA,aI,bQ,bF,aO,aK,ay,aX,aW,bT,bG,bH,bI,bU,bC,bJ,bn,eH,aH,aN,ah,ak,aB,aF,aC,aG];refine⟨by omega,by omega,by omega,by omega,bf (λh=> ?_) λ_=>bf (λh=> ?_) λ_=>⟨x.p.cnt x.i,by rw[aaw];rfl,by unfold I64;omega,by omega,λq hq=> ?_⟩⟩
 ·have:=au h;omega
 ·have:=au h;omega
 ·simp only[Cs.eff,bV,dh,dB,dI,<-Bool.decide_and,ku,ZPool.take];grind (splits:=30)
theorem VR(x:lT)(hx:x.p.ok):ahc x:=by
 unfold ahc;simp only[qP,aat,oC,yE,I8,yC,Ho,ag5,yD];simp only[aZ,aV,aU,aA,aI,bQ,bF,aO,aK,ay,aX,aW,bT,bG,bH,bI,bU,bC,bJ,bn,eH,aH,aN,ah,ak,aB,aF,aC,aG];refine bf (λh=> .inl (by simpa using h)) λh=> ?_
 have hz:spn x.c≠0:=by simpa using h
 have hcc:0<=x.c/\x.c<=3:=by rcases dM x.c with h|h|h|h|h<;>omega
 obtain⟨m1,m2,m3,m4⟩:=yH hcc;obtain⟨h1,h2,h3⟩:=id hx;refine⟨x,⟨hx,hz⟩,rfl,⟨rfl,rfl,λ_ _=>rfl⟩,λhf=> .inr (.inl ⟨⟨hz,hf⟩,rfl,rfl,λ_ _=>rfl⟩),λy hy=> ?_⟩;obtain⟨i,k⟩:=y;obtain⟨t1,t2,t3⟩:=id hy;simp only at t1 t2 ⊢;have hsl:(if (i:Int)<0\/32<=(i:Int)then(-1:Int)else 2+i*8)=2+i*8:=if_neg (by omega);have hks:0<=(k:Int)*spn x.c/\(k:Int)*spn x.c<=64:=by
  have hs:0<=spn x.c/\spn x.c<=8:=by rcases dM x.c with h|h|h|h|h<;>omega
  exact⟨Int.mul_nonneg (by omega) hs.1,by have:=Int.mul_le_mul (show(k:Int)<=8 by omega) hs.2 hs.1 (by omega:(0:Int)<=8);omega⟩
 rw[hsl];refine⟨by omega,⟨x.p,x.c,i,k⟩,⟨hx,t1,(show k<8 by omega)⟩,⟨rfl,rfl,rfl⟩,⟨rfl,λ_ _=>rfl⟩,by unfold I64;omega,by unfold I64;omega,.inr (.inr ⟨(i,k),⟨hz,hy⟩,?_⟩)⟩;simp
theorem ams{x:fM}(hx:x.ok):slb x.line=x.i/\2<=x.line/\x.line<258:=by
 obtain⟨⟨h1,h2,h3⟩,hi,hc,hk,ht⟩:=hx;unfold slb fM.line;rcases gG (x.p.cls x.i)with h|h|h|h|h<;>obtain⟨e1,e2,e3⟩:=h<;>rw[e2]<;>rw[e3]at hk<;>first|omega|(rw[if_neg (by omega)];omega)
theorem ahg(x:fM)(hx:x.ok):atVC x:=by
 obtain⟨l1,l2,l3⟩:=ams hx;obtain⟨⟨h1,h2,h3⟩,hi,hc,hk,ht⟩:=id hx;obtain⟨m1,m2,m3,m4⟩:=yH ⟨hc,(h3 _ hi).2.1⟩;have h8:(8/spn (x.p.cls x.i)).toNat=ZPool.many (x.p.cls x.i):=rfl;have hs:0<spn (x.p.cls x.i):=by rcases gG (x.p.cls x.i)with h|h|h|h|h<;>omega
 have hl:x.line=2+x.i*8+x.k*spn (x.p.cls x.i):=rfl;have inj: ∀j:Nat,2+(x.i:Int)*8+(j:Int)*spn (x.p.cls x.i)=x.line->j=x.k:=λj hj=>by
  have:(j:Int)*spn (x.p.cls x.i)=(x.k:Int)*spn (x.p.cls x.i):=by omega
  have:=Int.eq_of_mul_eq_mul_right (by omega) this;omega
 unfold atVC;simp only[ag6,yF,yD,qP,oC];simp only[aZ,aV,aU,aA,aI,bQ,bF,aO,aK,ay,aX,aW,bT,bG,bH,bI,bU,bC,bJ,bn,eH,aH,aN,ah,ak,aB,aF,aC,aG,l1];refine bf (λh=>absurd (aS h) (by omega)) λ_=>bf (λh=>absurd (aS h) (by omega)) λ_=>⟨by omega,by omega,x.p.cls x.i,by rw[Dn];rfl,⟨x.i,x.p.cls x.i⟩,(show x.i<32 by omega),⟨rfl,rfl⟩,λh=>absurd h m2,λ_=>⟨⟨λq=>2+(x.i:Int)*8+q*spn (x.p.cls x.i),ZPool.many (x.p.cls x.i),x.line⟩,(show ZPool.many (x.p.cls x.i)<1000 by omega),⟨rfl,rfl⟩,⟨rfl,λ_ _=>rfl⟩,λy hy=> ?_,λhno=>absurd hl.symm (hno x.k hk)⟩⟩
 obtain⟨y1,y2,_⟩:=hy;have:=inj y y2;subst this;exact⟨by omega,by omega,true,by rw[aq2 _ _ _ (by omega),ht];rfl,rfl,rfl⟩
theorem VT(x:fM)(hx:x.ok):ahe x:=by
 obtain⟨⟨h1,h2,h3⟩,hi,hc,hk,ht⟩:=id hx;obtain⟨m1,m2,m3,m4⟩:=yH ⟨hc,(h3 _ hi).2.1⟩;have:=h3 _ hi;have n1:(x.i*10+9).beq (x.i*10+(1+x.k*1))=false:=fA (by omega);unfold ahe;simp only[yE,yF,aqZ,amr,yC,Ho];simp only[aZ,aV,aU,aA,aI,bQ,bF,aO,aK,ay,aX,aW,bT,bG,bH,bI,bU,bC,bJ,bn,eH,aH,aN,ah,ak,aB,aF,aC,aG];refine⟨x,hx,rfl,⟨rfl,rfl,λ_ _=>rfl⟩,?_⟩;simp only[n1,Nat.beq_refl,kX,iy,aU];refine⟨by omega,by omega,by omega,x.p.cnt x.i,by rw[aaw];rfl,by unfold I64;omega,by omega,by omega,bf (λhb=>⟨by omega,λq hq=> ?_⟩) λhb q hq=> ?_⟩
 ·have hb:=beq_iff_eq.1 hb
  simp only[Cs.eff,bV,dh,dB,dI,<-Bool.decide_and,ku,ZPool.give];grind (splits:=30)
 ·have hb:x.p.cnt x.i-1≠0:=λh=>by simp[h]at hb
  simp only[Cs.eff,bV,dh,dB,dI,<-Bool.decide_and,ku,ZPool.give];grind (splits:=30)
theorem ahh(x:fM)(hx:x.ok):ofVC x:=by
 obtain⟨⟨h1,h2,h3⟩,hi,hc,hk,ht⟩:=id hx;unfold ofVC;simp only[yE,yC,Ho];simp only[aZ,aV,aU,aA,aI,bQ,bF,aO,aK,ay,aX,aW,bT,bG,bH,bI,bU,bC,bJ,bn,eH,aH,aN,ah,ak,aB,aF,aC,aG];exact⟨x,hx,rfl,⟨rfl,rfl,λ_ _=>rfl⟩,by omega,x.p.cls x.i,by rw[Dn];rfl,rfl,rfl,rfl,λ_ _=>rfl⟩
theorem aq3:bY Tryz.prog 276 VK:=jf dD mixed (.cons (bM ny) .nil) apa 200 5 (λ_=>rfl) (λ_=>⟨λ_=>rfl,λ_=>rfl,trivial⟩) λx hx=>Eq.mp (ag9 x) (VP x (aZ.1 hx))
theorem find_ok:bY Tryz.prog 242 VL:=jf dD mixed (.cons (bM aq3) .nil) apb 200 5 (λ_=>rfl) (λ_=>⟨λ_=>rfl,λ_=>rfl,trivial⟩) λx hx=>Eq.mp (ahb x) (VQ x (aZ.1 hx))
theorem amu:bY Tryz.prog 243 EJ:=dL dD mixed .nil noA 200 5 (λ_=>rfl) (λ_=>rfl) λx hx=>Eq.mp (acU x) (QH x (aZ.1 hx))
theorem atW:bY Tryz.prog 116 atC:=dL dD mixed (.cons (bM ny) (.cons (bM ag2) (.cons (bM QC) (.cons (bM atU) .nil)))) noA 200 5 (λ_=>rfl) (λ_=>rfl) λx hx=>Eq.mp (aq0 x) (ahg x (aZ.1 hx))
theorem aq4:bY Tryz.prog 202 ag3.ctr:=cO dD mixed (.cons (bM ny) (.cons (bM ag1) (.cons (bM find_ok) (.cons (bM amu) .nil)))) 2 noA 200 5 (λ_=>⟨rfl,rfl,rfl,rfl⟩) λx hx=>Eq.mp (ahd x) (VR x (aZ.1 hx))
theorem aq5:bY Tryz.prog 65 ag4.ctr:=cO dD mixed (.cons (bM atW) .nil) 2 noA 200 5 (λ_=>⟨rfl,rfl,rfl,rfl⟩) λx hx=>Eq.mp (ahf x) (VT x (aZ.1 hx))
theorem atX:bY Tryz.prog 246 ofP.ctr:=cO dD mixed (.cons (bM atW) .nil) 2 noA 200 5 (λ_=>⟨rfl,rfl,rfl,rfl⟩) λx hx=>Eq.mp (aq1 x) (ahh x (aZ.1 hx))
structure ZRd where
 t:Nat
 now:Int
 has:Nat->Int
namespace ZRd
def ok(r:ZRd):Prop:=1<=r.t/\r.t<=4/\1<=r.now/\r.now<4611686018427387904
def os(r:ZRd):List dA:=[.cells 149 (.av [u64 r.now,.slE 1 0 1 r.t r.t]),.cells 111 (.row 1 r.t (λk=>[.int .u64 (r.has k)]) [])]
def put(r:ZRd)(k:Nat)(v:Int):ZRd:={r with has:=λj=>if j=k then v else r.has j}
end ZRd
def amv(t:Nat):ZRd:=⟨t,1,λ_=>0⟩
structure ZRdT where
 r:ZRd
 k:Nat
def QI:jg:={X:=ZRdT,args:=λx=>[.ptr 0 0,i64 x.k],k:=1,l:=λx=>[.m x.r.os],pre:=λx=>Hd (x.r.ok/\x.k<x.r.t),outs:=[
 {Y:=Unit,post:=λx _=>Hd (x.r.has x.k=0),ret:=λx _=> .tup [u64 x.r.now,i64 0],m:=1,l:=λx _=>[.m (x.r.put x.k x.r.now).os]},
 {Y:=Unit,post:=λx _=>Hd (x.r.has x.k≠0),ret:=λ_ _=> .tup [u64 0,i64 7],m:=1,l:=λx _=>[.m x.r.os]}]}
def QJ:jg:=ql ZRdT (λx=>[.ptr 0 0,i64 x.k]) 1 (λx=>[.m x.r.os]) (λx=>Hd (x.r.ok/\x.k<x.r.t)) (λx=>i64 (if x.r.has x.k=0 then 12 else 0)) 1 (λx=>[.m (x.r.put x.k 0).os])
def atY:jg:=ql ZRd (λ_=>[.ptr 0 0]) 1 (λr=>[.m r.os]) (λr=>Hd r.ok) (λr=>u64 r.now) 1 (λr=>[.m r.os])
def oP(ph:Nat):jg:=ql vW (λx=>[.ptr 0 0,i64 x.t,i64 x.l]) 1 (λx=>[.m (x.c.os ph)]) (λx=>Hd (x.c.ok/\x.t<x.c.t)) (λx=>i64 (if 0<=x.l/\x.l<258 then 0 else 2)) 1 (λx=>[.m ((x.c.note x.t x.l).os ph)])
def nS(ph:Nat):jg:=ql eX (λ_=>[.ptr 0 0]) 1 (λc=>[.m (c.os ph)]) (λc=>Hd c.ok) (λc=>u64 c.now) 1 (λc=>[.m (c.os ph)])
def oQ(ph:Nat):jg:=ql eX (λ_=>[.ptr 0 0]) 1 (λc=>[.m (c.os ph)]) (λc=>Hd c.ok) (λc=> .slW 1 0 1 c.t) 2 (λc=>[.m (c.os ph),.o (.room 3 (.row 1 c.t (λk=>[.int .i64 (c.o k)]) []))])
noncomputable def I9:jg:=ql lN (λx=>[.ptr 0 0,i64 x.k,i64 x.a,x.b.av 1]) 2 (λx=>[.m x.d.os,.o x.b.ro]) (λx=>Hd (x.d.ok/\x.k<x.d.n/\x.b.ok/\x.a+x.b.n<=64)) (λ_=>i64 0) 2 (λx=>[.m (x.d.store x.k x.a x.b.n (λq=>x.b.g (x.b.q+q))).os,.o x.b.ro])
noncomputable def ahi:jg:=ql Qq (λx=>[.ptr 0 0,i64 x.k]) 1 (λx=>[.m x.d.os]) (λx=>Hd (x.d.ok/\x.k<x.d.n)) (λ_=> .tup [.slW 1 0 1 64,i64 0]) 2 (λx=>[.m x.d.os,.o (.room 5 (rowB (λq=>x.d.b (x.k*193+q)) 64))])
def lU(a:Nat):Prop:=a=a/\a=a
def ahj(a:eX):Prop:=a.now=a.now/\a.dur=a.dur/\a.jJ=a.jJ/\(0=0/\lU a.t)/\True
def ahk(a:eX):Prop:=(258=258/\ ∀q:Nat,q<258->[Value.bool (a.L q)]=[Value.bool (a.L q)])/\Value.nilFunc=Value.nilFunc/\True
def atZ(a:vW):Prop:=(ahj a.c/\(258=258/\ ∀q:Nat,q<258->[Value.bool (Bool.or (a.c.N q) (decide (a.l=(q:Int))))]=[Value.bool (a.c.N q)])/\ahk a.c)/\(a.c.t=a.c.t/\ ∀q:Nat,q<a.c.t->[Value.int .i64 (ite (q=a.t/\0<=a.l/\a.l<258) (a.c.o q+1) (a.c.o q))]=[Value.int .i64 (a.c.o q)])/\True
def KH(a:ZRd):Prop:=a.now=a.now/\(0=0/\lU a.t)/\True
def ahl(a:ZRd):Prop:=KH a/\(a.t=a.t/\ ∀q:Nat,q<a.t->[Value.int .u64 (a.has q)]=[Value.int .u64 (a.has q)])/\True
def at1(a:vW):Prop:= ∃y:Unit,True/\ite (0<=a.l/\a.l<258) (0:Int) (2:Int)=2/\atZ a
def aax(a:Bys):Prop:=rowB a.g a.N=rowB a.g a.N/\true=true
def Ja(a:DevM):Prop:=a.fl=a.fl/\a.fe=a.fe/\a.ba=a.ba/\a.cu=a.cu/\True
def ahm(a:lN):Prop:= ∃y:Unit,True/\(0:Int)=2/\((0=0/\lU a.d.n)/\a.d.st+1=a.d.st/\Ja a.d)/\aax a.b/\(a.d.n*193=a.d.n*193/\ ∀q:Nat,q<a.d.n*193->Cs.eff (gu (a.d.store a.k a.a a.b.n (λ(q_1:Nat)=>a.b.g (a.b.q+q_1)))) [] q=Cs.eff (gu a.d) [] q)/\True
def ahn(a:ZRdT):Prop:=KH a.r/\(a.r.t=a.r.t/\ ∀q:Nat,q<a.r.t->[Value.int .u64 (ite (q=a.k) (0:Int) (a.r.has q))]=Cs.eff (λ(k:Nat)=>[Value.int .u64 (a.r.has k)]) [(0+a.k,[Value.int .u64 0])] q)/\True
def QK(a:eX):Prop:=ahj a/\(258=258/\ ∀q:Nat,q<258->[Value.bool (a.N q)]=[Value.bool (a.N q)])/\ahk a
def QL(a:eX):Prop:=(a.t=a.t/\ ∀q:Nat,q<a.t->[Value.int .i64 (a.o q)]=[Value.int .i64 (a.o q)])/\True
def aho(a:ZRdT):Prop:=KH a.r/\(a.r.t=a.r.t/\ ∀q:Nat,q<a.r.t->[Value.int .u64 (ite (q=a.k) a.r.now (a.r.has q))]=[Value.int .u64 (a.r.has q)])/\True
def ahp(a:Bys)(b:Nat):Prop:=(Nat.beq (List.length [Value.int .u8 (a.g (a.q+b))]) 1&&List.all [Value.int .u8 (a.g (a.q+b))] Value.oneCell')=true
def aay:Prop:= ∃y:Unit,True/\(False/\(0:Int)=2/\True)/\False/\False/\True
def aaz(a:ZRdT):Prop:=0<=(a.k:Int)/\(a.k:Int)<(a.r.t:Int)
def ahq(t:Nat):Prop:=
 cP (decide ((t:Int)<1)) aay (cP (decide ((t:Int)>(4:Int))) aay ((0<=(t:Int)/\(t:Int)<=(t:Int)/\8*(t:Int)<=281474976710656/\(t:Int)<4611686018427387904)/\ ∃y:Unit,True/\(0=0/\(0:Int)=0/\True)/\((1:Int)=1/\(0=0/\lU t)/\True)/\(t=t/\ ∀q:Nat,q<t->[Value.int .u64 0]=[Value.int .u64 0])/\True))
def VU(x:ZRdT):Prop:=
 cP (decide ((x.k:Int)>=(x.r.t:Int))) ((∃y:Unit,Hd (x.r.has x.k=0)/\(x.r.now=0/\(0:Int)=1/\True)/\aho x)\/ ∃y:Unit,Hd (x.r.has x.k≠(0:Int))/\((0:Int)=0/\(7:Int)=1/\True)/\ahl x.r) (aaz x/\0+x.k<x.r.t/\cP (decide (x.r.has (0+x.k)=0)) (0+x.k<x.r.t/\((∃y:Unit,Hd (x.r.has x.k=0)/\(x.r.now=x.r.now/\(0:Int)=0/\True)/\KH x.r/\(x.r.t=x.r.t/\ ∀q:Nat,q<x.r.t->[Value.int .u64 (ite (q=x.k) x.r.now (x.r.has q))]=Cs.eff (λ(k:Nat)=>[Value.int .u64 (x.r.has k)]) [(0+x.k,[Value.int .u64 x.r.now])] q)/\True)\/ ∃y:Unit,Hd (x.r.has x.k≠(0:Int))/\(0=x.r.now/\(7:Int)=0/\True)/\KH x.r/\(x.r.t=x.r.t/\ ∀q:Nat,q<x.r.t->[Value.int .u64 (x.r.has q)]=Cs.eff (λ(k:Nat)=>[Value.int .u64 (x.r.has k)]) [(0+x.k,[Value.int .u64 x.r.now])] q)/\True)) (0+x.k<x.r.t/\((∃y:Unit,Hd (x.r.has x.k=0)/\(x.r.now=0/\(0:Int)=7/\True)/\aho x)\/ ∃y:Unit,Hd (x.r.has x.k≠(0:Int))/\((0:Int)=0/\(7:Int)=7/\True)/\ahl x.r)))
theorem acV(x:ZRdT):VU x=wpF Tryz.prog oZ tt (noA x) 200 5 199 (QI.args x) (hO 2 (flatP 1 (QI.l x))) (λv h'=>endsPK 1 x v h' QI.outs):=by kernel_rfl
def VW(x:ZRdT):Prop:=
 cP (decide ((x.k:Int)>=(x.r.t:Int))) (∃y:Unit,True/\ite (x.r.has x.k=0) (12:Int) (0:Int)=1/\KH x.r/\(x.r.t=x.r.t/\ ∀q:Nat,q<x.r.t->[Value.int .u64 (ite (q=x.k) (0:Int) (x.r.has q))]=[Value.int .u64 (x.r.has q)])/\True) (aaz x/\0+x.k<x.r.t/\0+x.k<x.r.t/\cP (BEq.beq (x.r.has (0+x.k)) (0:Int)) (∃y:Unit,True/\ite (x.r.has x.k=0) (12:Int) (0:Int)=12/\ahn x) (∃y:Unit,True/\ite (x.r.has x.k=0) (12:Int) (0:Int)=0/\ahn x))
theorem acW(x:ZRdT):VW x=wpF Tryz.prog oZ tt (noA x) 200 5 211 (QJ.args x) (hO 2 (flatP 1 (QJ.l x))) (λv h'=>endsPK 1 x v h' QJ.outs):=by kernel_rfl
def aq6(x:ZRd):Prop:=
 ∃y:Unit,True/\x.now=x.now/\ahl x
theorem amw(x:ZRd):aq6 x=wpF Tryz.prog oZ tt (noA x) 200 5 67 (atY.args x) (hO 2 (flatP 1 (atY.l x))) (λv h'=>endsPK 1 x v h' atY.outs):=by kernel_rfl
def ahr(x:vW):Prop:=
 cP (decide ((x.t:Int)>=(x.c.t:Int))) (∃y:Unit,True/\ite (0<=x.l/\x.l<258) (0:Int) (2:Int)=1/\atZ x) (cP (decide (x.l<0)) (at1 x) (cP (decide (x.l>=(258:Int))) (at1 x) ((0<=(x.t:Int)/\(x.t:Int)<(x.c.t:Int))/\0+x.t<x.c.t/\I64 (x.c.o (0+x.t)+1)/\(0<=(x.t:Int)/\(x.t:Int)<(x.c.t:Int))/\0+x.t<x.c.t/\(0<=x.l/\x.l<258)/\Int.toNat x.l<258/\ ∃y:Unit,True/\ite (0<=x.l/\x.l<258) (0:Int) (2:Int)=0/\(ahj x.c/\(258=258/\ ∀q:Nat,q<258->[Value.bool (Bool.or (x.c.N q) (decide (x.l=(q:Int))))]=Cs.eff (λ(k:Nat)=>[Value.bool (x.c.N k)]) [(Int.toNat x.l,[Value.bool true])] q)/\ahk x.c)/\(x.c.t=x.c.t/\ ∀q:Nat,q<x.c.t->[Value.int .i64 (ite (q=x.t/\0<=x.l/\x.l<258) (x.c.o q+1) (x.c.o q))]=Cs.eff (λ(k:Nat)=>[Value.int .i64 (x.c.o k)]) [(0+x.t,[Value.int .i64 (x.c.o (0+x.t)+1)])] q)/\True)))
theorem acX(x:vW):ahr x=wpF Tryz.prog oZ tt (noA x) 200 5 64 ((oP 0).args x) (hO 2 (flatP 1 ((oP 0).l x))) (λv h'=>endsPK 1 x v h' (oP 0).outs):=by kernel_rfl
def VX(x:eX):Prop:=
 ∃y:Unit,True/\x.now=x.now/\QK x/\QL x
theorem acY(x:eX):VX x=wpF Tryz.prog oZ tt (noA x) 200 5 45 ((nS 0).args x) (hO 2 (flatP 1 ((nS 0).l x))) (λv h'=>endsPK 1 x v h' (nS 0).outs):=by kernel_rfl
def VY(x:eX):Prop:=
 0+x.t<=x.t/\cP (Nat.beq x.t 0) (∃y:Unit,True/\(x.t=0/\0=0/\0=0)/\QK x/\(0=x.t*1/\ ∀q:Nat,q<x.t->[Value.int .i64 (x.o q)]=List.take 1 (List.drop (q*1) (@List.nil Value)))/\QL x) ((2*(0+x.t)+1000)*8<=281474976710656/\ ∃y:Unit,True/\(0=0/\x.t=0+x.t)/\QK x/\(x.t=0+x.t/\ ∀q:Nat,q<x.t->[Value.int .i64 (x.o q)]=[Value.int .i64 (x.o (0+(q-0)))])/\QL x)
theorem acZ(x:eX):VY x=wpF Tryz.prog oZ tt (noA x) 200 5 204 ((oQ 0).args x) (hO 2 (flatP 1 ((oQ 0).l x))) (λv h'=>endsPK 1 x v h' (oQ 0).outs):=by kernel_rfl
def KI(x:lN):Prop:=
 cP (decide ((x.k:Int)>=(x.d.n:Int))) (ahm x) (I64 (64-(x.b.n:Int))/\cP (decide ((x.a:Int)>64-(x.b.n:Int))) (ahm x) ((0<=(x.k:Int)/\(x.k:Int)<(x.d.n:Int))/\0<=(x.a:Int)/\(x.a<=64/\64<=64/\64<=64)/\(0+x.k)*193+0+x.a+(64-x.a)<=x.d.n*193/\cP (Nat.ble x.b.n (64-x.a)) (x.b.q+x.b.n<=x.b.N/\(∀k:Nat,k<x.b.n->ahp x.b k)/\I64 (x.d.st+1)/\ ∃y:Unit,True/\(0:Int)=0/\((0=0/\lU x.d.n)/\x.d.st+1=x.d.st+1/\Ja x.d)/\aax x.b/\(x.d.n*193=x.d.n*193/\ ∀q:Nat,q<x.d.n*193->Cs.eff (gu (x.d.store x.k x.a x.b.n (λ(q_1:Nat)=>x.b.g (x.b.q+q_1)))) [] q=Cs.eff (λ(p:Nat)=>cond (Nat.ble ((0+x.k)*193+0+x.a) p&&Nat.blt p ((0+x.k)*193+0+x.a+x.b.n)) [Value.int .u8 (x.b.g (x.b.q+(p-((0+x.k)*193+0+x.a))))] (Cs.eff (gu x.d) [] p)) [] q)/\True) (x.b.q+(64-x.a)<=x.b.N/\(∀k:Nat,k<64-x.a->ahp x.b k)/\I64 (x.d.st+1)/\ ∃y:Unit,True/\(0:Int)=0/\((0=0/\lU x.d.n)/\x.d.st+1=x.d.st+1/\Ja x.d)/\aax x.b/\(x.d.n*193=x.d.n*193/\ ∀q:Nat,q<x.d.n*193->Cs.eff (gu (x.d.store x.k x.a x.b.n (λ(q_1:Nat)=>x.b.g (x.b.q+q_1)))) [] q=Cs.eff (λ(p:Nat)=>cond (Nat.ble ((0+x.k)*193+0+x.a) p&&Nat.blt p ((0+x.k)*193+0+x.a+(64-x.a))) [Value.int .u8 (x.b.g (x.b.q+(p-((0+x.k)*193+0+x.a))))] (Cs.eff (gu x.d) [] p)) [] q)/\True)))
theorem VZ(x:lN):KI x=wpF Tryz.prog oZ tt (noA x) 200 5 62 (I9.args x) (hO 3 (flatP 2 (I9.l x))) (λv h'=>endsPK 2 x v h' I9.outs):=by kernel_rfl
def ahs(x:Qq):Prop:=
 cP (decide ((x.k:Int)>=(x.d.n:Int))) (∃y:Unit,True/\False) (I64 (64:Int)/\(0<=(x.k:Int)/\(x.k:Int)<(x.d.n:Int))/\(0<=64/\64<=64/\64<=64)/\(0+x.k)*193+0+0+64<=x.d.n*193/\(2*(0+64)+1000)*1<=281474976710656/\ ∃y:Unit,True/\((0=0/\64=0+64)/\(0:Int)=0/\True)/\((0=0/\lU x.d.n)/\x.d.st=x.d.st/\Ja x.d)/\(64=64/\ ∀q:Nat,q<64->[Value.int .u8 (x.d.b (x.k*193+q))]=Cs.eff (λ(q_1:Nat)=>cond (Nat.blt q_1 0) (@List.nil Value) (Cs.eff (gu x.d) [] ((0+x.k)*193+0+0+(q_1-0)))) [] q)/\(x.d.n*193=x.d.n*193/\ ∀q:Nat,q<x.d.n*193->Cs.eff (gu x.d) [] q=Cs.eff (gu x.d) [] q)/\True)
theorem aht(x:Qq):ahs x=wpF Tryz.prog oZ tt (noA x) 200 5 181 (ahi.args x) (hO 2 (flatP 1 (ahi.l x))) (λv h'=>endsPK 1 x v h' ahi.outs):=by kernel_rfl
theorem V3(x:Nat)(hx:1<=x/\x<=4):ahq x:=by
 unfold ahq;simp only[aay,lU];simp only[aZ,aV,aU,aA,aI,bQ,bF,aO,aK,ay,aX,aW,bT,bG,bH,bI,bU,bC,bJ,bn,eH,aH,aN,ah,ak,aB,aF,aC,aG];exact bf (λh=>absurd (aS h) (by omega)) λ_=>bf (λh=>absurd (aS h) (by omega)) λ_=>by omega
theorem ahu(f:Nat->Int)(k:Nat)(v:Int)(q:Nat):[Value.int .u64 (if q=k then v else f q)]=Cs.eff (λk=>[Value.int .u64 (f k)]) [(k,[Value.int .u64 v])] q:=by
 simp only[Cs.eff,bV,dh,dB,dI,<-Bool.decide_and];by_cases h:q=k
 ·rw[if_pos h,if_pos h]
 ·rw[if_neg h,if_neg h]
theorem QM(x:ZRdT)(hx:x.r.ok/\x.k<x.r.t):VU x:=by
 unfold VU;simp only[aho,ahl,aaz,KH,lU];simp only[aZ,aV,aU,aA,aI,bQ,bF,aO,aK,ay,aX,aW,bT,bG,bH,bI,bU,bC,bJ,bn,eH,aH,aN,ah,ak,aB,aF,aC,aG];refine bf (λh=>absurd (aS h) (by omega)) λ_=>⟨by omega,hx.2,bf (λh=>⟨hx.2,.inl ⟨aS h,λq _=>ahu _ _ _ _⟩⟩) λh=>⟨hx.2,.inr (aT h)⟩⟩
theorem QN(x:ZRdT)(hx:x.r.ok/\x.k<x.r.t):VW x:=by
 unfold VW;simp only[KH,aaz,ahn,lU];simp only[aZ,aV,aU,aA,aI,bQ,bF,aO,aK,ay,aX,aW,bT,bG,bH,bI,bU,bC,bJ,bn,eH,aH,aN,ah,ak,aB,aF,aC,aG];refine bf (λh=>absurd (aS h) (by omega)) λ_=>⟨by omega,hx.2,hx.2,bf (λh=>⟨if_pos (beq_iff_eq.1 h),λq _=>ahu _ _ _ _⟩) λh=>⟨if_neg (λe=>by simp[e]at h),λq _=>ahu _ _ _ _⟩⟩
theorem ac0(x:ZRd)(hx:x.ok):aq6 x:=by
 unfold aq6;simp only[ahl,KH,lU];simp only[aZ,aV,aU,aA,aI,bQ,bF,aO,aK,ay,aX,aW,bT,bG,bH,bI,bU,bC,bJ,bn,eH,aH,aN,ah,ak,aB,aF,aC,aG]
theorem QO(x:vW)(hx:x.c.ok/\x.t<x.c.t):ahr x:=VA x hx
theorem QS(x:eX)(hx:x.ok):VX x:=by
 unfold VX;simp only[QK,QL,ahj,ahk,lU];simp only[aZ,aV,aU,aA,aI,bQ,bF,aO,aK,ay,aX,aW,bT,bG,bH,bI,bU,bC,bJ,bn,eH,aH,aN,ah,ak,aB,aF,aC,aG]
theorem QT(x:eX)(hx:x.ok):VY x:=by
 have:=hx.1;have:=hx.2.1;unfold VY;simp only[QK,QL,ahj,ahk,lU];simp only[aZ,aV,aU,aA,aI,bQ,bF,aO,aK,ay,aX,aW,bT,bG,bH,bI,bU,bC,bJ,bn,eH,aH,aN,ah,ak,aB,aF,aC,aG];exact⟨by omega,bf (λh=>absurd (au h) (by omega)) λ_=>by omega⟩
theorem KJ(x:lN)(hx:x.d.ok/\x.k<x.d.n/\x.b.ok/\x.a+x.b.n<=64):KI x:=by
 have h:=BG x hx;unfold KA at h;simp only[amd,aaf,ou,Vo,lQ,Qr,Vm,acJ]at h;unfold KI;simp only[ahm,ahp,lU,Ja,aax];simp only[aZ,aV,aU,aA,aI,bQ,bF,aO,aK,ay,aX,aW,bT,bG,bH,bI,bU,bC,bJ,bn,eH,aH,aN,ah,ak,aB,aF,aC,aG]at h ⊢;exact h
theorem V4(x:Qq)(hx:x.d.ok/\x.k<x.d.n):ahs x:=by
 have:=hx.1.1;unfold ahs;simp only[lU,Ja];simp only[aZ,aV,aU,aA,aI,bQ,bF,aO,aK,ay,aX,aW,bT,bG,bH,bI,bU,bC,bJ,bn,eH,aH,aN,ah,ak,aB,aF,aC,aG];refine bf (λh=>absurd (aS h) (by omega)) λ_=>⟨by unfold I64;omega,by omega,by omega,by omega,by omega,λq hq=> ?_⟩
 rw[oO,show Nat.blt q 0=false by simp[bV],aQ,show(x.k*193+q)%193=q by omega,if_neg (by omega)]
theorem amx:bY Tryz.prog 199 QI.ctr:=cO dD mixed dP 2 noA 200 5 (λ_=>⟨rfl,rfl,rfl,rfl⟩) λx hx=>Eq.mp (acV x) (QM x (aZ.1 hx))
theorem amy:bY Tryz.prog 211 QJ.ctr:=cO dD mixed dP 2 noA 200 5 (λ_=>⟨rfl,rfl,rfl,rfl⟩) λx hx=>Eq.mp (acW x) (QN x (aZ.1 hx))
theorem at6:bY Tryz.prog 67 atY.ctr:=cO dD mixed dP 2 noA 200 5 (λ_=>⟨rfl,rfl,rfl,rfl⟩) λx hx=>Eq.mp (amw x) (ac0 x (aZ.1 hx))
theorem amA:bY Tryz.prog 64 (oP 0).ctr:=cO dD mixed dP 2 noA 200 5 (λ_=>⟨rfl,rfl,rfl,rfl⟩) λx hx=>Eq.mp (acX x) (QO x (aZ.1 hx))
theorem aaA:bY Tryz.prog 45 (nS 0).ctr:=cO dD mixed dP 2 noA 200 5 (λ_=>⟨rfl,rfl,rfl,rfl⟩) λx hx=>Eq.mp (acY x) (QS x (aZ.1 hx))
theorem amB:bY Tryz.prog 204 (oQ 0).ctr:=cO dD mixed dP 2 noA 200 5 (λ_=>⟨rfl,rfl,rfl,rfl⟩) λx hx=>Eq.mp (acZ x) (QT x (aZ.1 hx))
theorem QU:bY Tryz.prog 62 I9.ctr:=cO dD mixed dP 3 noA 200 5 (λ_=>⟨rfl,rfl,rfl,rfl⟩) λx hx=>Eq.mp (VZ x) (KJ x (aZ.1 hx))
theorem aq7:bY Tryz.prog 181 ahi.ctr:=cO dD mixed dP 2 noA 200 5 (λ_=>⟨rfl,rfl,rfl,rfl⟩) λx hx=>Eq.mp (aht x) (V4 x (aZ.1 hx))
theorem jP{P:Program}{f:FuncId}{C:Ctr}(h: ∀x,C.pre x-> ∃D:Ctr,bY P f D/\D.k=C.k/\ ∃y:D.X,D.pre y/\D.args y=C.args x/\D.os y=C.os x/\ ∀v h',kU y v h' D.outs->kU x v h' C.outs):bY P f C:=λx hx=>by
 obtain⟨D,hD,hk,y,hp,ha,ho,hq⟩:=h x hx;obtain⟨h1,h2⟩:=hD y hp;rw[ho,hk]at h1;rw[ha,hk,ho]at h2;exact⟨h1,h2.mono hq⟩
structure iq where
 line:Int
 cls:Int
 r:Int
 d:Int
 anti:Int
namespace iq
def cs(e:iq):List Value:=[.int .i64 e.line,.int .i64 e.cls,.int .u64 e.r,.int .u64 e.d,.int .i64 e.anti]
def av(e:iq):AV:= .agg [i64 e.line,i64 e.cls,u64 e.r,u64 e.d,i64 e.anti]
def may(e:iq):Prop:=2<=e.line/\e.line<258/\0<=e.cls/\e.cls<=3/\ -1<=e.anti/\e.anti<258
end iq
structure iF where
 z:Bool
 n:Nat
 e:Nat->iq
namespace iF
def ok(b:iF):Prop:=b.n<=258/\(b.z=true->b.n=0)
def row(b:iF):Cs:= .row 5 b.n (λi=>(b.e i).cs) []
def osP(b:iF):List dA:=[.cells 183 (.av [.slW 1 0 5 b.n]),.room 70 b.row]
def osN:List dA:=[.cells 183 (.av [ig])]
def os(b:iF):List dA:=bif b.z then osN else b.osP
def put(b:iF)(x:iq):iF:=if b.n<258 then⟨false,b.n+1,λi=>if i=b.n then x else b.e i⟩else b
end iF
structure CJ where
 b:iF
 x:iq
def rO(z:Bool):jg:=ql CJ (λx=>[.ptr 0 0,x.x.av]) 1 (λx=>[.m (bif z then iF.osN else x.b.osP)]) (λx=>Hd (x.b.ok/\x.x.may/\x.b.z=z)) (λx=>i64 (if x.b.n<258 then 0 else 11)) 1 (λx=>[.m (x.b.put x.x).osP])
def KL:jg:=ql Unit (λ_=>[.ptr 0 0]) 1 (λ_=>[.m iF.osN]) (λ_=>Hd True) (λ_=>ig) 1 (λ_=>[.m iF.osN])
def KN:jg:=ql iF (λ_=>[.ptr 0 0]) 1 (λb=>[.m b.osP]) (λb=>Hd (b.ok/\b.z=false)) (λb=> .slW 1 0 5 b.n) 2 (λb=>[.m b.osP,.o (.room 70 b.row)])
structure ZLnk where
 key:ByteArray
 id:Int
 ver:Int
 line:Int
 cls:Int
namespace ZLnk
def cs(e:ZLnk):List Value:=[.string e.key,.int .u64 e.id,.int .u64 e.ver,.int .i64 e.line,.int .i64 e.cls]
def av(e:ZLnk):AV:= .agg [.lit (.string e.key),u64 e.id,u64 e.ver,i64 e.line,i64 e.cls]
end ZLnk
def iT:ZLnk:=⟨⟨#[]⟩,0,0,0,0⟩
structure ZLn where
 len:Nat
 cap:Nat
 at_:Nat
 n:Nat
 e:Nat->ZLnk
namespace ZLn
def ok(l:ZLn):Prop:=l.cap<1099511627776/\l.len<=l.cap/\l.n<=l.len/\(l.len=0->l.at_=0)/\(l.len≠0->l.at_<l.len)
def row(l:ZLn):Cs:= .row 5 l.cap (λi=>(l.e i).cs) []
def osP(l:ZLn):List dA:=[.cells 127 (.av [.slE 1 0 5 l.len l.cap,i64 l.at_,i64 l.n]),.cells 41 l.row]
def osN:List dA:=[.cells 127 (.av [ig,i64 0,i64 0])]
def os(l:ZLn):List dA:=bif Nat.beq l.len 0 then osN else l.osP
def get(l:ZLn)(i:Nat):ZLnk:=l.e ((l.at_+i)%l.len)
def push(l:ZLn)(x:ZLnk):ZLn:=if l.n=l.len then⟨l.n+1,2*l.n+1,0,l.n+1,λi=>if i<l.n then l.get i else if i=l.n then x else iT⟩else⟨l.len,l.cap,l.at_,l.n+1,λi=>if i=(l.at_+l.n)%l.len then x else l.e i⟩
def pop(l:ZLn):ZLn:=if l.n=0 then l else⟨l.len,l.cap,(l.at_+1)%l.len,l.n-1,λi=>if i=l.at_ then iT else l.e i⟩
def head(l:ZLn):ZLnk:=if l.n=0 then iT else l.get 0
end ZLn
structure ak9 where
 l:ZLn
 x:ZLnk
def yI:jg:=ql ZLnk (λx=>[.ptr 0 0,x.av]) 1 (λ_=>[.m ZLn.osN]) (λ_=>Hd True) (λ_=> .tup []) 1 (λx=>[.m (ZLn.osP ⟨1,1,0,1,λi=>if i=0 then x else iT⟩)])
def yJ:jg:=ql ak9 (λx=>[.ptr 0 0,x.x.av]) 1 (λx=>[.m x.l.osP]) (λx=>Hd (x.l.ok/\x.l.len≠0)) (λ_=> .tup []) 1 (λx=>[.m (x.l.push x.x).osP])
def Dp:jg:=ql Unit (λ_=>[.ptr 0 0]) 1 (λ_=>[.m ZLn.osN]) (λ_=>Hd True) (λ_=> .tup [iT.av,boo false]) 1 (λ_=>[.m ZLn.osN])
def Dq:jg:=ql ZLn (λ_=>[.ptr 0 0]) 1 (λl=>[.m l.osP]) (λl=>Hd (l.ok/\l.len≠0)) (λl=> .tup [l.head.av,boo (decide (l.n≠0))]) 1 (λl=>[.m l.pop.osP])
def ZLn.all(l:ZLn)(i:Nat):Cs:= .row 5 i (λj=>(l.get j).cs) []
def Dt:jg:=ql Unit (λ_=>[.ptr 0 0]) 1 (λ_=>[.m ZLn.osN]) (λ_=>Hd True) (λ_=>ig) 1 (λ_=>[.m ZLn.osN])
def Du:jg:={X:=ZLn,args:=λ_=>[.ptr 0 0],k:=1,l:=λl=>[.m l.osP],pre:=λl=>Hd (l.ok/\l.len≠0),outs:=[
 {Y:=Unit,post:=λl _=>Hd (l.n=0),ret:=λ_ _=>ig,m:=1,l:=λl _=>[.m l.osP]},
 {Y:=Unit,post:=λl _=>Hd (l.n≠0),ret:=λl _=> .slW 1 0 5 l.n,m:=2,l:=λl _=>[.m l.osP,.o (.room 41 (l.all l.n))]}]}
def at7(l:ZLn):FuncId->qR:=λf=>bif Nat.beq f 123 then(λb _ _=>bif Nat.beq b 0 then [
 {σ:=Unit,fr:=λ_=>[(9,i64 0),(3,ig)],ob:=λ_=>[],inv:=λ_=>Hd True,meas:=λ_=>l.n+1,test:=λfr _=>(match SE.look fr 3 with| .lit _=>true|_=>false)},
 {σ:=Nat,fr:=λi=>[(9,i64 i),(3,.slW 2 0 5 i)],ob:=λi=>[(2,some (.room 41 (l.all i)))],inv:=λi=>Hd (1<=i/\i<=l.n),meas:=λi=>l.n-i,nx:=1,test:=λfr _=>(match SE.look fr 3 with| .lit _=>false|_=>true)}]else [])elseλ_ _ _=>[]
def Jb(a:ak9):Prop:=((ZLn.at_ (a.l.push a.x):Nat):Int)=0/\((ZLn.n (a.l.push a.x):Nat):Int)=(a.l.n:Int)+1/\True
def ahv(a:ak9):Prop:=I64 ((a.l.n:Int)+1)/\True/\ ∃y:Unit,True/\True/\(False/\Jb a)/\(ZLn.cap (a.l.push a.x)=a.l.cap/\ ∀q:Nat,q<ZLn.cap (a.l.push a.x)->[Value.string (ZLnk.key (ZLn.e (a.l.push a.x) q)),Value.int .u64 (ZLnk.id (ZLn.e (a.l.push a.x) q)),Value.int .u64 (ZLnk.ver (ZLn.e (a.l.push a.x) q)),Value.int .i64 (ZLnk.line (ZLn.e (a.l.push a.x) q)),Value.int .i64 (ZLnk.cls (ZLn.e (a.l.push a.x) q))]=[Value.string (ZLnk.key (a.l.e q)),Value.int .u64 (ZLnk.id (a.l.e q)),Value.int .u64 (ZLnk.ver (a.l.e q)),Value.int .i64 (ZLnk.line (a.l.e q)),Value.int .i64 (ZLnk.cls (a.l.e q))])/\True
def ac1(a:ZLn):Prop:=a.cap=a.cap/\ ∀q:Nat,q<a.cap->[Value.string (ZLnk.key (a.e q)),Value.int .u64 (ZLnk.id (a.e q)),Value.int .u64 (ZLnk.ver (a.e q)),Value.int .i64 (ZLnk.line (a.e q)),Value.int .i64 (ZLnk.cls (a.e q))]=[Value.string (ZLnk.key (a.e q)),Value.int .u64 (ZLnk.id (a.e q)),Value.int .u64 (ZLnk.ver (a.e q)),Value.int .i64 (ZLnk.line (a.e q)),Value.int .i64 (ZLnk.cls (a.e q))]
def aq8(a:CJ):Prop:=((0=0/\iF.n (a.b.put a.x)=a.b.n)/\True)/\(iF.n (a.b.put a.x)=a.b.n/\ ∀q:Nat,q<iF.n (a.b.put a.x)->[Value.int .i64 (iq.line (iF.e (a.b.put a.x) q)),Value.int .i64 (iq.cls (iF.e (a.b.put a.x) q)),Value.int .u64 (iq.r (iF.e (a.b.put a.x) q)),Value.int .u64 (iq.d (iF.e (a.b.put a.x) q)),Value.int .i64 (iq.anti (iF.e (a.b.put a.x) q))]=[Value.int .i64 (iq.line (a.b.e q)),Value.int .i64 (iq.cls (a.b.e q)),Value.int .u64 (iq.r (a.b.e q)),Value.int .u64 (iq.d (a.b.e q)),Value.int .i64 (iq.anti (a.b.e q))])/\True
def Jc(a:CJ):Prop:=True/\ite (a.b.n<258) (0:Int) (11:Int)=1/\(False/\True)/\(List.length [Value.int .i64 a.x.line,Value.int .i64 a.x.cls,Value.int .u64 a.x.r,Value.int .u64 a.x.d,Value.int .i64 a.x.anti]=iF.n (a.b.put a.x)*5/\ ∀q:Nat,q<iF.n (a.b.put a.x)->[Value.int .i64 (iq.line (iF.e (a.b.put a.x) q)),Value.int .i64 (iq.cls (iF.e (a.b.put a.x) q)),Value.int .u64 (iq.r (iF.e (a.b.put a.x) q)),Value.int .u64 (iq.d (iF.e (a.b.put a.x) q)),Value.int .i64 (iq.anti (iF.e (a.b.put a.x) q))]=List.take 5 (List.drop (q*5) [Value.int .i64 a.x.line,Value.int .i64 a.x.cls,Value.int .u64 a.x.r,Value.int .u64 a.x.d,Value.int .i64 a.x.anti]))/\True
def Jd(a:CJ):Prop:=True/\ite (a.b.n<258) (0:Int) (11:Int)=1/\aq8 a
def yK(a:ZLnk):Prop:=List.all [List.take 5 [Value.string a.key,Value.int .u64 a.id,Value.int .u64 a.ver,Value.int .i64 a.line,Value.int .i64 a.cls]] (λ(l:List Value)=>Nat.beq (List.length l) 5&&List.all l Value.oneCell')=true
def aaB(a:ZLn):Prop:= ∀k:Nat,k<a.at_-0->(Nat.beq (List.length [Value.string (ZLnk.key (a.e (0+k))),Value.int .u64 (ZLnk.id (a.e (0+k))),Value.int .u64 (ZLnk.ver (a.e (0+k))),Value.int .i64 (ZLnk.line (a.e (0+k))),Value.int .i64 (ZLnk.cls (a.e (0+k)))]) 5&&List.all [Value.string (ZLnk.key (a.e (0+k))),Value.int .u64 (ZLnk.id (a.e (0+k))),Value.int .u64 (ZLnk.ver (a.e (0+k))),Value.int .i64 (ZLnk.line (a.e (0+k))),Value.int .i64 (ZLnk.cls (a.e (0+k)))] Value.oneCell')=true
def Je(a:ZLn):Prop:=(0=0/\a.len=a.len/\a.cap=a.cap)/\(a.at_:Int)=(a.at_:Int)/\(a.n:Int)=(a.n:Int)/\True
def ahw(a:ak9):Prop:=(2*(0+(a.l.len-a.l.at_)+(a.l.at_-0)+1)+1000)*48<=281474976710656/\ahv a
def ahx(a:ak9):Prop:=(2*(0+(a.l.len-a.l.at_)+(a.l.at_-0))+1000)*48<=281474976710656/\True/\True/\0+(a.l.len-a.l.at_)+(a.l.at_-0)=0+(a.l.len-a.l.at_)+(a.l.at_-0)/\yK a.x/\ahw a
def ahy(a:iF):Prop:=(a.n=a.n/\ ∀q:Nat,q<a.n->[Value.int .i64 (iq.line (a.e q)),Value.int .i64 (iq.cls (a.e q)),Value.int .u64 (iq.r (a.e q)),Value.int .u64 (iq.d (a.e q)),Value.int .i64 (iq.anti (a.e q))]=[Value.int .i64 (iq.line (a.e q)),Value.int .i64 (iq.cls (a.e q)),Value.int .u64 (iq.r (a.e q)),Value.int .u64 (iq.d (a.e q)),Value.int .i64 (iq.anti (a.e q))])/\True
def yL(a:ak9):Prop:=ZLn.cap (a.l.push a.x)=Int.toNat (2*(a.l.n:Int)+1)
def vG:Prop:=Value.slice none 0 0=Value.slice none 0 0
def aaC:Prop:=(vG/\(0:Int)=0/\(0:Int)=0/\True)/\True
def apc(a:ZLn):Prop:=(a.head.key=ZLnk.key (a.e (0+a.at_))/\a.head.id=ZLnk.id (a.e (0+a.at_))/\a.head.ver=ZLnk.ver (a.e (0+a.at_))/\a.head.line=ZLnk.line (a.e (0+a.at_))/\a.head.cls=ZLnk.cls (a.e (0+a.at_))/\True)/\decide (a.n≠0)=true/\True
def apd:Prop:= ∃y:Unit,True/\((ByteArray.mk #[]=ByteArray.mk #[]/\(0:Int)=0/\(0:Int)=0/\(0:Int)=0/\(0:Int)=0/\True)/\false=false/\True)/\aaC
def ape(a:ZLn):Prop:=(a.head.key=ByteArray.mk #[]/\a.head.id=0/\a.head.ver=0/\a.head.line=0/\a.head.cls=0/\True)/\decide (a.n≠0)=false/\True
def aaD(a:ZLn):Prop:=0+(0+(a.len-a.at_))<=Int.toNat (2*(a.n:Int)+1)
def aaE(a:ZLn):Prop:=0<=a.at_/\a.at_<=a.cap/\a.cap<=a.cap
def ahz(a:ZLn):Prop:=0<=(a.at_:Int)/\(a.at_:Int)<(a.len:Int)
def ahA(a:ZLn):Prop:=Je a/\ac1 a/\True
def EK(x:CJ):Prop:=
 cP (decide (x.x.line>=(2:Int))) (cP (decide (x.x.line<258)) (∃x_1:Int,True/\(x_1=x.x.cls/\True)/\True/\ ∀y:Unit,True->cP (decide (spn x_1>(0:Int))) (cP (decide (x.x.anti>=(-(1:Int)))) (cP (Bool.not (decide (x.x.anti<258))) (∃y_1:Unit,Jc x) ((AV.lit (Value.slice none 0 0)=AV.lit (Value.slice none 0 0)/\True)/\(2*(0+1)+1000)*40<=281474976710656/\True/\True/\ ∃y_1:Unit,True/\ite (x.b.n<258) (0:Int) (11:Int)=0/\((0=0/\iF.n (x.b.put x.x)=1)/\True)/\(iF.n (x.b.put x.x)=0+List.length [List.take 5 [Value.int .i64 x.x.line,Value.int .i64 x.x.cls,Value.int .u64 x.x.r,Value.int .u64 x.x.d,Value.int .i64 x.x.anti]]/\ ∀q:Nat,q<iF.n (x.b.put x.x)->[Value.int .i64 (iq.line (iF.e (x.b.put x.x) q)),Value.int .i64 (iq.cls (iF.e (x.b.put x.x) q)),Value.int .u64 (iq.r (iF.e (x.b.put x.x) q)),Value.int .u64 (iq.d (iF.e (x.b.put x.x) q)),Value.int .i64 (iq.anti (iF.e (x.b.put x.x) q))]=Cs.eff (λ(x_2:Nat)=>[]) [(0,List.take 5 [Value.int .i64 x.x.line,Value.int .i64 x.x.cls,Value.int .u64 x.x.r,Value.int .u64 x.x.d,Value.int .i64 x.x.anti])] q)/\True)) (∃y_1:Unit,Jc x)) (∃y_1:Unit,Jc x)) (∃y:Unit,Jc x)) (∃y:Unit,Jc x)
theorem QV(x:CJ):EK x=wpF Tryz.prog aml tt (noA x) 200 5 66 ((rO true).args x) (hO 1 (flatP 1 ((rO true).l x))) (λv h'=>endsPK 1 x v h' (rO true).outs):=by kernel_rfl
def EL(x:CJ):Prop:=
 cP (decide (x.x.line>=(2:Int))) (cP (decide (x.x.line<258)) (∃x_1:Int,True/\(x_1=x.x.cls/\True)/\True/\ ∀y:Unit,True->cP (decide (spn x_1>(0:Int))) (cP (decide (x.x.anti>=(-(1:Int)))) (cP (Bool.not (decide (x.x.anti<258))) (∃y_1:Unit,Jd x) (cP (decide ((x.b.n:Int)>=(258:Int))) (∃y_1:Unit,True/\ite (x.b.n<258) (0:Int) (11:Int)=11/\aq8 x) ((AV.slW 1 0 5 x.b.n=AV.slW 1 0 5 x.b.n/\True)/\x.b.n=x.b.n/\List.all [List.take 5 [Value.int .i64 x.x.line,Value.int .i64 x.x.cls,Value.int .u64 x.x.r,Value.int .u64 x.x.d,Value.int .i64 x.x.anti]] (λ(l:List Value)=>Nat.beq (List.length l) 5&&List.all l Value.oneCell')=true/\(2*(x.b.n+1)+1000)*40<=281474976710656/\True/\True/\ ∃y_1:Unit,True/\ite (x.b.n<258) (0:Int) (11:Int)=0/\((0=0/\iF.n (x.b.put x.x)=x.b.n+1)/\True)/\(iF.n (x.b.put x.x)=x.b.n+List.length [List.take 5 [Value.int .i64 x.x.line,Value.int .i64 x.x.cls,Value.int .u64 x.x.r,Value.int .u64 x.x.d,Value.int .i64 x.x.anti]]/\ ∀q:Nat,q<iF.n (x.b.put x.x)->[Value.int .i64 (iq.line (iF.e (x.b.put x.x) q)),Value.int .i64 (iq.cls (iF.e (x.b.put x.x) q)),Value.int .u64 (iq.r (iF.e (x.b.put x.x) q)),Value.int .u64 (iq.d (iF.e (x.b.put x.x) q)),Value.int .i64 (iq.anti (iF.e (x.b.put x.x) q))]=Cs.eff (λ(i:Nat)=>iq.cs (x.b.e i)) [(x.b.n,List.take 5 [Value.int .i64 x.x.line,Value.int .i64 x.x.cls,Value.int .u64 x.x.r,Value.int .u64 x.x.d,Value.int .i64 x.x.anti])] q)/\True))) (∃y_1:Unit,Jd x)) (∃y_1:Unit,Jd x)) (∃y:Unit,Jd x)) (∃y:Unit,Jd x)
theorem QW(x:CJ):EL x=wpF Tryz.prog aml tt (noA x) 200 5 66 ((rO false).args x) (hO 2 (flatP 1 ((rO false).l x))) (λv h'=>endsPK 1 x v h' (rO false).outs):=by kernel_rfl
def EM(x:Unit):Prop:=
 ∃y:Unit,True/\vG/\(vG/\True)/\True
theorem QX(x:Unit):EM x=wpF Tryz.prog oZ tt (noA x) 200 5 278 (KL.args x) (hO 1 (flatP 1 (KL.l x))) (λv h'=>endsPK 1 x v h' KL.outs):=by kernel_rfl
def EN(x:iF):Prop:=
 0+x.n<=x.n/\cP (Nat.beq x.n 0) (∃y:Unit,True/\(x.n=0/\0=0/\0=0)/\((0=0/\x.n=x.n)/\True)/\(0=x.n*5/\ ∀q:Nat,q<x.n->[Value.int .i64 (iq.line (x.e q)),Value.int .i64 (iq.cls (x.e q)),Value.int .u64 (iq.r (x.e q)),Value.int .u64 (iq.d (x.e q)),Value.int .i64 (iq.anti (x.e q))]=List.take 5 (List.drop (q*5) (@List.nil Value)))/\ahy x) ((2*(0+x.n)+1000)*40<=281474976710656/\ ∃y:Unit,True/\(0=0/\x.n=0+x.n)/\((0=0/\x.n=x.n)/\True)/\(x.n=0+x.n/\ ∀q:Nat,q<x.n->[Value.int .i64 (iq.line (x.e q)),Value.int .i64 (iq.cls (x.e q)),Value.int .u64 (iq.r (x.e q)),Value.int .u64 (iq.d (x.e q)),Value.int .i64 (iq.anti (x.e q))]=[Value.int .i64 (iq.line (x.e (0+(q-0)))),Value.int .i64 (iq.cls (x.e (0+(q-0)))),Value.int .u64 (iq.r (x.e (0+(q-0)))),Value.int .u64 (iq.d (x.e (0+(q-0)))),Value.int .i64 (iq.anti (x.e (0+(q-0))))])/\ahy x)
theorem QY(x:iF):EN x=wpF Tryz.prog oZ tt (noA x) 200 5 278 (KN.args x) (hO 2 (flatP 1 (KN.l x))) (λv h'=>endsPK 1 x v h' KN.outs):=by kernel_rfl
def wu(x:ZLnk):Prop:=
 I64 (0:Int)/\I64 (1:Int)/\((0:Int)<=0/\(0:Int)<=1/\(0:Int)<=281474976710608/\(0:Int)<=4611686018427387902)/\(0:Int)<=0/\(0<=0/\0<=0/\0<=0)/\0<=1/\True/\True/\(0:Int)<=0/\(0<=0/\0<=0/\0<=0)/\0<=1/\True/\True/\0<=1/\yK x/\0+(0+1)<=1/\I64 (1:Int)/\True/\ ∃y:Unit,True/\True/\((0=0/\1=1/\1=1)/\((0:Nat):Int)=0/\((1:Nat):Int)=1/\True)/\(1=1/\ ∀q:Nat,q<1->[Value.string (ZLnk.key (ite (q=0) x iT)),Value.int .u64 (ZLnk.id (ite (q=0) x iT)),Value.int .u64 (ZLnk.ver (ite (q=0) x iT)),Value.int .i64 (ZLnk.line (ite (q=0) x iT)),Value.int .i64 (ZLnk.cls (ite (q=0) x iT))]=Cs.eff (λ(x_1:Nat)=>[Value.string (ByteArray.mk #[]),Value.int .u64 0,Value.int .u64 0,Value.int .i64 0,Value.int .i64 0]) [(0,List.take 5 [Value.string x.key,Value.int .u64 x.id,Value.int .u64 x.ver,Value.int .i64 x.line,Value.int .i64 x.cls])] q)/\True
theorem Hq(x:ZLnk):wu x=wpF Tryz.prog oZ tt (noA x) 200 5 254 (yI.args x) (hO 1 (flatP 1 (yI.l x))) (λv h'=>endsPK 1 x v h' yI.outs):=by kernel_rfl
def wz(x:ak9):Prop:=
 cP (BEq.beq (x.l.n:Int) (x.l.len:Int)) (I64 (2*(x.l.n:Int))/\I64 (2*(x.l.n:Int)+1)/\((0:Int)<=0/\0<=2*(x.l.n:Int)+1/\48*(2*(x.l.n:Int)+1)<=281474976710656/\2*(x.l.n:Int)+1<4611686018427387904)/\0<=(x.l.at_:Int)/\(x.l.at_<=x.l.len/\x.l.len<=x.l.cap/\x.l.cap<=x.l.cap)/\0<=Int.toNat (2*(x.l.n:Int)+1)/\0+x.l.at_+(x.l.len-x.l.at_)<=x.l.cap/\cP (Nat.beq (x.l.len-x.l.at_) 0) (True/\True/\0<=(x.l.at_:Int)/\aaE x.l/\0<=Int.toNat (2*(x.l.n:Int)+1)/\0+(x.l.at_-0)<=x.l.cap/\cP (Nat.beq (x.l.at_-0) 0) (True/\True/\0<=Int.toNat (2*(x.l.n:Int)+1)/\yK x.x/\0+(0+1)<=Int.toNat (2*(x.l.n:Int)+1)/\I64 ((x.l.n:Int)+1)/\True/\ ∃y:Unit,True/\True/\((0=0/\ZLn.len (x.l.push x.x)=1/\yL x)/\Jb x)/\(yL x/\ ∀q:Nat,q<ZLn.cap (x.l.push x.x)->[Value.string (ZLnk.key (ZLn.e (x.l.push x.x) q)),Value.int .u64 (ZLnk.id (ZLn.e (x.l.push x.x) q)),Value.int .u64 (ZLnk.ver (ZLn.e (x.l.push x.x) q)),Value.int .i64 (ZLnk.line (ZLn.e (x.l.push x.x) q)),Value.int .i64 (ZLnk.cls (ZLn.e (x.l.push x.x) q))]=Cs.eff (λ(x_1:Nat)=>[Value.string (ByteArray.mk #[]),Value.int .u64 0,Value.int .u64 0,Value.int .i64 0,Value.int .i64 0]) [(0,List.take 5 [Value.string x.x.key,Value.int .u64 x.x.id,Value.int .u64 x.x.ver,Value.int .i64 x.x.line,Value.int .i64 x.x.cls])] q)/\True) (cP (Nat.ble (0+(x.l.at_-0)) (Int.toNat (2*(x.l.n:Int)+1))) (aaB x.l/\0+(0+(x.l.at_-0))<=Int.toNat (2*(x.l.n:Int)+1)/\True/\True/\0+(0+(x.l.at_-0))<=Int.toNat (2*(x.l.n:Int)+1)/\cP (Nat.ble (0+(x.l.at_-0)+1) (Int.toNat (2*(x.l.n:Int)+1))) (yK x.x/\
 0+(0+(x.l.at_-0)+1)<=Int.toNat (2*(x.l.n:Int)+1)/\I64 ((x.l.n:Int)+1)/\True/\ ∃y:Unit,True/\True/\((0=0/\ZLn.len (x.l.push x.x)=0+(x.l.at_-0)+1/\yL x)/\Jb x)/\(yL x/\ ∀q:Nat,q<ZLn.cap (x.l.push x.x)->[Value.string (ZLnk.key (ZLn.e (x.l.push x.x) q)),Value.int .u64 (ZLnk.id (ZLn.e (x.l.push x.x) q)),Value.int .u64 (ZLnk.ver (ZLn.e (x.l.push x.x) q)),Value.int .i64 (ZLnk.line (ZLn.e (x.l.push x.x) q)),Value.int .i64 (ZLnk.cls (ZLn.e (x.l.push x.x) q))]=Cs.eff (λ(p:Nat)=>cond (Nat.ble 0 p&&Nat.blt p (0+(x.l.at_-0))) [Value.string (ZLnk.key (x.l.e (0+(p-0)))),Value.int .u64 (ZLnk.id (x.l.e (0+(p-0)))),Value.int .u64 (ZLnk.ver (x.l.e (0+(p-0)))),Value.int .i64 (ZLnk.line (x.l.e (0+(p-0)))),Value.int .i64 (ZLnk.cls (x.l.e (0+(p-0))))] [Value.string (ByteArray.mk #[]),Value.int .u64 0,Value.int .u64 0,Value.int .i64 0,Value.int .i64 0]) [(0+(0+(x.l.at_-0)),List.take 5 [Value.string x.x.key,Value.int .u64 x.x.id,Value.int .u64 x.x.ver,Value.int .i64 x.x.line,Value.int .i64 x.x.cls])] q)/\True) ((2*(0+(x.l.at_-0)+1)+1000)*48<=281474976710656/\ahv x)) ((2*(0+(x.l.at_-0))+1000)*48<=281474976710656/\True/\True/\0+(x.l.at_-0)=0+(x.l.at_-0)/\yK x.x/\(2*(0+(x.l.at_-0)+1)+1000)*48<=281474976710656/\
 ahv x))) (cP (Nat.ble (0+(x.l.len-x.l.at_)) (Int.toNat (2*(x.l.n:Int)+1))) ((∀k:Nat,k<x.l.len-x.l.at_->(Nat.beq (List.length [Value.string (ZLnk.key (x.l.e (0+x.l.at_+k))),Value.int .u64 (ZLnk.id (x.l.e (0+x.l.at_+k))),Value.int .u64 (ZLnk.ver (x.l.e (0+x.l.at_+k))),Value.int .i64 (ZLnk.line (x.l.e (0+x.l.at_+k))),Value.int .i64 (ZLnk.cls (x.l.e (0+x.l.at_+k)))]) 5&&List.all [Value.string (ZLnk.key (x.l.e (0+x.l.at_+k))),Value.int .u64 (ZLnk.id (x.l.e (0+x.l.at_+k))),Value.int .u64 (ZLnk.ver (x.l.e (0+x.l.at_+k))),Value.int .i64 (ZLnk.line (x.l.e (0+x.l.at_+k))),Value.int .i64 (ZLnk.cls (x.l.e (0+x.l.at_+k)))] Value.oneCell')=true)/\aaD x.l/\True/\True/\0<=(x.l.at_:Int)/\aaE x.l/\aaD x.l/\0+(x.l.at_-0)<=x.l.cap/\cP (Nat.beq (x.l.at_-0) 0) (True/\True/\aaD x.l/\cP (Nat.ble (0+(x.l.len-x.l.at_)+1) (Int.toNat (2*(x.l.n:Int)+1))) (yK x.x/\0+(0+(x.l.len-x.l.at_)+1)<=Int.toNat (2*(x.l.n:Int)+1)/\I64 ((x.l.n:Int)+1)/\True/\ ∃y:Unit,True/\True/\((0=0/\ZLn.len (x.l.push x.x)=0+(x.l.len-x.l.at_)+1/\yL x)/\Jb x)/\(yL x/\
 ∀q:Nat,q<ZLn.cap (x.l.push x.x)->[Value.string (ZLnk.key (ZLn.e (x.l.push x.x) q)),Value.int .u64 (ZLnk.id (ZLn.e (x.l.push x.x) q)),Value.int .u64 (ZLnk.ver (ZLn.e (x.l.push x.x) q)),Value.int .i64 (ZLnk.line (ZLn.e (x.l.push x.x) q)),Value.int .i64 (ZLnk.cls (ZLn.e (x.l.push x.x) q))]=Cs.eff (λ(p:Nat)=>cond (Nat.ble 0 p&&Nat.blt p (0+(x.l.len-x.l.at_))) [Value.string (ZLnk.key (x.l.e (0+x.l.at_+(p-0)))),Value.int .u64 (ZLnk.id (x.l.e (0+x.l.at_+(p-0)))),Value.int .u64 (ZLnk.ver (x.l.e (0+x.l.at_+(p-0)))),Value.int .i64 (ZLnk.line (x.l.e (0+x.l.at_+(p-0)))),Value.int .i64 (ZLnk.cls (x.l.e (0+x.l.at_+(p-0))))] [Value.string (ByteArray.mk #[]),Value.int .u64 0,Value.int .u64 0,Value.int .i64 0,Value.int .i64 0]) [(0+(0+(x.l.len-x.l.at_)),List.take 5 [Value.string x.x.key,Value.int .u64 x.x.id,Value.int .u64 x.x.ver,Value.int .i64 x.x.line,Value.int .i64 x.x.cls])] q)/\True) ((2*(0+(x.l.len-x.l.at_)+1)+1000)*48<=281474976710656/\ahv x)) (cP (Nat.ble (0+(x.l.len-x.l.at_)+(x.l.at_-0)) (Int.toNat (2*(x.l.n:Int)+1))) (aaB x.l/\0+(0+(x.l.len-x.l.at_)+(x.l.at_-0))<=Int.toNat (2*(x.l.n:Int)+1)/\True/\True/\0+(0+(x.l.len-x.l.at_)+(x.l.at_-0))<=Int.toNat (2*(x.l.n:Int)+1)/\cP (Nat.ble (0+(x.l.len-x.l.at_)+(x.l.at_-0)+1) (Int.toNat (2*(x.l.n:Int)+1))) (yK x.x/\0+(0+(x.l.len-x.l.at_)+(x.l.at_-0)+1)<=Int.toNat (2*(x.l.n:Int)+1)/\I64 ((x.l.n:Int)+1)/\True/\ ∃y:Unit,True/\True/\((0=0/\ZLn.len (x.l.push x.x)=0+(x.l.len-x.l.at_)+(x.l.at_-0)+1/\yL x)/\Jb x)/\(yL x/\
 ∀q:Nat,q<ZLn.cap (x.l.push x.x)->[Value.string (ZLnk.key (ZLn.e (x.l.push x.x) q)),Value.int .u64 (ZLnk.id (ZLn.e (x.l.push x.x) q)),Value.int .u64 (ZLnk.ver (ZLn.e (x.l.push x.x) q)),Value.int .i64 (ZLnk.line (ZLn.e (x.l.push x.x) q)),Value.int .i64 (ZLnk.cls (ZLn.e (x.l.push x.x) q))]=Cs.eff (λ(p:Nat)=>cond (Nat.ble (0+(0+(x.l.len-x.l.at_))) p&&Nat.blt p (0+(0+(x.l.len-x.l.at_))+(x.l.at_-0))) [Value.string (ZLnk.key (x.l.e (0+(p-(0+(0+(x.l.len-x.l.at_))))))),Value.int .u64 (ZLnk.id (x.l.e (0+(p-(0+(0+(x.l.len-x.l.at_))))))),Value.int .u64 (ZLnk.ver (x.l.e (0+(p-(0+(0+(x.l.len-x.l.at_))))))),Value.int .i64 (ZLnk.line (x.l.e (0+(p-(0+(0+(x.l.len-x.l.at_))))))),Value.int .i64 (ZLnk.cls (x.l.e (0+(p-(0+(0+(x.l.len-x.l.at_)))))))] (Cs.eff (λ(p_1:Nat)=>cond (Nat.ble 0 p_1&&Nat.blt p_1 (0+(x.l.len-x.l.at_))) [Value.string (ZLnk.key (x.l.e (0+x.l.at_+(p_1-0)))),Value.int .u64 (ZLnk.id (x.l.e (0+x.l.at_+(p_1-0)))),Value.int .u64 (ZLnk.ver (x.l.e (0+x.l.at_+(p_1-0)))),Value.int .i64 (ZLnk.line (x.l.e (0+x.l.at_+(p_1-0)))),Value.int .i64 (ZLnk.cls (x.l.e (0+x.l.at_+(p_1-0))))] [Value.string (ByteArray.mk #[]),Value.int .u64 0,Value.int .u64 0,Value.int .i64 0,Value.int .i64 0]) [] p)) [(0+(0+(x.l.len-x.l.at_)+(x.l.at_-0)),List.take 5 [Value.string x.x.key,Value.int .u64 x.x.id,Value.int .u64 x.x.ver,Value.int .i64 x.x.line,Value.int .i64 x.x.cls])] q)/\True) (ahw x)) (ahx x))) ((2*(0+(x.l.len-x.l.at_))+1000)*48<=281474976710656/\True/\True/\0<=(x.l.at_:Int)/\aaE x.l/\0+(x.l.len-x.l.at_)=0+(x.l.len-x.l.at_)/\0+(x.l.at_-0)<=x.l.cap/\aaB x.l/\
 ahx x))) (I64 ((x.l.at_:Int)+(x.l.n:Int))/\((x.l.len:Int)=0->False)/\(0<=Int.tmod ((x.l.at_:Int)+(x.l.n:Int)) (x.l.len:Int)/\Int.tmod ((x.l.at_:Int)+(x.l.n:Int)) (x.l.len:Int)<(x.l.len:Int))/\0+Int.toNat (Int.tmod ((x.l.at_:Int)+(x.l.n:Int)) (x.l.len:Int))<x.l.cap/\True/\I64 ((x.l.n:Int)+1)/\True/\ ∃y:Unit,True/\True/\((0=0/\ZLn.len (x.l.push x.x)=x.l.len/\ZLn.cap (x.l.push x.x)=x.l.cap)/\((ZLn.at_ (x.l.push x.x):Nat):Int)=(x.l.at_:Int)/\((ZLn.n (x.l.push x.x):Nat):Int)=(x.l.n:Int)+1/\True)/\(ZLn.cap (x.l.push x.x)=x.l.cap/\ ∀q:Nat,q<ZLn.cap (x.l.push x.x)->[Value.string (ZLnk.key (ZLn.e (x.l.push x.x) q)),Value.int .u64 (ZLnk.id (ZLn.e (x.l.push x.x) q)),Value.int .u64 (ZLnk.ver (ZLn.e (x.l.push x.x) q)),Value.int .i64 (ZLnk.line (ZLn.e (x.l.push x.x) q)),Value.int .i64 (ZLnk.cls (ZLn.e (x.l.push x.x) q))]=Cs.eff (λ(i:Nat)=>ZLnk.cs (x.l.e i)) [(0+Int.toNat (Int.tmod ((x.l.at_:Int)+(x.l.n:Int)) (x.l.len:Int)),[Value.string x.x.key,Value.int .u64 x.x.id,Value.int .u64 x.x.ver,Value.int .i64 x.x.line,Value.int .i64 x.x.cls])] q)/\True)
theorem Hr(x:ak9):wz x=wpF Tryz.prog oZ tt (noA x) 200 5 254 (yJ.args x) (hO 2 (flatP 1 (yJ.l x))) (λv h'=>endsPK 1 x v h' yJ.outs):=by kernel_rfl
def zI(x:Unit):Prop:=
 apd
theorem KO(x:Unit):zI x=wpF Tryz.prog oZ tt (noA x) 200 5 255 (Dp.args x) (hO 1 (flatP 1 (Dp.l x))) (λv h'=>endsPK 1 x v h' Dp.outs):=by kernel_rfl
def zJ(x:ZLn):Prop:=
 cP (BEq.beq (x.n:Int) (0:Int)) (∃y:Unit,True/\ape x/\((0=0/\x.pop.len=x.len/\x.pop.cap=x.cap)/\(x.pop.at_:Int)=(x.at_:Int)/\(x.pop.n:Int)=(x.n:Int)/\True)/\(x.pop.cap=x.cap/\ ∀q:Nat,q<x.pop.cap->[Value.string (ZLnk.key (x.pop.e q)),Value.int .u64 (ZLnk.id (x.pop.e q)),Value.int .u64 (ZLnk.ver (x.pop.e q)),Value.int .i64 (ZLnk.line (x.pop.e q)),Value.int .i64 (ZLnk.cls (x.pop.e q))]=[Value.string (ZLnk.key (x.e q)),Value.int .u64 (ZLnk.id (x.e q)),Value.int .u64 (ZLnk.ver (x.e q)),Value.int .i64 (ZLnk.line (x.e q)),Value.int .i64 (ZLnk.cls (x.e q))])/\True) (ahz x/\0+x.at_<x.cap/\True/\ahz x/\0+x.at_<x.cap/\True/\I64 ((x.at_:Int)+1)/\((x.len:Int)=0->False)/\True/\I64 ((x.n:Int)-1)/\ ∃y:Unit,True/\apc x/\((0=0/\x.pop.len=x.len/\x.pop.cap=x.cap)/\(x.pop.at_:Int)=Int.tmod ((x.at_:Int)+1) (x.len:Int)/\(x.pop.n:Int)=(x.n:Int)-1/\True)/\(x.pop.cap=x.cap/\ ∀q:Nat,q<x.pop.cap->[Value.string (ZLnk.key (x.pop.e q)),Value.int .u64 (ZLnk.id (x.pop.e q)),Value.int .u64 (ZLnk.ver (x.pop.e q)),Value.int .i64 (ZLnk.line (x.pop.e q)),Value.int .i64 (ZLnk.cls (x.pop.e q))]=Cs.eff (λ(i:Nat)=>ZLnk.cs (x.e i)) [(0+x.at_,[Value.string (ByteArray.mk #[]),Value.int .u64 0,Value.int .u64 0,Value.int .i64 0,Value.int .i64 0])] q)/\True)
theorem KP(x:ZLn):zJ x=wpF Tryz.prog oZ tt (noA x) 200 5 255 (Dq.args x) (hO 2 (flatP 1 (Dq.l x))) (λv h'=>endsPK 1 x v h' Dq.outs):=by kernel_rfl
def zK(x:Unit):Prop:=
 ∃y:Unit,True/\vG/\aaC
theorem KQ(x:Unit):zK x=wpF Tryz.prog oZ tt (noA x) 200 5 70 (Dt.args x) (hO 1 (flatP 1 (Dt.l x))) (λv h'=>endsPK 1 x v h' Dt.outs):=by kernel_rfl
def zL(x:ZLn):Prop:=
 (∃s:Unit,Hd True/\True/\((0:Int)=0/\vG/\True)/\ac1 x/\Je x/\True)/\(∀s:Unit,Hd True->cP (decide (0<(x.n:Int))) (I64 ((x.at_:Int)+0)/\((x.len:Int)=0->False)/\(0<=Int.tmod ((x.at_:Int)+0) (x.len:Int)/\Int.tmod ((x.at_:Int)+0) (x.len:Int)<(x.len:Int))/\0+Int.toNat (Int.tmod ((x.at_:Int)+0) (x.len:Int))<x.cap/\True/\(2*(0+1)+1000)*48<=281474976710656/\True/\True/\I64 (1:Int)/\ ∃s_1:Nat,Hd (1<=s_1/\s_1<=x.n)/\x.n-s_1<x.n+1/\((s_1:Int)=1/\(0=0/\s_1=1)/\True)/\(s_1=0+List.length [List.take 5 [Value.string (ZLnk.key (x.e (0+Int.toNat (Int.tmod ((x.at_:Int)+0) (x.len:Int))))),Value.int .u64 (ZLnk.id (x.e (0+Int.toNat (Int.tmod ((x.at_:Int)+0) (x.len:Int))))),Value.int .u64 (ZLnk.ver (x.e (0+Int.toNat (Int.tmod ((x.at_:Int)+0) (x.len:Int))))),Value.int .i64 (ZLnk.line (x.e (0+Int.toNat (Int.tmod ((x.at_:Int)+0) (x.len:Int))))),Value.int .i64 (ZLnk.cls (x.e (0+Int.toNat (Int.tmod ((x.at_:Int)+0) (x.len:Int)))))]]/\
 ∀q:Nat,q<s_1->[Value.string (ZLnk.key (x.get q)),Value.int .u64 (ZLnk.id (x.get q)),Value.int .u64 (ZLnk.ver (x.get q)),Value.int .i64 (ZLnk.line (x.get q)),Value.int .i64 (ZLnk.cls (x.get q))]=Cs.eff (λ(x_1:Nat)=>[]) [(0,List.take 5 [Value.string (ZLnk.key (x.e (0+Int.toNat (Int.tmod ((x.at_:Int)+0) (x.len:Int))))),Value.int .u64 (ZLnk.id (x.e (0+Int.toNat (Int.tmod ((x.at_:Int)+0) (x.len:Int))))),Value.int .u64 (ZLnk.ver (x.e (0+Int.toNat (Int.tmod ((x.at_:Int)+0) (x.len:Int))))),Value.int .i64 (ZLnk.line (x.e (0+Int.toNat (Int.tmod ((x.at_:Int)+0) (x.len:Int))))),Value.int .i64 (ZLnk.cls (x.e (0+Int.toNat (Int.tmod ((x.at_:Int)+0) (x.len:Int)))))])] q)/\ac1 x/\Je x/\True) ((∃y:Unit,Hd (x.n=0)/\vG/\ahA x)\/ ∃y:Unit,Hd (x.n≠0)/\False))/\(∀s:Nat,Hd (1<=s/\s<=x.n)->cP (decide ((s:Int)<(x.n:Int))) (I64 ((x.at_:Int)+(s:Int))/\((x.len:Int)=0->False)/\(0<=Int.tmod ((x.at_:Int)+(s:Int)) (x.len:Int)/\Int.tmod ((x.at_:Int)+(s:Int)) (x.len:Int)<(x.len:Int))/\0+Int.toNat (Int.tmod ((x.at_:Int)+(s:Int)) (x.len:Int))<x.cap/\True/\s=s/\
 List.all [List.take 5 [Value.string (ZLnk.key (x.e (0+Int.toNat (Int.tmod ((x.at_:Int)+(s:Int)) (x.len:Int))))),Value.int .u64 (ZLnk.id (x.e (0+Int.toNat (Int.tmod ((x.at_:Int)+(s:Int)) (x.len:Int))))),Value.int .u64 (ZLnk.ver (x.e (0+Int.toNat (Int.tmod ((x.at_:Int)+(s:Int)) (x.len:Int))))),Value.int .i64 (ZLnk.line (x.e (0+Int.toNat (Int.tmod ((x.at_:Int)+(s:Int)) (x.len:Int))))),Value.int .i64 (ZLnk.cls (x.e (0+Int.toNat (Int.tmod ((x.at_:Int)+(s:Int)) (x.len:Int)))))]] (λ(l:List Value)=>Nat.beq (List.length l) 5&&List.all l Value.oneCell')=true/\(2*(s+1)+1000)*48<=281474976710656/\True/\True/\I64 ((s:Int)+1)/\ ∃s_1:Nat,Hd (1<=s_1/\s_1<=x.n)/\x.n-s_1<x.n-s/\((s_1:Int)=(s:Int)+1/\(0=0/\s_1=s+1)/\True)/\(s_1=s+List.length [List.take 5 [Value.string (ZLnk.key (x.e (0+Int.toNat (Int.tmod ((x.at_:Int)+(s:Int)) (x.len:Int))))),Value.int .u64 (ZLnk.id (x.e (0+Int.toNat (Int.tmod ((x.at_:Int)+(s:Int)) (x.len:Int))))),Value.int .u64 (ZLnk.ver (x.e (0+Int.toNat (Int.tmod ((x.at_:Int)+(s:Int)) (x.len:Int))))),Value.int .i64 (ZLnk.line (x.e (0+Int.toNat (Int.tmod ((x.at_:Int)+(s:Int)) (x.len:Int))))),Value.int .i64 (ZLnk.cls (x.e (0+Int.toNat (Int.tmod ((x.at_:Int)+(s:Int)) (x.len:Int)))))]]/\
 ∀q:Nat,q<s_1->[Value.string (ZLnk.key (x.get q)),Value.int .u64 (ZLnk.id (x.get q)),Value.int .u64 (ZLnk.ver (x.get q)),Value.int .i64 (ZLnk.line (x.get q)),Value.int .i64 (ZLnk.cls (x.get q))]=Cs.eff (λ(j:Nat)=>ZLnk.cs (x.get j)) [(s,List.take 5 [Value.string (ZLnk.key (x.e (0+Int.toNat (Int.tmod ((x.at_:Int)+(s:Int)) (x.len:Int))))),Value.int .u64 (ZLnk.id (x.e (0+Int.toNat (Int.tmod ((x.at_:Int)+(s:Int)) (x.len:Int))))),Value.int .u64 (ZLnk.ver (x.e (0+Int.toNat (Int.tmod ((x.at_:Int)+(s:Int)) (x.len:Int))))),Value.int .i64 (ZLnk.line (x.e (0+Int.toNat (Int.tmod ((x.at_:Int)+(s:Int)) (x.len:Int))))),Value.int .i64 (ZLnk.cls (x.e (0+Int.toNat (Int.tmod ((x.at_:Int)+(s:Int)) (x.len:Int)))))])] q)/\ac1 x/\Je x/\True) ((∃y:Unit,Hd (x.n=0)/\False/\ahA x)\/ ∃y:Unit,Hd (x.n≠0)/\(0=0/\x.n=s)/\Je x/\(x.n=s/\ ∀q:Nat,q<x.n->[Value.string (ZLnk.key (x.get q)),Value.int .u64 (ZLnk.id (x.get q)),Value.int .u64 (ZLnk.ver (x.get q)),Value.int .i64 (ZLnk.line (x.get q)),Value.int .i64 (ZLnk.cls (x.get q))]=[Value.string (ZLnk.key (x.get q)),Value.int .u64 (ZLnk.id (x.get q)),Value.int .u64 (ZLnk.ver (x.get q)),Value.int .i64 (ZLnk.line (x.get q)),Value.int .i64 (ZLnk.cls (x.get q))])/\ac1 x/\True))/\True
theorem KR(x:ZLn):zL x=wpF Tryz.prog oZ tt (at7 x) 200 5 70 (Du.args x) (hO 2 (flatP 1 (Du.l x))) (λv h'=>endsPK 1 x v h' Du.outs):=by kernel_rfl
theorem V5{c:Int}(h:0<=c/\c<=3):0<spn c:=by
 unfold spn;split
 ·omega
 ·split
  ·omega
  ·split
   ·omega
   ·split<;>omega
theorem EO{g:Nat->List Value}{k q:Nat}{c:List Value}:Cs.eff g [(k,c)] q=if q=k then c else g q:=by
 simp only[Cs.eff,bV,dh,dB,dI,<-Bool.decide_and]
theorem aq9(f:Nat->iq)(k:Nat)(x:iq)(q:Nat)(e:iq)(he:e=if q=k then x else f q):[Value.int .i64 e.line,Value.int .i64 e.cls,Value.int .u64 e.r,Value.int .u64 e.d,Value.int .i64 e.anti]=Cs.eff (λi=>(f i).cs) [(k,List.take 5 [Value.int .i64 x.line,Value.int .i64 x.cls,Value.int .u64 x.r,Value.int .u64 x.d,Value.int .i64 x.anti])] q:=by
 subst he;rw[EO];split<;>rfl
theorem V6(f:Nat->ZLnk)(k:Nat)(x:ZLnk)(q:Nat)(e:ZLnk)(he:e=if q=k then x else f q):[Value.string e.key,Value.int .u64 e.id,Value.int .u64 e.ver,Value.int .i64 e.line,Value.int .i64 e.cls]=Cs.eff (λi=>(f i).cs) [(k,[Value.string x.key,Value.int .u64 x.id,Value.int .u64 x.ver,Value.int .i64 x.line,Value.int .i64 x.cls])] q:=by
 subst he;rw[EO];split<;>rfl
theorem Ht(x:CJ)(hx:x.b.ok/\x.x.may/\x.b.z=true):EK x:=by
 obtain⟨⟨h1,h2⟩,⟨m1,m2,m3,m4,m5,m6⟩,hz⟩:=hx;have hn:=h2 hz;have hs:=V5 (c:=x.x.cls) ⟨m3,m4⟩;have e1:decide (x.x.line>=2)=true:=decide_eq_true m1;have e2:decide (x.x.line<258)=true:=decide_eq_true m2;have e3:decide (spn x.x.cls>0)=true:=decide_eq_true hs;have e4:decide (x.x.anti>= -1)=true:=decide_eq_true m5;have e5:decide (x.x.anti<258)=true:=decide_eq_true m6;unfold EK;simp only[Jc];simp only[aZ,aV,aU,aA,aI,bQ,bF,aO,aK,ay,aX,aW,bT,bG,bH,bI,bU,bC,bJ,bn,eH,aH,aN,ah,ak,aB,aF,aC,aG,e1,e2,e3,e4,e5,kX,iy,Bool.not_true];have e:x.b.put x.x=⟨false,1,λi=>if i=0 then x.x else x.b.e i⟩:=by unfold iF.put;rw[hn];rfl
 rw[e,hn];refine⟨by decide,rfl,rfl,rfl,λq hq=> ?_⟩;have:q=0:=by have:q<1:=hq;omega
 subst this;rfl
theorem Hu(x:CJ)(hx:x.b.ok/\x.x.may/\x.b.z=false):EL x:=by
 obtain⟨⟨h1,h2⟩,⟨m1,m2,m3,m4,m5,m6⟩,hz⟩:=hx;have hs:=V5 (c:=x.x.cls) ⟨m3,m4⟩;have e1:decide (x.x.line>=2)=true:=decide_eq_true m1;have e2:decide (x.x.line<258)=true:=decide_eq_true m2;have e3:decide (spn x.x.cls>0)=true:=decide_eq_true hs;have e4:decide (x.x.anti>= -1)=true:=decide_eq_true m5;have e5:decide (x.x.anti<258)=true:=decide_eq_true m6;unfold EL;simp only[Jd,aq8];simp only[aZ,aV,aU,aA,aI,bQ,bF,aO,aK,ay,aX,aW,bT,bG,bH,bI,bU,bC,bJ,bn,eH,aH,aN,ah,ak,aB,aF,aC,aG,e1,e2,e3,e4,e5,kX,iy,Bool.not_true];unfold iF.put;refine bf (λh=> ?_) λh=> ?_
 ·have hge: ¬x.b.n<258:=by have:=aS h;omega
  simp only[if_neg hge];exact⟨trivial,trivial,trivial,λq _=>trivial⟩
 ·have hlt:x.b.n<258:=by have:=aT h;omega
  simp only[if_pos hlt];exact⟨rfl,by omega,trivial,trivial,rfl,λq hq=>aq9 _ _ _ _ _ rfl⟩
theorem Hw(x:Unit):EM x:=by
 unfold EM;simp only[vG];simp only[aZ,aV,aU,aA,aI,bQ,bF,aO,aK,ay,aX,aW,bT,bG,bH,bI,bU,bC,bJ,bn,eH,aH,aN,ah,ak,aB,aF,aC,aG]
theorem Hy(x:iF)(hx:x.ok/\x.z=false):EN x:=by
 have:=hx.1.1;unfold EN;simp only[ahy];simp only[aZ,aV,aU,aA,aI,bQ,bF,aO,aK,ay,aX,aW,bT,bG,bH,bI,bU,bC,bJ,bn,eH,aH,aN,ah,ak,aB,aF,aC,aG];refine⟨aY _,bf (λh=> ?_) λ_=>by omega⟩;have h0:x.n=0:=au h;exact⟨h0,by omega,λq hq=>by omega⟩
theorem EP(x:Unit):zI x:=by
 unfold zI;simp only[apd,aaC,vG];simp only[aZ,aV,aU,aA,aI,bQ,bF,aO,aK,ay,aX,aW,bT,bG,bH,bI,bU,bC,bJ,bn,eH,aH,aN,ah,ak,aB,aF,aC,aG]
theorem ER(x:Unit):zK x:=by
 unfold zK;simp only[vG,aaC];simp only[aZ,aV,aU,aA,aI,bQ,bF,aO,aK,ay,aX,aW,bT,bG,bH,bI,bU,bC,bJ,bn,eH,aH,aN,ah,ak,aB,aF,aC,aG]
theorem amC{x:ZLn}(h:x.at_<x.len):x.get 0=x.e x.at_:=by
 unfold ZLn.get;rw[aI,Nat.mod_eq_of_lt h]
theorem ES(x:ZLn)(hx:x.ok/\x.len≠0):zJ x:=by
 obtain⟨⟨o1,o2,o3,o4,o5⟩,hl⟩:=hx;have:=o5 hl;unfold zJ;simp only[ape,ahz,apc];simp only[aZ,aV,aU,aA,aI,bQ,bF,aO,aK,ay,aX,aW,bT,bG,bH,bI,bU,bC,bJ,bn,eH,aH,aN,ah,ak,aB,aF,aC,aG];refine bf (λh=> ?_) λh=> ?_
 ·have h0:x.n=0:=by have:=beq_iff_eq.1 h;omega
  rw[show x.head=iT from if_pos h0,show x.pop=x from if_pos h0,h0];exact⟨⟨⟨rfl,rfl,rfl,rfl,rfl⟩,rfl⟩,⟨⟨rfl,rfl⟩,rfl,rfl⟩,rfl,λq _=>rfl⟩
 ·have h0:x.n≠0:=λe=>by rw[e]at h;exact absurd h (by decide)
  rw[show x.head=x.e x.at_ from (if_neg h0).trans (amC this),show x.pop=⟨x.len,x.cap,(x.at_+1)%x.len,x.n-1,λi=>if i=x.at_ then iT else x.e i⟩ from if_neg h0];exact⟨⟨by omega,by omega⟩,by omega,⟨by omega,by omega⟩,by omega,⟨by unfold I64;omega,by omega,by unfold I64;omega,⟨⟨rfl,rfl,rfl,rfl,rfl⟩,decide_eq_true h0⟩,⟨⟨rfl,rfl⟩,(Int.ofNat_tmod (x.at_+1) x.len),by show((x.n-1:Nat):Int)=_;omega⟩,rfl,λq _=>V6 _ _ iT _ _ rfl⟩⟩
theorem CO(x:ZLnk):wu x:=by
 unfold wu;simp only[yK];simp only[aZ,aV,aU,aA,aI,bQ,bF,aO,aK,ay,aX,aW,bT,bG,bH,bI,bU,bC,bJ,bn,eH,aH,aN,ah,ak,aB,aF,aC,aG];refine⟨by unfold I64;omega,by unfold I64;omega,by decide,by decide,by decide,by decide,by decide,by decide,by decide,by decide,rfl,by decide,by unfold I64;omega,⟨rfl,rfl⟩,λq hq=> ?_⟩;have:q=0:=by omega
 subst this;rfl
theorem JM(a b:Nat):((a:Int)+(b:Int))=((a+b:Nat):Int):=by omega
theorem ara{x:ZLn}(s:Nat):x.e ((x.at_+s)%x.len)=x.get s:=rfl
theorem ET(x:ZLn)(hx:x.ok/\x.len≠0):zL x:=by
 obtain⟨⟨o1,o2,o3,o4,o5⟩,hl⟩:=hx;have:=o5 hl;have ht: ∀s:Nat,((x.at_:Int)+(s:Int)).tmod (x.len:Int)=(((x.at_+s)%x.len:Nat):Int):=λs=>by rw[JM];exact(Int.ofNat_tmod _ _).symm
 have hm: ∀s:Nat,(x.at_+s)%x.len<x.len:=λs=>Nat.mod_lt _ (by omega)
 have hm0:=hm 0;have ht0:=ht 0;have hg0:x.e (x.at_%x.len)=x.get 0:=rfl;unfold zL;simp only[vG,ac1,Je,ahA];simp only[Int.natCast_zero,Int.add_zero,aI]at ht0 hm0;simp only[aZ,aV,aU,aA,aI,bQ,bF,aO,aK,ay,aX,aW,bT,bG,bH,bI,bU,bC,bJ,bn,eH,aH,aN,ah,ak,aB,aF,aC,aG,Int.add_zero,ht,ht0,hg0,ara];refine⟨bf (λh=> ?_) λh=> ?_,λs hs=>bf (λh=> ?_) λh=> ?_⟩
 ·have hn:0<x.n:=by have:=aS h;omega
  refine⟨by unfold I64;omega,by omega,⟨by omega,by omega⟩,by omega,by omega,by unfold I64;omega,1,by omega,by omega,by omega,rfl,λq hq=> ?_⟩;have:q=0:=by omega
  subst this;rfl
 ·exact .inl (by have:=aT h;omega)
 ·have hn:s<x.n:=by have:=aS h;omega
  have:=hm s;refine⟨by unfold I64;omega,by omega,⟨by omega,by omega⟩,by omega,rfl,by omega,by unfold I64;omega,s+1,by omega,by omega,by omega,rfl,λq hq=>V6 _ _ (x.get s) _ _ ?_⟩;split
  ·rename_i e;rw[e]
  ·rfl
 ·exact .inr (by have:=aT h;omega)
theorem CP(x:ak9)(hx:x.l.ok/\x.l.len≠0):wz x:=by
 obtain⟨⟨o1,o2,o3,o4,o5⟩,hl⟩:=hx;have hat:=o5 hl;have e1:Nat.beq (x.l.len-x.l.at_) 0=false:=by rw[dB];exact decide_eq_false (by omega)
 have g1: ∀q,q<x.l.len-x.l.at_->x.l.get q=x.l.e (x.l.at_+q):=λq h=>by unfold ZLn.get;rw[Nat.mod_eq_of_lt (by omega)]
 have g2: ∀q,x.l.len-x.l.at_<=q->q<x.l.len->x.l.get q=x.l.e (q-(x.l.len-x.l.at_)):=λq h1 h2=>by
  unfold ZLn.get;rw[show x.l.at_+q=(q-(x.l.len-x.l.at_))+x.l.len by omega,Nat.add_mod_right,Nat.mod_eq_of_lt (by omega)]
 have hz:iT=⟨⟨#[]⟩,0,0,0,0⟩:=rfl;unfold wz;simp only[aaE,yK,yL,Jb,aaB,ahv,aaD,ahw,ahx];simp only[aZ,aV,aU,aA,aI,bQ,bF,aO,aK,ay,aX,aW,bT,bG,bH,bI,bU,bC,bJ,bn,eH,aH,aN,ah,ak,aB,aF,aC,aG,e1,iy];refine bf (λh=> ?_) λh=> ?_
 ·have hn:x.l.n=x.l.len:=by have:=beq_iff_eq.1 h;omega
  have e2:(2*(x.l.n:Int)+1).toNat=2*x.l.len+1:=by omega
  have e3:Nat.ble (x.l.len-x.l.at_) (2*x.l.len+1)=true:=by rw[Nat.ble_eq];omega
  have e4:x.l.push x.x=⟨x.l.len+1,2*x.l.len+1,0,x.l.len+1,λi=>if i<x.l.len then x.l.get i else if i=x.l.len then x.x else iT⟩:=by rw[<-hn];exact if_pos hn
  simp only[e2,e3,e4,kX];by_cases ha:x.l.at_=0
  ·have e5:Nat.beq x.l.at_ 0=true:=by rw[ha];rfl
   have e6:Nat.ble (x.l.len-x.l.at_+1) (2*x.l.len+1)=true:=by rw[Nat.ble_eq];omega
   simp only[e5,e6,kX];refine⟨by unfold I64;omega,by unfold I64;omega,by omega,by omega,by omega,by omega,by omega,λk _=>rfl,by omega,by omega,by omega,by omega,by omega,by omega,rfl,by omega,by unfold I64;omega,⟨⟨by omega,trivial⟩,by omega,by omega⟩,trivial,λq hq=> ?_⟩;rw[EO];simp only[Cs.eff,bV,dh,dB,dI,<-Bool.decide_and];grind
  ·have e5:Nat.beq x.l.at_ 0=false:=by rw[dB];exact decide_eq_false ha
   have e6:Nat.ble (x.l.len-x.l.at_+x.l.at_) (2*x.l.len+1)=true:=by rw[Nat.ble_eq];omega
   have e7:Nat.ble (x.l.len-x.l.at_+x.l.at_+1) (2*x.l.len+1)=true:=by rw[Nat.ble_eq];omega
   simp only[e5,e6,e7,kX,iy];refine⟨by unfold I64;omega,by unfold I64;omega,by omega,by omega,by omega,by omega,by omega,λk _=>rfl,by omega,by omega,by omega,by omega,by omega,λk _=>rfl,by omega,by omega,rfl,by omega,by unfold I64;omega,⟨⟨by omega,trivial⟩,by omega,by omega⟩,trivial,λq hq=> ?_⟩;rw[EO];simp only[Cs.eff,bV,dh,dB,dI,<-Bool.decide_and];grind
 ·have hn:x.l.n≠x.l.len:=λe=>by rw[e]at h;simp at h
  have ht:((x.l.at_:Int)+(x.l.n:Int)).tmod (x.l.len:Int)=(((x.l.at_+x.l.n)%x.l.len:Nat):Int):=by rw[JM];exact(Int.ofNat_tmod _ _).symm
  have hm:(x.l.at_+x.l.n)%x.l.len<x.l.len:=Nat.mod_lt _ (by omega);rw[show x.l.push x.x=⟨x.l.len,x.l.cap,x.l.at_,x.l.n+1,λi=>if i=(x.l.at_+x.l.n)%x.l.len then x.x else x.l.e i⟩ from if_neg hn];simp only[ht,ay];exact⟨by unfold I64;omega,by omega,⟨by omega,by omega⟩,by omega,by unfold I64;omega,⟨⟨trivial,trivial⟩,trivial,by omega⟩,trivial,λq _=>V6 _ _ x.x _ _ rfl⟩
theorem ac2:bY Tryz.prog 66 (rO true).ctr:=cO dD mixed (.cons (bM ny) .nil) 1 noA 200 5 (λ_=>⟨rfl,rfl,rfl,rfl⟩) λx hx=>Eq.mp (QV x) (Ht x (aZ.1 hx))
theorem ac3:bY Tryz.prog 66 (rO false).ctr:=cO dD mixed (.cons (bM ny) .nil) 2 noA 200 5 (λ_=>⟨rfl,rfl,rfl,rfl⟩) λx hx=>Eq.mp (QW x) (Hu x (aZ.1 hx))
theorem ac4:bY Tryz.prog 278 KL.ctr:=cO dD mixed dP 1 noA 200 5 (λ_=>⟨rfl,rfl,rfl,rfl⟩) λx _=>Eq.mp (QX x) (Hw x)
theorem ac5:bY Tryz.prog 278 KN.ctr:=cO dD mixed dP 2 noA 200 5 (λ_=>⟨rfl,rfl,rfl,rfl⟩) λx hx=>Eq.mp (QY x) (Hy x (aZ.1 hx))
theorem QZ:bY Tryz.prog 254 yI.ctr:=cO dD mixed dP 1 noA 200 5 (λ_=>⟨rfl,rfl,rfl,rfl⟩) λx _=>Eq.mp (Hq x) (CO x)
theorem Q5:bY Tryz.prog 254 yJ.ctr:=cO dD mixed dP 2 noA 200 5 (λ_=>⟨rfl,rfl,rfl,rfl⟩) λx hx=>Eq.mp (Hr x) (CP x (aZ.1 hx))
theorem V7:bY Tryz.prog 255 Dp.ctr:=cO dD mixed dP 1 noA 200 5 (λ_=>⟨rfl,rfl,rfl,rfl⟩) λx _=>Eq.mp (KO x) (EP x)
theorem V8:bY Tryz.prog 255 Dq.ctr:=cO dD mixed dP 2 noA 200 5 (λ_=>⟨rfl,rfl,rfl,rfl⟩) λx hx=>Eq.mp (KP x) (ES x (aZ.1 hx))
theorem V9:bY Tryz.prog 70 Dt.ctr:=cO dD mixed dP 1 noA 200 5 (λ_=>⟨rfl,rfl,rfl,rfl⟩) λx _=>Eq.mp (KQ x) (ER x)
theorem Wh:bY Tryz.prog 70 Du.ctr:=cO dD mixed dP 2 at7 200 5 (λ_=>⟨rfl,rfl,rfl,rfl⟩) λx hx=>Eq.mp (KR x) (ET x (aZ.1 hx))
theorem yM{X:Type}(x:X)(v:AV)(h':Heap):kU x v h' []=False:=by with_unfolding_all rfl
theorem dU{X:Type}(x:X)(v:AV)(h':Heap)(o:Out X)(r:List (Out X)):kU x v h' (o::r)=((∃y,o.post x y/\v=o.ret x y/\h'=hO o.m (o.os x y))\/kU x v h' r):=by with_unfolding_all rfl
theorem jh{X:Type}{x:X}{v:AV}{h':Heap}{o:Out X}(h:kU x v h' [o]): ∃y,o.post x y/\v=o.ret x y/\h'=hO o.m (o.os x y):=by
 rw[dU,yM,or_false]at h;exact h
theorem pR{X:Type}{x:X}{v:AV}{h':Heap}{o p:Out X}(h:kU x v h' [o,p]):(∃y,o.post x y/\v=o.ret x y/\h'=hO o.m (o.os x y))\/ ∃y,p.post x y/\v=p.ret x y/\h'=hO p.m (p.os x y):=by
 rw[dU,dU,yM,or_false]at h;exact h
theorem eP{X:Type}{x:X}{v:AV}{h':Heap}{o:Out X}{r:List (Out X)}(h: ∃y,o.post x y/\v=o.ret x y/\h'=hO o.m (o.os x y)):kU x v h' (o::r):=by
 rw[dU];exact .inl h
theorem BJ{X:Type}{x:X}{v:AV}{h':Heap}{o p:Out X}{r:List (Out X)}(h: ∃y,p.post x y/\v=p.ret x y/\h'=hO p.m (p.os x y)):kU x v h' (o::p::r):=by
 rw[dU,dU];exact .inr (.inl h)
theorem Wi{P:Program}{f:FuncId}{X:Type}{args:X->List AV}{k:Nat}{l:X->List PO}{pre:X->Prop}{ret:X->AV}{m:Nat}{l':X->List PO}
  (h: ∀x,pre x-> ∃(Y:Type) (a2:Y->List AV) (l2:Y->List PO) (p2:Y->Prop) (r2:Y->AV) (l2':Y->List PO) (y:Y),bY P f (ql Y a2 k l2 p2 r2 m l2').ctr/\p2 y/\a2 y=args x/\l2 y=l x/\r2 y=ret x/\l2' y=l' x):
  bY P f (ql X args k l pre ret m l').ctr:=by
 refine jP λx hx=> ?_
 obtain⟨Y,a2,l2,p2,r2,l2',y,h1,h2,h3,h4,h5,h6⟩:=h x hx;refine⟨_,h1,rfl,y,h2,h3,by simp only[ql,jg.ctr,h4],λv h' hh=> ?_⟩;obtain⟨u,e1,e2,e3⟩:=jh hh;exact eP ⟨u,trivial,by rw[e2];exact h5,by rw[e3];show hO m ((l2' y).map PO.ab)=hO m ((l' x).map PO.ab);rw[h6]⟩
def ahB:jg:=ql CJ (λx=>[.ptr 0 0,x.x.av]) 1 (λx=>[.m x.b.os]) (λx=>Hd (x.b.ok/\x.x.may)) (λx=>i64 (if x.b.n<258 then 0 else 11)) 1 (λx=>[.m (x.b.put x.x).os])
def ahC:jg:={X:=iF,args:=λ_=>[.ptr 0 0],k:=1,l:=λb=>[.m b.os],pre:=λb=>Hd b.ok,outs:=[
 {Y:=Unit,post:=λb _=>Hd (b.n=0),ret:=λ_ _=>ig,m:=1,l:=λb _=>[.m b.os]},
 {Y:=Unit,post:=λ_ _=>Hd True,ret:=λb _=> .slW 1 0 5 b.n,m:=2,l:=λb _=>[.m b.os,.o (.room 70 b.row)]}]}
def Q7:jg:=ql ak9 (λx=>[.ptr 0 0,x.x.av]) 1 (λx=>[.m x.l.os]) (λx=>Hd x.l.ok) (λ_=> .tup []) 1 (λx=>[.m (x.l.push x.x).os])
def aaF:jg:=ql ZLn (λ_=>[.ptr 0 0]) 1 (λl=>[.m l.os]) (λl=>Hd l.ok) (λl=> .tup [l.head.av,boo (decide (l.n≠0))]) 1 (λl=>[.m l.pop.os])
def aaG:jg:={X:=ZLn,args:=λ_=>[.ptr 0 0],k:=1,l:=λl=>[.m l.os],pre:=λl=>Hd l.ok,outs:=[
 {Y:=Unit,post:=λl _=>Hd (l.n=0),ret:=λ_ _=>ig,m:=1,l:=λl _=>[.m l.os]},
 {Y:=Unit,post:=λl _=>Hd (l.n≠0),ret:=λl _=> .slW 1 0 5 l.n,m:=2,l:=λl _=>[.m l.os,.o (.room 41 (l.all l.n))]}]}
theorem ac6{b:iF}{x:iq}(h:b.ok):(b.put x).os=(b.put x).osP\/b.z=false/\(b.put x).os=(b.put x).osP:=by
 left;unfold iF.put;split
 ·rfl
 ·cases hz:b.z with
  |false=>unfold iF.os;rw[hz];rfl
  |true=>have:=h.2 hz;omega
theorem Jf{b:iF}(z:Bool)(h:b.z=z):b.os=bif z then iF.osN else b.osP:=by
 unfold iF.os;rw[h]
theorem ahD:bY Tryz.prog 66 ahB.ctr:=Wi λx hx=>by
 have hx:=aZ.1 hx;have e:(x.b.put x.x).os=(x.b.put x.x).osP:=(ac6 hx.1).elim id And.right;cases hz:x.b.z with
 |true=>exact⟨_,_,_,_,_,_,x,ac2,aZ.2 ⟨hx.1,hx.2,hz⟩,rfl,by rw[Jf true hz],rfl,by rw[e]⟩
 |false=>exact⟨_,_,_,_,_,_,x,ac3,aZ.2 ⟨hx.1,hx.2,hz⟩,rfl,by rw[Jf false hz],rfl,by rw[e]⟩
theorem ahE:bY Tryz.prog 278 ahC.ctr:=jP λx hx=>by
 have hx:=aZ.1 hx;cases hz:x.z with
 |true=>
  refine⟨_,ac4,rfl,(),aZ.2 trivial,rfl,by show [_]=[_];rw[Jf true hz];rfl,λv h' hh=> ?_⟩;obtain⟨y,_,h1,h2⟩:=jh hh;exact eP ⟨(),aZ.2 (hx.2 hz),h1,by rw[h2];show hO 1 [_]=hO 1 [_];rw[Jf true hz];rfl⟩
 |false=>
  refine⟨_,ac5,rfl,x,aZ.2 ⟨hx,hz⟩,rfl,by show [_]=[_];rw[Jf false hz];rfl,λv h' hh=> ?_⟩;obtain⟨y,_,h1,h2⟩:=jh hh;exact BJ ⟨(),aZ.2 trivial,h1,by rw[h2];show hO 2 [_,_]=hO 2 [_,_];rw[Jf false hz];rfl⟩
theorem Q8{l:ZLn}(h:l.len=0):l.os=ZLn.osN:=by unfold ZLn.os;rw[h];rfl
theorem EU{l:ZLn}(h:l.len≠0):l.os=l.osP:=by unfold ZLn.os;rw[dB,decide_eq_false h];rfl
theorem ln_n{l:ZLn}(h:l.ok)(h0:l.len=0):l.n=0:=by have:=h.2.2.1;omega
theorem Wj:bY Tryz.prog 254 Q7.ctr:=Wi λx hx=>by
 have hx:=aZ.1 hx;by_cases hz:x.l.len=0
 ·have hn:=ln_n hx hz
  have e:x.l.push x.x=⟨1,1,0,1,λi=>if i=0 then x.x else iT⟩:=by
   unfold ZLn.push;rw[hn,hz,if_pos rfl];simp only[Nat.not_lt_zero,if_false,Nat.mul_zero,aA]
  exact⟨_,_,_,_,_,_,x.x,QZ,aZ.2 trivial,rfl,by rw[Q8 hz],rfl,by rw[e];rfl⟩
 ·have e:(x.l.push x.x).len≠0:=by unfold ZLn.push;split<;>simp_all
  exact⟨_,_,_,_,_,_,x,Q5,aZ.2 ⟨hx,hz⟩,rfl,by rw[EU hz],rfl,by rw[EU e]⟩
theorem amD{l:ZLn}(h:l.n=0):l.head=iT:=if_pos h
theorem ac7:bY Tryz.prog 255 aaF.ctr:=Wi λx hx=>by
 have hx:=aZ.1 hx;by_cases hz:x.len=0
 ·have hn:=ln_n hx hz
  exact⟨_,_,_,_,_,_,(),V7,aZ.2 trivial,rfl,by rw[Q8 hz],by rw[amD hn,hn];rfl,by rw[show x.pop=x from if_pos hn,Q8 hz]⟩
 ·have e:x.pop.len≠0:=by unfold ZLn.pop;split<;>exact hz
  exact⟨_,_,_,_,_,_,x,V8,aZ.2 ⟨hx,hz⟩,rfl,by rw[EU hz],rfl,by rw[EU e]⟩
theorem ac8:bY Tryz.prog 70 aaG.ctr:=jP λx hx=>by
 have hx:=aZ.1 hx;by_cases hz:x.len=0
 ·refine⟨_,V9,rfl,(),aZ.2 trivial,rfl,by show [_]=[_];rw[Q8 hz],λv h' hh=> ?_⟩
  obtain⟨y,_,h1,h2⟩:=jh hh;exact eP ⟨(),aZ.2 (ln_n hx hz),h1,by rw[h2];show hO 1 [_]=hO 1 [_];rw[Q8 hz]⟩
 ·refine⟨_,Wh,rfl,x,aZ.2 ⟨hx,hz⟩,rfl,by show [_]=[_];rw[EU hz],λv h' hh=> ?_⟩
  rcases pR hh with ⟨y,h0,h1,h2⟩|⟨y,h0,h1,h2⟩
  ·exact eP ⟨(),h0,h1,by rw[h2];show hO 1 [_]=hO 1 [_];rw[EU hz]⟩
  ·exact BJ ⟨(),h0,h1,by rw[h2];show hO 2 [_,_]=hO 2 [_,_];rw[EU hz]⟩
structure ZBlk where
 cls:Int
 kind:Int
 id:Int
 ver:Int
 epoch:Int
 key:ByteArray
 value:ByteArray
namespace ZBlk
def av(b:ZBlk):AV:= .agg [i64 b.cls,i64 b.kind,u64 b.id,u64 b.ver,u64 b.epoch,.lit (.string b.key),.lit (.string b.value)]
def num(v:Int):Prop:=1<=v/\v<=2305843009213693952
def nums(b:ZBlk):Prop:=num b.id/\num b.ver/\num b.epoch
def may(b:ZBlk):Prop:=spn b.cls≠0/\(
 b.kind=0/\b.id=0/\b.ver=0/\b.epoch=0/\b.key=⟨#[]⟩/\b.value=⟨#[]⟩\/
 b.kind=1/\1<=b.key.size/\b.key.size<=16/\b.value.size<=400/\ned (b.key.size+b.value.size:Nat)=b.cls/\b.nums\/
 b.kind=2/\b.key=⟨#[]⟩/\b.value.size<=400/\ned (b.key.size+b.value.size:Nat)=b.cls/\b.nums\/
 b.kind=3/\b.key.size+b.value.size=0/\b.cls=0/\b.nums)
def dat(b:ZBlk)(i:Nat):Int:=if i<(b.key++b.value).size then dZ (b.key++b.value) i else 0
def h32(b:ZBlk)(k:Nat):Int:=if k=0 then 1 else if k=1 then b.cls else if k=2 then b.kind else if k=3 then b.key.size else if k<6 then(b.value.size:Int)/256^(k-4)%256 else if k<8 then 0 else
 if k<16 then b.id/256^(k-8)%256 else if k<24 then b.ver/256^(k-16)%256 else if k<32 then b.epoch/256^(k-24)%256 else 0
noncomputable def jS(b:ZBlk)(g:Nat->Int)(n:Nat)(k:Nat):Int:=if k<32 then b.h32 k else if k<36 then nR (nR 0 b.h32 32) g n/256^(k-32)%256 else g (k-36)
def iH(b:ZBlk):Nat:=(cpc b.cls).toNat
def dK(b:ZBlk):Nat:=(spn b.cls).toNat
noncomputable def enc(b:ZBlk)(k:Nat):Int:=if k<64 then b.jS b.dat b.iH k else if k%64=0 then 2 else b.dat (28+(k/64-1)*63+(k%64-1))
end ZBlk
noncomputable def ZBlk.OY(b:ZBlk):Bool:=hide (@decide b.may (Classical.propDecidable _))
theorem yN{b:ZBlk}:b.OY=true↔b.may:=by unfold ZBlk.OY;rw[iJ];exact @decide_eq_true_iff _ (Classical.propDecidable _)
noncomputable def apf:Ctr:=det ZBlk (λb=>[b.av]) 0 (λ_=>[]) (λb=>Hd (b.key.size<1099511627776/\b.value.size<1099511627776)) (λb=>boo b.OY) 0 (λ_=>[])
def wU(g:Nat->Int)(a:Nat):Nat->Int
 |0=>0
 |w+1=>wU g a w+g (a+w)*256^w
structure EW where
 b:Bys
 at_:Nat
 w:Nat
def arb:Ctr:=det EW (λx=>[x.b.av 0,i64 x.at_,i64 x.w]) 1 (λx=>[x.b.ro]) (λx=>Hd (x.b.ok/\x.at_+x.w<=x.b.n/\1<=x.w/\x.w<=8)) (λx=> .tup [u64 (wU (λk=>x.b.g (x.b.q+k)) x.at_ x.w),i64 0]) 1 (λx=>[x.b.ro])
def aua(x:EW):FuncId->qR:=λf=>bif Nat.beq f 228 then(λb _ _=>bif Nat.beq b 0 then [
 {σ:=Nat,fr:=λk=>[(19,i64 k),(9,u64 (wU (λk=>x.b.g (x.b.q+k)) x.at_ k))],ob:=λ_=>[],inv:=λk=>Hd (k<=x.w),meas:=λk=>x.w-k}]else [])elseλ_ _ _=>[]
structure CQ where
 g:Nat->Int
 at_:Nat
 w:Nat
 v:Int
def Wn:Ctr:=det CQ (λx=>[.slE 0 0 1 64 64,i64 x.at_,i64 x.w,u64 x.v]) 1 (λx=>[.cells 5 (rowB x.g 64)]) (λx=>Hd (x.at_+x.w<=64/\1<=x.w/\x.w<=8/\0<=x.v/\x.v<256^x.w/\ ∀k,0<=x.g k/\x.g k<256)) (λ_=> .tup []) 1 (λx=>[.cells 5 (rowB (pO x.g x.at_ x.w x.v) 64)])
structure zM where
 b:ZBlk
 d:Bys
def zM.ok(x:zM):Prop:=x.d.ok/\28<=x.d.n/\x.b.key.size<256/\x.b.value.size<65536/\0<=x.b.cls/\x.b.cls<256/\0<=x.b.kind/\x.b.kind<256/\0<=x.b.id/\x.b.id<18446744073709551616/\0<=x.b.ver/\x.b.ver<18446744073709551616/\0<=x.b.epoch/\x.b.epoch<18446744073709551616
noncomputable def Eo:Ctr:=det zM (λx=>[x.b.av,x.d.av 0]) 1 (λx=>[x.d.ro]) (λx=>Hd x.ok) (λ_=> .slE 1 0 1 64 64) 2 (λx=>[x.d.ro,.cells 5 (rowB (x.b.jS (λk=>x.d.g (x.d.q+k)) x.d.n) 64)])
noncomputable def aub:jv:=[(171,ama),(170,ctrT ao1),(169,ctrT Wn)]
noncomputable def tblB0:jv:=[(215,ctrT ao2)]
def Q9(a:ZBlk):Prop:=True/\a.OY=false/\True
def aaH(a:Int):Prop:=AV.lit (Value.int .i64 a)=AV.lit (Value.int .i64 a)
def Rf(a:Int):Prop:=aaH a/\True
def ard(a:ZBlk)(b:Int):Prop:=True/\ ∀y_1:Unit,True->Rf a.cls/\cP (bne (ned b) a.cls) (∃y_2:Unit,Q9 a) (cP (decide (a.id>=(1:Int))) (cP (decide (a.id<=2305843009213693952)) (cP (decide (a.ver>=(1:Int))) (cP (decide (a.ver<=2305843009213693952)) (cP (decide (a.epoch>=(1:Int))) (∃y_2:Unit,True/\a.OY=decide (a.epoch<=2305843009213693952)/\True) (∃y_2:Unit,Q9 a)) (∃y_2:Unit,Q9 a)) (∃y_2:Unit,Q9 a)) (∃y_2:Unit,Q9 a)) (∃y_2:Unit,Q9 a))
def pU(a:ZBlk):Prop:= ∃y_1:Unit,Q9 a
def Rh(a:ZBlk):Prop:=(AV.lit (Value.tuple (@List.toArray Value (@List.nil Value)))=AV.lit (Value.tuple (@List.toArray Value (@List.nil Value)))/\True)/\pU a
def arf(a:ZBlk):Prop:=cP (decide ((a.key.size:Int)+(a.value.size:Int)-(a.key.size:Int)>(400:Int))) (Rh a) (I64 ((a.key.size:Int)+((a.key.size:Int)+(a.value.size:Int)-(a.key.size:Int)))/\ ∃x_1:Int,True/\(x_1=(a.key.size:Int)+((a.key.size:Int)+(a.value.size:Int)-(a.key.size:Int))/\True)/\ard a x_1)
def arh(a:ZBlk):Prop:=cP (decide ((a.key.size:Int)+(a.value.size:Int)>(400:Int))) (Rh a) (I64 ((a.key.size:Int)+((a.key.size:Int)+(a.value.size:Int)))/\ ∃x_1:Int,True/\(x_1=(a.key.size:Int)+((a.key.size:Int)+(a.value.size:Int))/\True)/\ard a x_1)
def ac9(a:CQ):Prop:=Hd (a.at_+a.w<=64/\1<=a.w/\a.w<=8/\0<=a.v/\a.v< @HPow.hPow Int Nat Int (@instHPow Int Nat (@instPowNat Int @Int.instNatPow)) (256:Int) a.w/\ ∀k:Nat,0<=a.g k/\a.g k<256)
def Ri(a:CQ)(b:CQ):Prop:=(64=64/\ ∀q:Nat,q<64->[Value.int .u8 (a.g q)]=[Value.int .u8 (pO b.g b.at_ b.w b.v q)])/\True
def yO(a:Bys):Prop:=rowB a.g a.N=rowB a.g a.N/\true=true
def BK:Prop:=0=0/\64=64/\64=64
def ahF(a:EW):Prop:= ∃y:Unit,True/\(wU (λ(k:Nat)=>a.b.g (a.b.q+k)) a.at_ a.w=0/\(0:Int)=1/\True)/\yO a.b/\True
def ahG(a:Bys)(b:Nat):Prop:=(Nat.beq (List.length [Value.int .u8 (a.g (a.q+b))]) 1&&List.all [Value.int .u8 (a.g (a.q+b))] Value.oneCell')=true
def ahH(a:uT)(b:Nat):Prop:=(Nat.beq (List.length [Value.int .u8 (a.res (0+b))]) 1&&List.all [Value.int .u8 (a.res (0+b))] Value.oneCell')=true
def aaI(a:ByteArray):Prop:=AV.lit (Value.string a)=AV.lit (Value.string a)
def ari(b:ZBlk):Prop:=
 ∃x:Int,True/\(x=b.cls/\True)/\True/\ ∀y:Unit,True->cP (BEq.beq (spn x) (0:Int)) (pU b) (I64 ((b.key.size:Int)+(b.value.size:Int))/\cP (BEq.beq b.kind (0:Int)) (∃y_1:Unit,True/\b.OY=(BEq.beq b.cls b.cls&&(BEq.beq b.kind (0:Int)&&(BEq.beq b.id (0:Int)&&(BEq.beq b.ver (0:Int)&&(BEq.beq b.epoch (0:Int)&&(BEq.beq (ByteArray.toList b.key) (ByteArray.toList (ByteArray.mk #[]))&&(BEq.beq (ByteArray.toList b.value) (ByteArray.toList (ByteArray.mk #[]))&&true)))))))/\True) (cP (BEq.beq b.kind (1:Int)) (cP (decide ((b.key.size:Int)<1)) (pU b) (cP (decide ((b.key.size:Int)>(16:Int))) (pU b) (I64 ((b.key.size:Int)+(b.value.size:Int)-(b.key.size:Int))/\cP (BEq.beq b.kind (2:Int)) (cP (Bool.not (BEq.beq (ByteArray.toList b.key) (ByteArray.toList (ByteArray.mk #[])))) (Rh b) (arf b)) (arf b)))) (cP (BEq.beq b.kind (2:Int)) (cP (BEq.beq b.kind (2:Int)) (cP (Bool.not (BEq.beq (ByteArray.toList b.key) (ByteArray.toList (ByteArray.mk #[])))) (Rh b) (arh b)) (arh b)) (cP (BEq.beq b.kind (3:Int)) (cP (bne ((b.key.size:Int)+(b.value.size:Int)) (0:Int)) (pU b) (cP (bne b.cls (0:Int)) (pU b) (cP (decide (b.id>=(1:Int))) (cP (decide (b.id<=2305843009213693952)) (cP (decide (b.ver>=(1:Int))) (cP (decide (b.ver<=2305843009213693952)) (cP (decide (b.epoch>=(1:Int))) (∃y_1:Unit,True/\b.OY=decide (b.epoch<=2305843009213693952)/\True) (pU b)) (pU b)) (pU b)) (pU b)) (pU b)))) (pU b)))))
theorem amE(b:ZBlk):ari b=wpF Tryz.prog [(113,ctrT zG),(201,ctrT VB)] tt (noA b) 200 5 229 (apf.args b) (hO apf.k (apf.os b)) (λv h'=>eG apf.k b v h' apf.outs):=by kernel_rfl
def arj(x:EW):Prop:=
 cP (decide ((x.w:Int)<1)) (ahF x) (cP (decide ((x.w:Int)>(8:Int))) (ahF x) (I64 ((x.b.n:Int)-(x.w:Int))/\cP (decide ((x.at_:Int)>(x.b.n:Int)-(x.w:Int))) (∃y:Unit,True/\(wU (λ(k:Nat)=>x.b.g (x.b.q+k)) x.at_ x.w=0/\(0:Int)=2/\True)/\yO x.b/\True) ((∃s:Nat,Hd (s<=x.w)/\True/\((s:Int)=0/\wU (λ(k:Nat)=>x.b.g (x.b.q+k)) x.at_ s=0/\True)/\yO x.b/\True)/\(∀s:Nat,Hd (s<=x.w)->cP (decide ((s:Int)<(x.w:Int))) (I64 ((x.at_:Int)+(s:Int))/\(0<=(x.at_:Int)+(s:Int)/\(x.at_:Int)+(s:Int)<(x.b.n:Int))/\x.b.q+Int.toNat ((x.at_:Int)+(s:Int))<x.b.N/\I64 (8*(s:Int))/\0<=8*(s:Int)/\I64 ((s:Int)+1)/\ ∃s_1:Nat,Hd (s_1<=x.w)/\x.w-s_1<x.w-s/\((s_1:Int)=(s:Int)+1/\wU (λ(k:Nat)=>x.b.g (x.b.q+k)) x.at_ s_1=IntKind.wrap .u64 ((@BitVec.toNat 64 (@HOr.hOr (@BitVec 64) (@BitVec 64) (@BitVec 64) (@instHOrOfOrOp (@BitVec 64) (@BitVec.instOrOp 64)) (@BitVec.ofInt 64 (wU (λ(k:Nat)=>x.b.g (x.b.q+k)) x.at_ s)) (@BitVec.ofInt 64 (IntKind.wrap .u64 (IntKind.wrap .u64 (x.b.g (x.b.q+Int.toNat ((x.at_:Int)+(s:Int))))* @HPow.hPow Int Nat Int (@instHPow Int Nat (@instPowNat Int @Int.instNatPow)) (2:Int) (@Min.min Nat @instMinNat (Int.toNat (8*(s:Int))) 64))))):Nat):Int)/\True)/\yO x.b/\True) (∃y:Unit,True/\(wU (λ(k:Nat)=>x.b.g (x.b.q+k)) x.at_ x.w=wU (λ(k:Nat)=>x.b.g (x.b.q+k)) x.at_ s/\(0:Int)=0/\True)/\yO x.b/\True))/\True)))
theorem amF(x:EW):arj x=wpF Tryz.prog [] tt (aua x) 200 5 228 (arb.args x) (hO arb.k (arb.os x)) (λv h'=>eG arb.k x v h' arb.outs):=by kernel_rfl
def ahI(x:zM):Prop:=
 ((0:Int)<=64/\(0:Int)<=0/\(0:Int)<=281474976710592/\(0:Int)<=4611686018427387839)/\((0:Int)<=0/\(0:Int)<=63)/\0<64/\(aaI x.b.key/\aaH x.b.kind/\Rf x.b.cls)/\((0:Int)<=1/\(0:Int)<=62)/\1<64/\(aaI x.b.key/\Rf x.b.kind)/\((0:Int)<=2/\(0:Int)<=61)/\2<64/\(aaI x.b.key/\True)/\((0:Int)<=3/\(0:Int)<=60)/\3<64/\True/\ ∃x_1:CQ,ac9 x_1/\(BK/\(x_1.at_:Int)=4/\(x_1.w:Int)=2/\x_1.v=IntKind.wrap .u64 (x.b.value.size:Int)/\True)/\((64=64/\ ∀q:Nat,q<64->[Value.int .u8 (x_1.g q)]=Cs.eff (λ(x_2:Nat)=>[Value.int .u8 0]) [(3,[Value.int .u8 (IntKind.wrap .u8 (x.b.key.size:Int))]),(2,[Value.int .u8 (IntKind.wrap .u8 x.b.kind)]),(1,[Value.int .u8 (IntKind.wrap .u8 x.b.cls)]),(0,[Value.int .u8 1])] q)/\True)/\ ∀y:Unit,True-> ∃x_2:CQ,ac9 x_2/\(BK/\(x_2.at_:Int)=8/\(x_2.w:Int)=8/\x_2.v=x.b.id/\True)/\Ri x_2 x_1/\ ∀y_1:Unit,True-> ∃x_3:CQ,ac9 x_3/\(BK/\(x_3.at_:Int)=16/\(x_3.w:Int)=8/\x_3.v=x.b.ver/\True)/\Ri x_3 x_2/\ ∀y_2:Unit,True-> ∃x_4:CQ,ac9 x_4/\(BK/\(x_4.at_:Int)=24/\(x_4.w:Int)=8/\x_4.v=x.b.epoch/\True)/\Ri x_4 x_3/\ ∀y_3:Unit,True->(0:Int)<=32/\(0<=32/\32<=64/\64<=64)/\32<=64/\ ∃n:Nat,∃g: ∀a:Nat,Int,32=n/\n<1099511627776/\(∀k:Nat,k<n->[Value.int .u8 (pO x_4.g x_4.at_ x_4.w x_4.v (0+k))]=[Value.int .u8 (g k)])/\(∀k:Nat,0<=g k/\g k<256)/\ ∃x_5:aqN,Hd (U32 x_5.c/\x_5.b.ok)/\(x_5.c=nR (0:Int) g n/\(x_5.b.q=x.d.q/\x_5.b.n=x.d.n)/\True)/\((x_5.b.N=x.d.N/\ ∀q:Nat,q<x_5.b.N->[Value.int .u8 (x_5.b.g q)]=[Value.int .u8 (x.d.g q)])/\True)/\
 ∀y_4:Unit,True-> ∃x_6:CQ,ac9 x_6/\(BK/\(x_6.at_:Int)=32/\(x_6.w:Int)=4/\x_6.v=IntKind.wrap .u64 (nR x_5.c (λ(k:Nat)=>x_5.b.g (x_5.b.q+k)) x_5.b.n)/\True)/\Ri x_6 x_4/\ ∀y_5:Unit,True->(0:Int)<=36/\(36<=64/\64<=64/\64<=64)/\64<=64/\cP (Nat.ble x.d.n 28) (x.d.q+x.d.n<=x.d.N/\(∀k:Nat,k<x.d.n->ahG x.d k)/\ ∃y_6:Unit,True/\BK/\yO x.d/\(64=64/\ ∀q:Nat,q<64->[Value.int .u8 (x.b.jS (λ(k:Nat)=>x.d.g (x.d.q+k)) x.d.n q)]=Cs.eff (λ(p:Nat)=>cond (Nat.ble 36 p&&Nat.blt p (36+x.d.n)) [Value.int .u8 (x.d.g (x.d.q+(p-36)))] [Value.int .u8 (pO x_6.g x_6.at_ x_6.w x_6.v p)]) [] q)/\True) (x.d.q+28<=x.d.N/\(∀k:Nat,k<28->ahG x.d k)/\ ∃y_6:Unit,True/\BK/\yO x.d/\(64=64/\ ∀q:Nat,q<64->[Value.int .u8 (x.b.jS (λ(k:Nat)=>x.d.g (x.d.q+k)) x.d.n q)]=Cs.eff (λ(p:Nat)=>cond (Nat.ble 36 p&&Nat.blt p 64) [Value.int .u8 (x.d.g (x.d.q+(p-36)))] [Value.int .u8 (pO x_6.g x_6.at_ x_6.w x_6.v p)]) [] q)/\True)
theorem ahJ(x:zM):ahI x=wpF Tryz.prog aub tt (noA x) 200 5 114 (Eo.args x) (hO Eo.k (Eo.os x)) (λv h'=>eG Eo.k x v h' Eo.outs):=by kernel_rfl
def ahK(x:CQ):Prop:=
 ∃x_1:uT,Hd x_1.ok/\((x_1.b.q=0/\x_1.b.n=64/\x_1.c=64)/\(x_1.at_:Int)=(x.at_:Int)/\(x_1.w:Int)=(x.w:Int)/\x_1.v=x.v/\True)/\((x_1.b.N=64/\ ∀q:Nat,q<x_1.b.N->[Value.int .u8 (x_1.b.g q)]=[Value.int .u8 (x.g q)])/\True)/\ ∀y:Unit,True->64<=64/\cP (Nat.ble x_1.b.n 64) (0+x_1.b.n<=x_1.b.n/\(∀k:Nat,k<x_1.b.n->ahH x_1 k)/\ ∃y_1:Unit,True/\True/\(64=64/\ ∀q:Nat,q<64->[Value.int .u8 (pO x.g x.at_ x.w x.v q)]=Cs.eff (λ(p:Nat)=>cond (Nat.ble 0 p&&Nat.blt p (0+x_1.b.n)) [Value.int .u8 (x_1.res (0+(p-0)))] [Value.int .u8 (x.g p)]) [] q)/\True) (64<=x_1.b.n/\(∀k:Nat,k<64->ahH x_1 k)/\ ∃y_1:Unit,True/\True/\(64=64/\ ∀q:Nat,q<64->[Value.int .u8 (pO x.g x.at_ x.w x.v q)]=Cs.eff (λ(p:Nat)=>cond (Nat.ble 0 p&&Nat.blt p 64) [Value.int .u8 (x_1.res (0+(p-0)))] [Value.int .u8 (x.g p)]) [] q)/\True)
theorem ahL(x:CQ):ahK x=wpF Tryz.prog tblB0 tt (noA x) 200 5 169 (Wn.args x) (hO Wn.k (Wn.os x)) (λv h'=>eG Wn.k x v h' Wn.outs):=by kernel_rfl
theorem qN{b:Bool}{x y:Prop}:cP b x y↔(b=true->x)/\(b=false->y):=⟨λh=>by cases b with
 |true=>exact⟨λ_=>h,λe=>nomatch e⟩
 |false=>exact⟨λe=>(nomatch e),λ_=>h⟩,λh=>bf h.1 h.2⟩
theorem Wp(x:CQ)(hx:x.at_+x.w<=64/\1<=x.w/\x.w<=8/\0<=x.v/\x.v<256^x.w/\ ∀k,0<=x.g k/\x.g k<256):ahK x:=by
 obtain⟨h1,h2,h3,h4,h5,h6⟩:=hx;have e1:Nat.ble 64 64=true:=rfl;unfold ahK;simp only[ahH];simp only[aZ,aV,aU,aA,aI,bQ,bF,aO,aK,ay,aX,aW,bT,bG,bH,bI,bU,bC,bJ,bn,eH,aH,aN,ah,ak,aB,aF,aC,aG];simp only[qN];refine⟨⟨⟨x.g,0,64,64⟩,x.at_,x.w,x.v,64⟩,⟨⟨by simp,by simp,h6⟩,h1,h2,h3,h4,h5⟩,⟨⟨rfl,rfl,rfl⟩,rfl,rfl,rfl⟩,⟨rfl,λq _=>rfl⟩,?_⟩;have key: ∀q,q<64->pO x.g x.at_ x.w x.v q=bif Nat.blt q 64 then(uT.mk ⟨x.g,0,64,64⟩ x.at_ x.w x.v 64).res q else x.g q:=λq hq=>by
  rw[bg.2 hq,aP];simp only[uT.res,aA]
 exact⟨aY _,λ_=>⟨aY _,λq hq=>key q hq⟩,λh=>absurd (show Nat.ble 64 64=false from h) (by decide)⟩
theorem ahM{g:Nat->Int}(hg: ∀k,0<=g k/\g k<256)(a:Nat): ∀w,0<=wU g a w/\wU g a w<256^w
 |0=>⟨Int.le_refl _,by show(0:Int)<256^0;decide⟩
 |w+1=>by
  have ih:=ahM hg a w;have h:=hg (a+w);have hp:(0:Int)<256^w:=Int.pow_pos (by omega);simp only[wU];have h1:0<=g (a+w)*256^w:=Int.mul_nonneg h.1 (Int.le_of_lt hp);have h2:g (a+w)*256^w<=255*256^w:=Int.mul_le_mul_of_nonneg_right (by omega) (Int.le_of_lt hp);rw[Int.pow_succ];omega
theorem or64{a b:Int}{s:Nat}(ha:0<=a)(ha2:a<256^s)(hb:0<=b)(hb2:b<256)(hs:s<8):IntKind.u64.wrap (((BitVec.ofInt 64 a|||BitVec.ofInt 64 (IntKind.u64.wrap (b*256^s))).toNat:Nat):Int)=a+b*256^s:=by
 obtain⟨x,rfl⟩:=Int.eq_ofNat_of_zero_le ha;obtain⟨y,rfl⟩:=Int.eq_ofNat_of_zero_le hb;have hx:x<2^(8*s):=by
  rw[Nat.pow_mul];have:((256:Nat):Int)^s=((256^s:Nat):Int):=(Int.natCast_pow 256 s).symm;have h2:(x:Int)<((256^s:Nat):Int):=by rw[<-this];exact ha2
  exact Int.ofNat_lt.1 h2
 have hy:y<256:=by omega
 have e1:(y:Int)*256^s=((y*2^(8*s):Nat):Int):=by rw[Nat.pow_mul,show(2:Nat)^8=256 from rfl,Int.natCast_mul,Int.natCast_pow];rfl
 have hp:2^(8*s)<=2^56:=Nat.pow_le_pow_right (by decide) (by omega);have hlt:y*2^(8*s)<2^64:=by
  have:y*2^(8*s)<=255*2^56:=Nat.mul_le_mul (by omega) hp;omega
 have hor:x|||y*2^(8*s)=x+y*2^(8*s):=by
  rw[Nat.or_comm,Nat.add_comm,<-Nat.shiftLeft_eq,Nat.shiftLeft_add_eq_or_of_lt hx]
 have hx64:x<2^64:=by omega
 have hsum:x+y*2^(8*s)<2^64:=by
  have:y*2^(8*s)<=255*2^(8*s):=Nat.mul_le_mul_right _ (by omega);omega
 have hw: ∀n:Nat,n<2^64->IntKind.u64.wrap (n:Int)=(n:Int):=λn hn=>by
  unfold IntKind.wrap;simp only[IntKind.bits,IntKind.signed];have:(n:Int)%(2^64)=n:=Int.emod_eq_of_lt (by omega) (by omega);simpa using this
 rw[e1,hw _ hlt,show BitVec.ofInt 64 ((x:Nat):Int)=BitVec.ofNat 64 x from BitVec.ofInt_natCast ..,show BitVec.ofInt 64 ((y*2^(8*s):Nat):Int)=BitVec.ofNat 64 (y*2^(8*s)) from BitVec.ofInt_natCast ..,BitVec.toNat_or,BitVec.toNat_ofNat,BitVec.toNat_ofNat,Nat.mod_eq_of_lt hx64,Nat.mod_eq_of_lt hlt,hor,hw _ hsum];omega
theorem amG{z:Int}(h:0<=z/\z<256):IntKind.u64.wrap z=z:=by
 unfold IntKind.wrap;simp only[IntKind.bits,IntKind.signed];have:z%(2^64)=z:=Int.emod_eq_of_lt (by omega) (by omega);simpa using this
theorem ada(x:EW)(hx:x.b.ok/\x.at_+x.w<=x.b.n/\1<=x.w/\x.w<=8):arj x:=by
 obtain⟨⟨h1,h2,h3⟩,h4,h5,h6⟩:=hx;unfold arj;simp only[ahF,yO];simp only[aZ,aV,aU,aA,aI,bQ,bF,aO,aK,ay,aX,aW,bT,bG,bH,bI,bU,bC,bJ,bn,eH,aH,aN,ah,ak,aB,aF,aC,aG];refine bf (λh=>absurd (aS h) (by omega)) λ_=>bf (λh=>absurd (aS h) (by omega)) λ_=>⟨by unfold I64;omega,bf (λh=>absurd (aS h) (by omega)) λ_=>⟨⟨0,by omega,rfl,rfl⟩,λs hs=>bf (λh=> ?_) λh=> ?_⟩⟩
 ·have hs':s<x.w:=by have:=aS h;omega
  refine⟨by unfold I64;omega,⟨by omega,by omega⟩,by omega,by unfold I64;omega,by omega,by unfold I64;omega,s+1,by omega,by omega,by omega,?_⟩;have hb:=ahM (g:=λk=>x.b.g (x.b.q+k)) (λk=>h3 _) x.at_ s;rw[show((x.at_:Int)+(s:Int)).toNat=x.at_+s by omega,amG (h3 _),Va (by omega),or64 hb.1 hb.2 (h3 _).1 (h3 _).2 (by omega)];rfl
 ·rw[show x.w=s by have:=aT h;omega]
theorem ahN(a b:ByteArray):(a.toList==b.toList)=true↔a=b:=by
 rw[beq_iff_eq];exact⟨λh=>by rw[toList_data,toList_data]at h;cases a;cases b;simp at h;simp[h],λh=>by rw[h]⟩
theorem adb(b:ZBlk)(hb:b.key.size<1099511627776/\b.value.size<1099511627776):ari b:=by
 unfold ari;simp only[pU,Rh,arf,arh,ard,Rf,Q9,aaH];simp only[aZ,aV,aU,aA,aI,bQ,bF,aO,aK,ay,aX,aW,bT,bG,bH,bI,bU,bC,bJ,bn,eH,aH,aN,ah,ak,aB,aF,aC,aG];have hF: ¬b.may->b.OY=false:=λh=>by
  cases hm:b.OY with
  |true=>exact absurd (yN.1 hm) h
  |false=>rfl
 have hT:b.may->b.OY=true:=yN.2;have hB: ∀x:Bool,(x=true↔b.may)->b.OY=x:=λx h=>by
  cases hx:x with
  |true=>exact hT (h.1 hx)
  |false=>exact hF λhm=>by rw[h.2 hm]at hx;cases hx
 have n1:((b.key.size:Int)+((b.key.size:Int)+(b.value.size:Int)-(b.key.size:Int)))=((b.key.size+b.value.size:Nat):Int):=by omega
 have n2:((b.key.size:Int)+(b.value.size:Int)-(b.key.size:Int))=(b.value.size:Int):=by omega
 have kz:b.key=⟨#[]⟩->b.key.size=0:=λh=>by rw[h];rfl
 have vz:b.value=⟨#[]⟩->b.value.size=0:=λh=>by rw[h];rfl
 obtain⟨b1,b2⟩:=hb;have ek:=ahN b.key ⟨#[]⟩;have ev:=ahN b.value ⟨#[]⟩;generalize hek:(b.key.toList==ByteArray.toList ⟨#[]⟩)=kk at ek ⊢;generalize hev:(b.value.toList==ByteArray.toList ⟨#[]⟩)=vv at ev ⊢;simp only[n1,n2,I64,beq_self_eq_true,aH,Bool.and_true];unfold ZBlk.may ZBlk.nums ZBlk.num at hB hF hT;clear hek hev;generalize b.OY=m at hB hF hT ⊢;by_cases s0:spn b.cls=0
 ·rw[show(spn b.cls==0)=true from beq_iff_eq.2 s0]
  exact hF λh=>h.1 s0
 rw[show(spn b.cls==0)=false from beq_eq_false_iff_ne.2 s0];refine⟨by omega,?_⟩;by_cases k0:b.kind=0
 ·simp only[k0,beq_self_eq_true,kX]
  exact hB _ (by grind)
 by_cases k1:b.kind=1
 ·simp only[k1,qN]
  simp only[k1]at hT hF;clear hB ek ev kz vz;grind (splits:=30)
 by_cases k2:b.kind=2
 ·by_cases hk:b.key=⟨#[]⟩
  ·have k0':=kz hk
   have n3:((0:Nat):Int)+(((0:Nat):Int)+(b.value.size:Int))=((0+b.value.size:Nat):Int):=by omega
   have hkk:=ek.2 hk;simp only[k2,k0',hkk,hk,n3,qN]at hF hT ⊢;clear hB ek ev kz vz;grind (splits:=30)
  ·have hkk:kk=false:=by
    cases h:kk with
    |false=>rfl
    |true=>exact absurd (ek.1 h) hk
   simp only[k2,hkk,qN]at hT hF ⊢;clear hB ek ev kz vz;grind
 by_cases k3:b.kind=3
 ·simp only[k3,qN]
  simp only[k3]at hT hF;clear hB ek ev kz vz;grind (splits:=30)
 ·rw[show(b.kind==0)=false from beq_eq_false_iff_ne.2 k0,show(b.kind==1)=false from beq_eq_false_iff_ne.2 k1,show(b.kind==2)=false from beq_eq_false_iff_ne.2 k2,show(b.kind==3)=false from beq_eq_false_iff_ne.2 k3]
  exact hF (by grind)
theorem iC{z:Int}(h:0<=z)(h2:z<18446744073709551616):IntKind.u64.wrap z=z:=by
 unfold IntKind.wrap;simp only[IntKind.bits,IntKind.signed];have:z%(2^64)=z:=Int.emod_eq_of_lt h (by omega);simpa using this
theorem ark(b:ZBlk)(q:Nat):pO (pO (pO (pO (λq=>if q=0 then 1 else if q=1 then b.cls else if q=2 then b.kind else if q=3 then(b.key.size:Int)else 0) 4 2 b.value.size) 8 8 b.id) 16 8 b.ver) 24 8 b.epoch q=b.h32 q:=by
 unfold pO ZBlk.h32;grind (splits:=30)
theorem Wq(x:zM)(hx:x.ok):ahI x:=by
 obtain⟨⟨d1,d2,d3⟩,dn,h1,h2,h3,h4,h5,h6,h7,h8,h9,h10,h11,h12⟩:=hx;let g0:Nat->Int:=λq=>if q=0 then 1 else if q=1 then x.b.cls else if q=2 then x.b.kind else if q=3 then(x.b.key.size:Int)else 0
 have hg0: ∀k,0<=g0 k/\g0 k<256:=λk=>by simp only[g0];grind
 let g1:=pO g0 4 2 x.b.value.size
 have hg1: ∀k,0<=g1 k/\g1 k<256:=zF hg0 _ _ _;let g2:=pO g1 8 8 x.b.id
 have hg2: ∀k,0<=g2 k/\g2 k<256:=zF hg1 _ _ _;let g3:=pO g2 16 8 x.b.ver
 have hg3: ∀k,0<=g3 k/\g3 k<256:=zF hg2 _ _ _;let g4:=pO g3 24 8 x.b.epoch
 have hg4: ∀k,0<=g4 k/\g4 k<256:=zF hg3 _ _ _;have e4: ∀q,g4 q=x.b.h32 q:=λq=>ark x.b q
 have hU1:=Z5 0 g4 32;have hU:=Z5 (nR 0 g4 32) (λk=>x.d.g (x.d.q+k)) x.d.n;have w1:IntKind.u64.wrap (x.b.value.size:Int)=x.b.value.size:=iC (by omega) (by omega);have w2:IntKind.u64.wrap (nR (nR 0 g4 32) (λk=>x.d.g (x.d.q+k)) x.d.n)=nR (nR 0 g4 32) (λk=>x.d.g (x.d.q+k)) x.d.n:=iC hU.1 (by have:=hU.2;omega);have ub: ∀z:Int,0<=z->z<256->IntKind.u8.wrap z=z:=λz a b=>by rw[ao4];exact Int.emod_eq_of_lt a b
 have fin: ∀q,q<64->x.b.jS (λk=>x.d.g (x.d.q+k)) x.d.n q=if 36<=q then x.d.g (x.d.q+(q-36))else pO g4 32 4 (nR (nR 0 g4 32) (λk=>x.d.g (x.d.q+k)) x.d.n) q:=λq hq=>by
  unfold ZBlk.jS;have ea:nR 0 g4 32=nR 0 x.b.h32 32:=zD λk _=>e4 k
  rw[ea];unfold pO;by_cases q1:q<32
  ·rw[if_pos q1,if_neg (by omega),if_neg (by omega),e4]
  ·rw[if_neg q1]
   by_cases q2:q<36
   ·rw[if_pos q2,if_neg (by omega),if_pos (by omega)]
   ·rw[if_neg q2,if_pos (by omega)]
 unfold ahI;simp only[aaI,aaH,Rf,ac9,BK,Ri,ahG,yO];simp only[aZ,aV,aU,aA,aI,bQ,bF,aO,aK,ay,aX,aW,bT,bG,bH,bI,bU,bC,bJ,bn,eH,aH,aN,ah,ak,aB,aF,aC,aG,w1,ub _ h3 h4,ub _ h5 h6,ub _ (show(0:Int)<=x.b.key.size by omega) (show(x.b.key.size:Int)<256 by omega)]
 refine⟨by decide,by decide,by decide,by decide,by decide,by decide,by decide,by decide,by decide,
  ⟨g0,4,2,x.b.value.size⟩,⟨show 4+2<=64 by decide,show 1<=2 by decide,show 2<=8 by decide,show(0:Int)<=x.b.value.size by omega,show(x.b.value.size:Int)<256^2 by omega,hg0⟩,⟨rfl,rfl,rfl⟩,λq _=> ?_,
  ⟨g1,8,8,x.b.id⟩,⟨show 8+8<=64 by decide,show 1<=8 by decide,show 8<=8 by decide,h7,h8,hg1⟩,⟨rfl,rfl,rfl⟩,λq _=>rfl,
  ⟨g2,16,8,x.b.ver⟩,⟨show 16+8<=64 by decide,show 1<=8 by decide,show 8<=8 by decide,h9,h10,hg2⟩,⟨rfl,rfl,rfl⟩,λq _=>rfl,
  ⟨g3,24,8,x.b.epoch⟩,⟨show 24+8<=64 by decide,show 1<=8 by decide,show 8<=8 by decide,h11,h12,hg3⟩,⟨rfl,rfl,rfl⟩,λq _=>rfl,
  by decide,by decide,by decide,32,g4,rfl,by decide,λk _=>rfl,hg4,⟨nR 0 g4 32,x.d⟩,⟨hU1,d1,d2,d3⟩,⟨rfl,rfl,rfl⟩,⟨rfl,λq _=>rfl⟩,
  ⟨g4,32,4,nR (nR 0 g4 32) (λk=>x.d.g (x.d.q+k)) x.d.n⟩,⟨show 32+4<=64 by decide,show 1<=4 by decide,show 4<=8 by decide,hU.1,hU.2,hg4⟩,⟨rfl,rfl,w2.symm⟩,λq _=>rfl,?_⟩
 ·simp only[Cs.eff,bV,dh,dB,dI,<-Bool.decide_and,g0]
  split
  ·grind
  ·grind
 ·simp only[qN]
  refine⟨by decide,by decide,by decide,λhb=>⟨d1,λq hq=> ?_⟩,λhb=>⟨by omega,λq hq=> ?_⟩⟩
  ·rw[fin q hq]
   have hn:x.d.n=28:=by have:=Nat.le_of_ble_eq_true hb;omega
   simp only[Cs.eff,bV,dh,dB,dI,<-Bool.decide_and,hn];grind
  ·rw[fin q hq]
   simp only[Cs.eff,bV,dh,dB,dI,<-Bool.decide_and];grind
theorem ahO:bY Tryz.prog 229 apf:=dL dD mixed (.cons (bM ny) (.cons (bM ag0) .nil)) noA 200 5 (λ_=>rfl) (λ_=>rfl) λx hx=>Eq.mp (amE x) (adb x (aZ.1 hx))
theorem auc:bY Tryz.prog 228 arb:=dL dD mixed .nil aua 200 5 (λ_=>rfl) (λ_=>rfl) λx hx=>Eq.mp (amF x) (ada x (aZ.1 hx))
theorem arl:bY Tryz.prog 169 Wn:=dL dD mixed (.cons (bM ao5) .nil) noA 200 5 (λ_=>rfl) (λ_=>rfl) λx hx=>Eq.mp (ahL x) (Wp x (aZ.1 hx))
theorem amH:dY Tryz.prog aub:= .cons Z7 (.cons (bM ao3) (.cons (bM arl) .nil))
theorem arn:bY Tryz.prog 114 Eo:=dL dD mixed amH noA 200 5 (λ_=>rfl) (λ_=>rfl) λx hx=>Eq.mp (ahJ x) (Wq x (aZ.1 hx))
noncomputable def apg:Ctr:={X:=ZBlk,args:=λb=>[b.av],k:=0,os:=λ_=>[],pre:=λb=>Hd (b.may/\b.key.size<1099511627776/\b.value.size<1099511627776),outs:=[
 {Y:=Unit,post:=λb _=>Hd (b.cls=0),ret:=λ_ _=> .tup [.slE 0 0 1 64 64,i64 0],m:=1,os:=λb _=>[.cells 5 (rowB b.enc 64)]},
 {Y:=Unit,post:=λb _=>Hd (b.cls≠0),ret:=λb _=> .tup [.slW 0 0 1 (64*b.dK),i64 0],m:=1,os:=λb _=>[.room 5 (rowB b.enc (64*b.dK))]}]}
noncomputable def aud(x:ZBlk):FuncId->qR:=λf=>bif Nat.beq f 180 then(λb _ _=>bif Nat.beq b 0 then [
 {σ:=Unit,fr:=λ_=>[(31,i64 0),(4,.slE 1 28 1 (x.iH-28) (x.iH-28)),(5,.slE 2 0 1 64 64)],ob:=λ_=>[],inv:=λ_=>Hd True,meas:=λ_=>x.dK+1,test:=λfr _=>(match SE.look fr 5 with| .slE .. =>true|_=>false)},
 {σ:=Nat,fr:=λi=>[(31,i64 i),(4,.slE 1 (28+63*i) 1 (x.iH-28-63*i) (x.iH-28-63*i)),(5,.slW 3 0 1 (64*(i+1)))],ob:=λi=>[(3,some (.room 5 (rowB x.enc (64*(i+1)))))],inv:=λi=>Hd (1<=i/\i+1<=x.dK),meas:=λi=>x.dK-i,nx:=1,test:=λfr _=>(match SE.look fr 5 with| .slE .. =>false|_=>true)}]else [])elseλ_ _ _=>[]
noncomputable def EX:Ctr:=det Int (λc=>[i64 c]) 0 (λ_=>[]) (λc=>Hd (0<=c/\c<=3)) (λ_=> .slE 0 0 1 64 64) 1 (λc=>[.cells 5 (rowB ((ZBlk.mk c 0 0 0 0 ⟨#[]⟩ ⟨#[]⟩).jS (λ_=>0) (cpc c).toNat) 64)])
structure BL where
 b:Bys
 s:Nat
def BL.at_(x:BL)(i:Nat):Int:=if i<28 then x.b.g (x.b.q+(36+i))else x.b.g (x.b.q+(64*((i-28)/63+1)+1+(i-28)%63))
def BL.str(x:BL):ByteArray:=mkStr (28+63*(x.s-1)) (λi=>UInt8.ofNat (x.at_ i).toNat)
def Ws:Ctr:=det BL (λx=>[x.b.av 0]) 1 (λx=>[x.b.ro]) (λx=>Hd (x.b.ok/\x.b.n=64*x.s/\1<=x.s/\x.s<=8)) (λx=> .lit (.string x.str)) 1 (λx=>[x.b.ro])
def aph(x:BL):FuncId->qR:=λf=>bif Nat.beq f 179 then(λb _ h=>bif Nat.beq b 0 then [
 {σ:=Unit,fr:=λ_=>[(4,i64 64),(3,.slW 2 0 1 28)],ob:=λ_=>[(2,some (.room 5 (rowB x.at_ 28)))],inv:=λ_=>Hd True,meas:=λ_=>x.s+1,test:=λfr _=>(match SE.look fr 3 with| .slW i _ _ _=>Nat.beq i 2|_=>false)},
 {σ:=Nat,fr:=λi=>[(4,i64 (64+64*i:Nat)),(3,.slW 3 0 1 (28+63*i))],ob:=λi=>[(2,none),(3,some (.room 5 (rowB x.at_ (28+63*i))))],inv:=λi=>Hd (1<=i/\i+1<=x.s),meas:=λi=>x.s-i,nx:=1,test:=λfr _=>(match SE.look fr 3 with| .slW i _ _ _=> !Nat.beq i 2|_=>false)}]else [])elseλ_ _ _=>[]
structure ahP where
 b:ZBlk
 g:Nat->Int
noncomputable def aro:Ctr:=det ahP (λx=>[.slW 0 0 1 (64*x.b.dK)]) 1 (λx=>[.room 5 (rowB x.g (64*x.b.dK))]) (λx=>Hd (x.b.may/\x.b.key.size<1099511627776/\x.b.value.size<1099511627776/\ ∀k,k<64*x.b.dK->x.g k=x.b.enc k)) (λx=> .tup [x.b.av,boo true]) 1 (λx=>[.room 5 (rowB x.g (64*x.b.dK))])
noncomputable def arp:jv:=[(113,ctrT zG),(115,ctrT ao7),(229,ctrT apf),(114,ctrT Eo)]
noncomputable def aue:jv:=[(113,ctrT zG),(228,ctrT arb),(179,ctrT Ws),(180,ctrT apg)]
end Go.Proofs.YtenfleoejgjklaaGreat
end
