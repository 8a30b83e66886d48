import Derived.Test.YtenfleoejgjklaaGreatYa
import Derived.Test.YtenfleoejgjklaaGreatYb
import Derived.Test.YtenfleoejgjklaaGreatYc
import Derived.Test.YtenfleoejgjklaaGreatYd
import Derived.Test.YtenfleoejgjklaaGreatRows
import Derived.KernelRfl
set_option linter.unusedVariables false
set_option linter.unusedSimpArgs false
set_option linter.unnecessarySimpa false
section
namespace Go.Proofs.YtenfleoejgjklaaGreat
open Go SE
noncomputable def tt:TT:=aqo Tryz.prog
theorem dF:tt.ok Tryz.prog:=λ_ _ h=>h
set_option maxRecDepth 20000
theorem mixed:Tryz.prog.follows .mixedOrders=true:=by kernel_rfl
def i64(n:Int):AV:= .lit (.int .i64 n)
end Go.Proofs.YtenfleoejgjklaaGreat
end
section
namespace Go.Proofs.YtenfleoejgjklaaGreat
open Go SE
def x32(a b:Int):Int:=IntKind.u32.wrap ((BitVec.ofInt 32 a^^^BitVec.ofInt 32 b).toNat:Nat)
def aqX(c:Int):Int:=bif decide (c%2=0)then c/2 else x32 (c/2) 3988292384
def uN(c:Int):Nat->Int
 |0=>c
 |k+1=>aqX (uN c k)
def stepM(c x:Int):Int:=uN (x32 c x) 8
def Dz(s:ByteArray):Nat->Int
 |0=>4294967295
 |i+1=>stepM (Dz s i) (dY s i)
noncomputable def nY(s:ByteArray):Int:=hide (x32 (Dz s s.size) 4294967295)
theorem Yo(s:ByteArray):nY s=x32 (Dz s s.size) 4294967295:=iG _
def U32(c:Int):Prop:=0<=c/\c<4294967296
theorem wrap_u32(z:Int):U32 (IntKind.u32.wrap z):=by
 unfold IntKind.wrap U32;simp[IntKind.bits,IntKind.signed];omega
theorem DC{z:Int}(h:U32 z):IntKind.u32.wrap z=z:=by
 unfold IntKind.wrap U32 at*
 simp[IntKind.bits,IntKind.signed];omega
theorem SV(a b:Int):U32 (x32 a b):=wrap_u32 _
theorem aqY{c:Int}(h:U32 c):U32 (aqX c):=by
 unfold aqX;cases decide (c%2=0)
 ·exact SV _ _
 ·unfold U32 at*;simp only[aP];omega
theorem Jl{c:Int}(h:U32 c): ∀k,U32 (uN c k)
 |0=>h
 |k+1=>aqY (Jl h k)
theorem aok(s:ByteArray): ∀i,U32 (Dz s i)
 |0=>by unfold Dz U32;omega
 |i+1=>Jl (SV _ _) 8
theorem aol(s:ByteArray):U32 (nY s):=by rw[Yo];exact SV _ _
theorem ajN(s:ByteArray)(k:Nat):0<=dY s k/\dY s k<256:=by
 unfold dY;have:=(s.data.toList.getD k 0).toNat_lt;omega
def u32(c:Int):AV:= .lit (.int .u32 c)
def Oy:Ctr:=det (Int×Int) (λp=>[u32 p.1,.lit (.int .u8 p.2)]) 0 (λ_=>[]) (λp=>U32 p.1/\0<=p.2/\p.2<256) (λp=>u32 (stepM p.1 p.2)) 0 (λ_=>[])
def amC(p:Int×Int):FuncId->qA:=λf=>
 bif Nat.beq f 216 then(λb fr h=>bif Nat.beq b 0 then [{σ:=Nat,fr:=λk=>[(5,i64 k),(0,u32 (uN (x32 p.1 p.2) k))],ob:=λ_=>[],inv:=λk=>k<=8,meas:=λk=>8-k}]else [])else
 λ_ _ _=>[]
def strV(s:ByteArray):AV:= .lit (.string s)
noncomputable def SX:Ctr:=det ByteArray (λs=>[strV s]) 0 (λ_=>[]) (λs=>s.size<1099511627776) (λs=>u32 (nY s)) 0 (λ_=>[])
def amD(s:ByteArray):FuncId->qA:=λf=>
 bif Nat.beq f 232 then(λb fr h=>bif Nat.beq b 0 then [{σ:=Nat,fr:=λi=>[(7,i64 i),(3,u32 (Dz s i))],ob:=λ_=>[],inv:=λi=>i<=s.size,meas:=λi=>s.size-i}]else [])else
 λ_ _ _=>[]
def aew(p:Int×Int):Prop:=
 (∃s:Nat,s<=8/\True/\((s:Int)=0/\uN (x32 p.1 p.2) s=IntKind.wrap .u32 ((@BitVec.toNat 32 (@HXor.hXor (@BitVec 32) (@BitVec 32) (@BitVec 32) (@instHXorOfXorOp (@BitVec 32) (@BitVec.instXorOp 32)) (@BitVec.ofInt 32 p.1) (@BitVec.ofInt 32 (IntKind.wrap .u32 p.2))):Nat):Int)/\True)/\True)/\(∀s:Nat,s<=8->cP (decide ((s:Int)<8)) (I64 ((s:Int)+1)/\((2:Int)=0->False)/\cP (BEq.beq (Int.tmod (uN (x32 p.1 p.2) s) (2:Int)) (0:Int)) (((2:Int)=0->False)/\ ∃s_1:Nat,s_1<=8/\8-s_1<8-s/\((s_1:Int)=(s:Int)+1/\uN (x32 p.1 p.2) s_1=IntKind.wrap .u32 (Int.tdiv (uN (x32 p.1 p.2) s) (2:Int))/\True)/\True) (((2:Int)=0->False)/\ ∃s_1:Nat,s_1<=8/\8-s_1<8-s/\((s_1:Int)=(s:Int)+1/\uN (x32 p.1 p.2) s_1=IntKind.wrap .u32 ((@BitVec.toNat 32 (@HXor.hXor (@BitVec 32) (@BitVec 32) (@BitVec 32) (@instHXorOfXorOp (@BitVec 32) (@BitVec.instXorOp 32)) (@BitVec.ofInt 32 (IntKind.wrap .u32 (Int.tdiv (uN (x32 p.1 p.2) s) (2:Int)))) (@BitVec.ofInt 32 (3988292384:Int))):Nat):Int)/\True)/\True)) (∃y:Unit,True/\stepM p.1 p.2=uN (x32 p.1 p.2) s/\True))/\True
theorem aex(p:Int×Int):aew p=wpF Tryz.prog [] tt (amC p) 200 5 216 (Oy.args p) (hO Oy.k (Oy.os p)) (λv h'=>eX Oy.k p v h' Oy.outs):=by kernel_rfl
def aey(s:ByteArray):Prop:=
 (∃s_1:Nat,s_1<=s.size/\True/\((s_1:Int)=0/\Dz s s_1=4294967295/\True)/\True)/\(∀s_1:Nat,s_1<=s.size->cP (decide ((s_1:Int)<(s.size:Int))) ((0<=(s_1:Int)/\(s_1:Int)<(s.size:Int))/\ ∃x:Prod Int Int,((0<=x.1/\x.1<4294967296)/\0<=x.2/\x.2<256)/\(x.1=Dz s s_1/\x.2=dY s s_1/\True)/\True/\ ∀y:Unit,True->I64 ((s_1:Int)+1)/\ ∃s_2:Nat,s_2<=s.size/\s.size-s_2<s.size-s_1/\((s_2:Int)=(s_1:Int)+1/\Dz s s_2=stepM x.1 x.2/\True)/\True) (∃y:Unit,True/\nY s=IntKind.wrap .u32 ((@BitVec.toNat 32 (@HXor.hXor (@BitVec 32) (@BitVec 32) (@BitVec 32) (@instHXorOfXorOp (@BitVec 32) (@BitVec.instXorOp 32)) (@BitVec.ofInt 32 (Dz s s_1)) (@BitVec.ofInt 32 (4294967295:Int))):Nat):Int)/\True))/\True
theorem aez(s:ByteArray):aey s=wpF Tryz.prog [(216,ctrT Oy)] tt (amD s) 200 5 232 (SX.args s) (hO SX.k (SX.os s)) (λv h'=>eX SX.k s v h' SX.outs):=by kernel_rfl
theorem half{c:Int}(h:U32 c):Int.tmod c 2=c%2/\IntKind.u32.wrap (Int.tdiv c 2)=c/2:=by
 have e:Int.tdiv c 2=c/2:=Int.tdiv_eq_ediv_of_nonneg h.1;refine⟨Int.tmod_eq_emod_of_nonneg h.1,?_⟩;rw[e];exact DC (by unfold U32 at*;omega)
theorem SY(p:Int×Int)(hp:U32 p.1/\0<=p.2/\p.2<256):aew p:=by
 unfold aew;have hw:IntKind.u32.wrap p.2=p.2:=DC (by unfold U32;omega);have hx: ∀a b,IntKind.u32.wrap ((BitVec.ofInt 32 a^^^BitVec.ofInt 32 b).toNat:Nat)=x32 a b:=λ_ _=>rfl
 simp only[aV,aU,hw,hx];refine⟨⟨0,by omega,rfl,rfl⟩,λs hs=>bf (λhb=> ?_) (λhb=> ?_)⟩
 ·have hb:=aS hb
  obtain⟨h1,h2⟩:=half (Jl (SV p.1 p.2) s);rw[h1,h2];refine⟨by unfold I64;omega,by omega,bf (λhc=> ?_) (λhc=> ?_)⟩
  ·have hc:uN (x32 p.1 p.2) s%2=0:=by simpa using hc
   exact⟨by omega,s+1,by omega,by omega,rfl,by simp[uN,aqX,hc]⟩
  ·have hc:uN (x32 p.1 p.2) s%2≠0:=by simpa using hc
   exact⟨by omega,s+1,by omega,by omega,rfl,by simp only[uN,aqX,hc,decide_false,aQ]⟩
 ·have:s=8:=by have:=aT hb;omega
  subst this;exact⟨(),rfl⟩
theorem step_ok:bZ Tryz.prog 216 Oy:=dR dF mixed dX.nil amC 200 5 (λ_=>rfl) (λ_=>rfl) λx hx=>Eq.mp (aex x) (SY x hx)
theorem S9(s:ByteArray)(hs:s.size<1099511627776):aey s:=by
 unfold aey;simp only[aV,aU];refine⟨⟨0,by omega,rfl,rfl⟩,λi hi=>bf (λhb=> ?_) (λhb=> ?_)⟩
 ·have hb:=aS hb
  refine⟨⟨by omega,by omega⟩,(Dz s i,dY s i),⟨aok s i,ajN s i⟩,⟨rfl,rfl⟩,λ_ _=>⟨by unfold I64;omega,i+1,by omega,by omega,rfl,rfl⟩⟩
 ·have:i=s.size:=by have:=aT hb;omega
  subst this;exact⟨(),Yo s⟩
theorem aom:bZ Tryz.prog 232 SX:=dR dF mixed (.cons (bP step_ok) .nil) amD 200 5 (λ_=>rfl) (λ_=>rfl) λx hx=>Eq.mp (aez x) (S9 x hx)
theorem bU(g:Nat->List Value)(q:Nat):Cs.eff g [] q=g q:=rfl
theorem eY(q:Nat):Nat.ble 0 q=true:=by simp
theorem bQ(a b:Nat):Nat.blt a b=decide (a<b):=by
 by_cases h:a<b
 ·rw[bg.2 h];simp[h]
 ·have:Nat.blt a b=false:=by
   cases hb:Nat.blt a b with
   |false=>rfl
   |true=>exact absurd (bg.1 hb) h
  rw[this];simp[h]
theorem dw(a b:Nat):Nat.ble a b=decide (a<=b):=by
 by_cases h:a<=b
 ·rw[show Nat.ble a b=true by simpa using h];simp[h]
 ·have:Nat.ble a b=false:=by
   cases hb:Nat.ble a b with
   |false=>rfl
   |true=>exact absurd (by simpa using hb) h
  rw[this];simp[h]
theorem dI{α:Type}{p:Prop} [Decidable p]{x y:α}:(bif decide p then x else y)=if p then x else y:=by by_cases h:p<;>simp[h]
theorem dA(a b:Nat):Nat.beq a b=decide (a=b):=by
 by_cases h:a=b
 ·subst h;simp
 ·rw[eP h];simp[h]
theorem bH{b:Bool}{x y:Value}:(bif b then [x]else [y])=[bif b then x else y]:=by cases b<;>rfl
theorem bI{b:Bool}{k:IntKind}{x y:Int}:(bif b then Value.int k x else Value.int k y)= .int k (bif b then x else y):=by cases b<;>rfl
theorem bC{b:Bool}{x y:Bool}:(bif b then Value.bool x else Value.bool y)= .bool (bif b then x else y):=by cases b<;>rfl
theorem bJ{k:IntKind}{x:Int}:([Value.int k x].length.beq 1&&[Value.int k x].all Value.oneCell')=true:=rfl
theorem bD{x:Bool}:([Value.bool x].length.beq 1&&[Value.bool x].all Value.oneCell')=true:=rfl
theorem bV{k:IntKind}{x y:Int}:([Value.int k x]=[Value.int k y])=(x=y):=by simp
theorem bK{x y:Bool}:([Value.bool x]=[Value.bool y])=(x=y):=by simp
def u64(n:Int):AV:= .lit (.int .u64 n)
def rowB(g:Nat->Int)(n:Nat):Cs:= .row 1 n (λk=>[.int .u8 (g k)]) []
structure Bys where
 g:Nat->Int
 q:Nat
 n:Nat
 N:Nat
namespace Bys
def ok(b:Bys):Prop:=b.q+b.n<=b.N/\b.n<1099511627776/\ ∀k,0<=b.g k/\b.g k<256
def ro(b:Bys):dB:= .ro (rowB b.g b.N)
def av(b:Bys)(i:Nat):AV:= .slR i b.q 1 b.n
end Bys
def Bg(c:Int)(g:Nat->Int):Nat->Int
 |0=>c
 |i+1=>stepM (Bg c g i) (g i)
noncomputable def ny(c:Int)(g:Nat->Int)(n:Nat):Int:=hide (x32 (Bg (x32 c 4294967295) g n) 4294967295)
theorem aon{c:Int}(h:U32 c)(g:Nat->Int): ∀n,U32 (Bg c g n)
 |0=>h
 |n+1=>Jl (SV _ _) 8
theorem Yp(c:Int)(g:Nat->Int)(n:Nat):U32 (ny c g n):=by unfold ny;rw[iG];exact SV _ _
structure aoo where
 c:Int
 b:Bys
noncomputable def amE:Ctr:=det aoo (λx=>[u32 x.c,x.b.av 0]) 1 (λx=>[x.b.ro]) (λx=>Hd (U32 x.c/\x.b.ok)) (λx=>u32 (ny x.c (λk=>x.b.g (x.b.q+k)) x.b.n)) 1 (λx=>[x.b.ro])
def aqZ(x:aoo):FuncId->qA:=λf=>
 bif Nat.beq f 170 then(λb fr h=>bif Nat.beq b 0 then [{σ:=Nat,fr:=λk=>[(11,i64 k),(0,u32 (Bg (x32 x.c 4294967295) (λk=>x.b.g (x.b.q+k)) k))],ob:=λ_=>[],inv:=λk=>k<=x.b.n,meas:=λk=>x.b.n-k}]else [])else
 λ_ _ _=>[]
def oN(g:Nat->Int)(at_ w:Nat)(v:Int)(k:Nat):Int:=if at_<=k/\k<at_+w then v/256^(k-at_)%256 else g k
structure tH where
 b:Bys
 at_:Nat
 w:Nat
 v:Int
 c:Nat
def tH.ok(x:tH):Prop:=x.b.ok/\x.at_+x.w<=x.b.n/\1<=x.w/\x.w<=8/\0<=x.v/\x.v<256^x.w
def tH.res(x:tH):Nat->Int:=oN (λk=>x.b.g (x.b.q+k)) x.at_ x.w x.v
noncomputable def amF:Ctr:=det tH (λx=>[.slE 0 x.b.q 1 x.b.n x.c,i64 x.at_,i64 x.w,u64 x.v]) 1 (λx=>[x.b.ro]) (λx=>Hd x.ok) (λx=> .tup [.slW 1 0 1 x.b.n,i64 0]) 2 (λx=>[x.b.ro,.room 5 (rowB x.res x.b.n)])
def aq0(x:tH):FuncId->qA:=λf=>
 bif Nat.beq f 215 then(λb fr h=>bif Nat.beq b 0 then [{σ:=Nat,fr:=λk=>[(32,i64 k)],ob:=λk=>[(1,none),(2,some (.room 5 (rowB (oN (λk=>x.b.g (x.b.q+k)) x.at_ k x.v) x.b.n)))],inv:=λk=>k<=x.w,meas:=λk=>x.w-k,nx:=0}]else [])else
 λ_ _ _=>[]
def xw(a:Bys):Prop:=rowB a.g a.N=rowB a.g a.N/\true=true
def aop(a:tH):Prop:=a.b.q+a.b.n<=a.b.N/\cP (Nat.beq a.b.n 0) ((∃s:Nat,s<=a.w/\True/\((s:Int)=0/\True)/\xw a.b/\True)/\(∀s:Nat,s<=a.w->cP (decide ((s:Int)<(a.w:Int))) (I64 ((a.at_:Int)+(s:Int))/\I64 (8*(s:Int))/\0<=8*(s:Int)/\(0<=(a.at_:Int)+(s:Int)/\(a.at_:Int)+(s:Int)<0)/\False) (∃y:Unit,True/\((a.b.n=0/\0=0/\0=0)/\(0:Int)=0/\True)/\xw a.b/\False/\True))/\True) ((2*(0+a.b.n)+1000)*1<=281474976710656/\(∃s:Nat,s<=a.w/\True/\((s:Int)=0/\True)/\(a.b.n=0+a.b.n/\ ∀q:Nat,q<a.b.n->[Value.int .u8 (oN (λ(k:Nat)=>a.b.g (a.b.q+k)) a.at_ s a.v q)]=[Value.int .u8 (a.b.g (a.b.q+(q-0)))])/\xw a.b/\True)/\(∀s:Nat,s<=a.w->cP (decide ((s:Int)<(a.w:Int))) (I64 ((a.at_:Int)+(s:Int))/\I64 (8*(s:Int))/\0<=8*(s:Int)/\(0<=(a.at_:Int)+(s:Int)/\(a.at_:Int)+(s:Int)<((0+a.b.n:Nat):Int))/\0+Int.toNat ((a.at_:Int)+(s:Int))<a.b.n/\I64 ((s:Int)+1)/\ ∃s_1:Nat,s_1<=a.w/\a.w-s_1<a.w-s/\((s_1:Int)=(s:Int)+1/\True)/\(a.b.n=a.b.n/\ ∀q:Nat,q<a.b.n->[Value.int .u8 (oN (λ(k:Nat)=>a.b.g (a.b.q+k)) a.at_ s_1 a.v q)]=Cs.eff (λ(k:Nat)=>[Value.int .u8 (oN (λ(k_1:Nat)=>a.b.g (a.b.q+k_1)) a.at_ s a.v k)]) [(0+Int.toNat ((a.at_:Int)+(s:Int)),[Value.int .u8 (IntKind.wrap .u8 (Int.fdiv a.v (@HPow.hPow Int Nat Int (@instHPow Int Nat (@instPowNat Int @Int.instNatPow)) (2:Int) (@Min.min Nat @instMinNat (Int.toNat (8*(s:Int))) 64))))])] q)/\xw a.b/\True) (∃y:Unit,True/\((0=0/\a.b.n=0+a.b.n)/\(0:Int)=0/\True)/\xw a.b/\(a.b.n=a.b.n/\
 ∀q:Nat,q<a.b.n->[Value.int .u8 (a.res q)]=[Value.int .u8 (oN (λ(k:Nat)=>a.b.g (a.b.q+k)) a.at_ s a.v q)])/\True))/\True)
def aoq(x:aoo):Prop:=
 (∃s:Nat,s<=x.b.n/\True/\((s:Int)=0/\Bg (x32 x.c (4294967295:Int)) (λ(k:Nat)=>x.b.g (x.b.q+k)) s=IntKind.wrap .u32 ((@BitVec.toNat 32 (@HXor.hXor (@BitVec 32) (@BitVec 32) (@BitVec 32) (@instHXorOfXorOp (@BitVec 32) (@BitVec.instXorOp 32)) (@BitVec.ofInt 32 x.c) (@BitVec.ofInt 32 (4294967295:Int))):Nat):Int)/\True)/\xw x.b/\True)/\(∀s:Nat,s<=x.b.n->cP (decide ((s:Int)<(x.b.n:Int))) ((0<=(s:Int)/\(s:Int)<(x.b.n:Int))/\x.b.q+s<x.b.N/\ ∃x_1:Prod Int Int,((0<=x_1.1/\x_1.1<4294967296)/\0<=x_1.2/\x_1.2<256)/\(x_1.1=Bg (x32 x.c (4294967295:Int)) (λ(k:Nat)=>x.b.g (x.b.q+k)) s/\x_1.2=x.b.g (x.b.q+s)/\True)/\True/\ ∀y:Unit,True->I64 ((s:Int)+1)/\ ∃s_1:Nat,s_1<=x.b.n/\x.b.n-s_1<x.b.n-s/\((s_1:Int)=(s:Int)+1/\Bg (x32 x.c (4294967295:Int)) (λ(k:Nat)=>x.b.g (x.b.q+k)) s_1=stepM x_1.1 x_1.2/\True)/\xw x.b/\True) (∃y:Unit,True/\ny x.c (λ(k:Nat)=>x.b.g (x.b.q+k)) x.b.n=IntKind.wrap .u32 ((@BitVec.toNat 32 (@HXor.hXor (@BitVec 32) (@BitVec 32) (@BitVec 32) (@instHXorOfXorOp (@BitVec 32) (@BitVec.instXorOp 32)) (@BitVec.ofInt 32 (Bg (x32 x.c (4294967295:Int)) (λ(k:Nat)=>x.b.g (x.b.q+k)) s)) (@BitVec.ofInt 32 (4294967295:Int))):Nat):Int)/\xw x.b/\True))/\True
theorem ajO(x:aoo):aoq x=wpF Tryz.prog [(216,ctrT Oy)] tt (aqZ x) 200 5 170 (amE.args x) (hO amE.k (amE.os x)) (λv h'=>eX amE.k x v h' amE.outs):=by kernel_rfl
def aor(x:tH):Prop:=
 cP (decide ((x.w:Int)<1)) (∃y:Unit,True/\(False/\(0:Int)=1/\True)/\xw x.b/\False/\True) (cP (decide ((x.w:Int)>(8:Int))) (∃y:Unit,True/\(False/\(0:Int)=1/\True)/\xw x.b/\False/\True) (I64 ((x.b.n:Int)-(x.w:Int))/\cP (decide ((x.at_:Int)>(x.b.n:Int)-(x.w:Int))) (∃y:Unit,True/\(False/\(0:Int)=2/\True)/\xw x.b/\False/\True) (cP (decide ((x.w:Int)<8)) (I64 (8*(x.w:Int))/\0<=8*(x.w:Int)/\cP (bne (Int.fdiv x.v (@HPow.hPow Int Nat Int (@instHPow Int Nat (@instPowNat Int @Int.instNatPow)) (2:Int) (@Min.min Nat @instMinNat (Int.toNat (8*(x.w:Int))) 64))) (0:Int)) (∃y:Unit,True/\(False/\(0:Int)=11/\True)/\xw x.b/\False/\True) (aop x)) (aop x))))
theorem ajP(x:tH):aor x=wpF Tryz.prog [] tt (aq0 x) 200 5 215 (amF.args x) (hO amF.k (amF.os x)) (λv h'=>eX amF.k x v h' amF.outs):=by kernel_rfl
theorem aap(x:aoo)(hx:U32 x.c/\x.b.ok):aoq x:=by
 obtain⟨hc,h1,h2,h3⟩:=hx;unfold aoq;simp only[xw];have hw: ∀a b,IntKind.u32.wrap ((BitVec.ofInt 32 a^^^BitVec.ofInt 32 b).toNat:Nat)=x32 a b:=λ_ _=>rfl
 simp only[aZ,aV,aU,aA,aI,bT,bF,aO,aK,ay,aX,aW,hw];refine⟨⟨0,by omega,rfl,rfl⟩,λs hs=>bf (λhb=> ?_) (λhb=> ?_)⟩
 ·have hb:=aS hb
  refine⟨⟨by omega,by omega⟩,by omega,(Bg (x32 x.c 4294967295) (λk=>x.b.g (x.b.q+k)) s,x.b.g (x.b.q+s)),⟨aon (SV _ _) _ s,h3 _⟩,⟨rfl,rfl⟩,by unfold I64;omega,s+1,by omega,by omega,by omega,rfl⟩
 ·have:s=x.b.n:=by have:=aT hb;omega
  subst this;unfold ny;rw[iG]
theorem DF{c:Int}{g g':Nat->Int}: ∀{n:Nat},(∀k,k<n->g k=g' k)->Bg c g n=Bg c g' n
 |0,_=>rfl
 |n+1,h=>by simp only[Bg];rw[DF (n:=n) λk hk=>h k (by omega),h n (by omega)]
theorem yO{c:Int}{g g':Nat->Int}{n:Nat}(h: ∀k,k<n->g k=g' k):ny c g n=ny c g' n:=by unfold ny;rw[iG,iG,DF h]
theorem amG:bZ Tryz.prog 170 amE:=dR dF mixed (.cons (bP step_ok) .nil) aqZ 200 5 (λ_=>rfl) (λ_=>rfl) λx hx=>Eq.mp (ajO x) (aap x (aZ.1 hx))
theorem Tc{s:Nat}(h:s<=8):(2:Int)^(min (((8:Int)*(s:Nat)).toNat) 64)=256^s:=by
 have e:((8:Int)*(s:Nat)).toNat=8*s:=by omega
 rw[e,Nat.min_eq_left (by omega)];rw[show(256:Int)=2^8 by rfl,<-Int.pow_mul]
theorem amH(z:Int):IntKind.u8.wrap z=z%256:=by
 unfold IntKind.wrap;simp[IntKind.bits,IntKind.signed]
theorem aeA(g:Nat->Int)(a s:Nat)(v:Int)(q:Nat):oN g a (s+1) v q=if q=a+s then v/256^s%256 else oN g a s v q:=by
 unfold oN;by_cases h:q=a+s
 ·subst h;simp
 ·rw[if_neg h]
  by_cases h2:a<=q/\q<a+s
  ·rw[if_pos h2,if_pos (by omega)]
  ·rw[if_neg h2,if_neg (by omega)]
theorem aaq(x:tH)(hx:x.ok):aor x:=by
 obtain⟨⟨h1,h2,h3⟩,h4,h5,h6,h7,h8⟩:=hx;have z0: ∀(g:Nat->Int) a v q,oN g a 0 v q=g q:=λg a v q=>by unfold oN;rw[if_neg (by omega)]
 have key: ∀s:Nat,s<x.w-> ∀q,[Value.int .u8 (oN (λk=>x.b.g (x.b.q+k)) x.at_ (s+1) x.v q)]=Cs.eff (λk=>[Value.int .u8 (oN (λk=>x.b.g (x.b.q+k)) x.at_ s x.v k)]) [((((x.at_:Int)+(s:Int)).toNat),[Value.int .u8 (IntKind.u8.wrap (Int.fdiv x.v (2^(min ((8*(s:Int)).toNat) 64))))])] q:=λs hs q=>by
  rw[Tc (by omega),amH,show((x.at_:Int)+(s:Int)).toNat=x.at_+s by omega,aeA];simp only[Cs.eff];by_cases h:q=x.at_+s
  ·subst h
   have:Int.fdiv x.v (256^s)=x.v/256^s:=Int.fdiv_eq_ediv_of_nonneg _ (Int.le_of_lt (Int.pow_pos (by omega)));simp[this]
  ·simp[h,eP h]
 unfold aor;simp only[xw,aop];have hn:x.b.n≠0:=by omega
 simp only[aZ,aV,aU,aA,aI,bT,bF,aO,aK,ay,aX,aW,z0];have i64: ∀z:Int,-9223372036854775808<=z->z<=9223372036854775807->I64 z:=λz a b=>⟨a,b⟩
 refine bf (λh=>absurd (aS h) (by omega)) λ_=>bf (λh=>absurd (aS h) (by omega)) λ_=>⟨i64 _ (by omega) (by omega),bf (λh=>absurd (aS h) (by omega)) λ_=>
  bf (λhb=>⟨i64 _ (by omega) (by omega),by omega,bf (λh=> ?_) (λ_=> ?_)⟩) (λ_=> ?_)⟩
 ·rw[Tc h6,show Int.fdiv x.v (256^x.w)=0 by rw[Int.fdiv_eq_ediv_of_nonneg _ (Int.le_of_lt (Int.pow_pos (by omega)))];exact Int.ediv_eq_zero_of_lt h7 h8]at h
  cases h
 all_goals
  refine⟨h1,bf (λh=>absurd (au h) hn) λ_=>⟨by omega,⟨0,by omega,rfl,λq _=>by rw[z0];rfl⟩,λs hs=>bf (λh=> ?_) (λh=> ?_)⟩⟩
  ·have h:=aS h
   exact⟨i64 _ (by omega) (by omega),i64 _ (by omega) (by omega),by omega,⟨by omega,by omega⟩,by omega,i64 _ (by omega) (by omega),s+1,by omega,by omega,by omega,λq _=>key s (by omega) q⟩
  ·have:s=x.w:=by have:=aT h;omega
   subst this;exactλq _=>rfl
theorem amI:bZ Tryz.prog 215 amF:=dR dF mixed dX.nil aq0 200 5 (λ_=>rfl) (λ_=>rfl) λx hx=>Eq.mp (ajP x) (aaq x (aZ.1 hx))
noncomputable def aar:Ctr:=det Bys (λb=>[b.av 0]) 1 (λb=>[b.ro]) (λb=>Hd b.ok) (λb=>u32 (ny 0 (λk=>b.g (b.q+k)) b.n)) 1 (λb=>[b.ro])
noncomputable def ajQ:WTr:=λargs h K=>match args with
 |[x]=>aal h x 1 λe=> ∃(n:Nat) (g:Nat->Int),e.len=n/\n<1099511627776/\(∀k,k<n->e.el k=[.int .u8 (g k)])/\(∀k,0<=g k/\g k<256)/\K (u32 (ny 0 g n)) h
 |_=>False
def isE:List AV->Bool
 | .slE .. ::_=>true
 |_=>false
def aas(v:Int)(k:Nat):Int:=if k=0 then 3 else v/256^(k-1)%256
noncomputable def mM(v:Int)(k:Nat):Int:=if k<9 then aas v k else if k<13 then ny 0 (aas v) 9/256^(k-9)%256 else 0
noncomputable def DI:Ctr:=det Int (λv=>[u64 v]) 0 (λ_=>[]) (λv=>Hd (0<=v/\v<18446744073709551616)) (λ_=> .slE 0 0 1 64 64) 1 (λv=>[.cells 312 (rowB (mM v) 64)])
noncomputable def tblK:jf:=[(171,ajQ),(215,orT isE (ctrT amF) (λargs h K=>wpF Tryz.prog [] tt (λ_ _ _ _=>[]) 200 5 215 args h K))]
def aos(a:tH)(b:Nat):Prop:=(Nat.beq (List.length [Value.int .u8 (a.res (0+b))]) 1&&List.all [Value.int .u8 (a.res (0+b))] Value.oneCell')=true
def ajR(a:tH):Prop:= ∀k:Nat,k<a.b.n->aos a k
def ajS(a:tH):Prop:= ∀k:Nat,k<64->aos a k
def FX:Prop:=0<=64/\64<=64/\64<=64
def aot(a:tH)(b: ∀a:Nat,Int)(c:Nat):Prop:=(a.b.q=0/\a.b.n=64/\a.c=64)/\(a.at_:Int)=9/\(a.w:Int)=4/\a.v=IntKind.wrap .u64 (ny (0:Int) b c)/\True
def aeB:Prop:=0=0/\64=64/\64=64
def aeC(b:Bys):Prop:=
 ∃x:aoo,Hd (U32 x.c/\x.b.ok)/\(x.c=0/\(x.b.q=b.q/\x.b.n=b.n)/\True)/\((x.b.N=b.N/\ ∀q:Nat,q<x.b.N->[Value.int .u8 (x.b.g q)]=[Value.int .u8 (b.g q)])/\True)/\ ∀y:Unit,True-> ∃y_1:Unit,True/\ny (0:Int) (λ(k:Nat)=>b.g (b.q+k)) b.n=ny x.c (λ(k:Nat)=>x.b.g (x.b.q+k)) x.b.n/\(rowB b.g b.N=rowB b.g b.N/\true=true)/\True
theorem aeD(b:Bys):aeC b=wpF Tryz.prog [(170,ctrT amE)] tt (λ_ _ _ _=>[]) 200 5 171 (aar.args b) (hO aar.k (aar.os b)) (λv h'=>eX aar.k b v h' aar.outs):=by kernel_rfl
def Td(x:Int):Prop:=
 ∃x_1:tH,Hd x_1.ok/\((x_1.b.q=0/\x_1.b.n=9/\x_1.c=9)/\(x_1.at_:Int)=1/\(x_1.w:Int)=8/\x_1.v=x/\True)/\((x_1.b.N=9/\ ∀q:Nat,q<x_1.b.N->[Value.int .u8 (x_1.b.g q)]=[List.getD [Value.int .u8 3,Value.int .u8 0,Value.int .u8 0,Value.int .u8 0,Value.int .u8 0,Value.int .u8 0,Value.int .u8 0,Value.int .u8 0,Value.int .u8 0] q (@Inhabited.default Value @instInhabitedValue)])/\True)/\ ∀y:Unit,True->FX/\64<=64/\cP (Nat.ble x_1.b.n 64) (0+x_1.b.n<=x_1.b.n/\ajR x_1/\FX/\0+x_1.b.n<=x_1.b.n/\ ∃n:Nat,∃g: ∀a:Nat,Int,x_1.b.n=n/\n<1099511627776/\(∀k:Nat,k<n->[Value.int .u8 (x_1.res (0+k))]=[Value.int .u8 (g k)])/\(∀k:Nat,0<=g k/\g k<256)/\True/\ ∃x_2:tH,Hd x_2.ok/\aot x_2 g n/\((x_2.b.N=64/\ ∀q:Nat,q<x_2.b.N->[Value.int .u8 (x_2.b.g q)]=Cs.eff (λ(p:Nat)=>cond (Nat.ble 0 p&&Nat.blt p (0+x_1.b.n)) [Value.int .u8 (x_1.res (0+(p-0)))] [Value.int .u8 0]) [] q)/\True)/\ ∀y_1:Unit,True->True/\FX/\64<=64/\cP (Nat.ble x_2.b.n 64) (0+x_2.b.n<=x_2.b.n/\ajR x_2/\(∀k:Nat,k<64->(Nat.beq (List.length (Cs.eff (λ(p:Nat)=>cond (Nat.ble 0 p&&Nat.blt p (0+x_2.b.n)) [Value.int .u8 (x_2.res (0+(p-0)))] (Cs.eff (λ(p_1:Nat)=>cond (Nat.ble 0 p_1&&Nat.blt p_1 (0+x_1.b.n)) [Value.int .u8 (x_1.res (0+(p_1-0)))] [Value.int .u8 0]) [] p)) [] k)) 1&&List.all (Cs.eff (λ(p:Nat)=>cond (Nat.ble 0 p&&Nat.blt p (0+x_2.b.n)) [Value.int .u8 (x_2.res (0+(p-0)))] (Cs.eff (λ(p_1:Nat)=>cond (Nat.ble 0 p_1&&Nat.blt p_1 (0+x_1.b.n)) [Value.int .u8 (x_1.res (0+(p_1-0)))] [Value.int .u8 0]) [] p)) [] k) Value.oneCell')=true)/\
 (∀k:Nat,k<64->(Nat.beq (List.length (Cs.eff (Cs.eff (λ(p:Nat)=>cond (Nat.ble 0 p&&Nat.blt p (0+x_2.b.n)) [Value.int .u8 (x_2.res (0+(p-0)))] (Cs.eff (λ(p_1:Nat)=>cond (Nat.ble 0 p_1&&Nat.blt p_1 (0+x_1.b.n)) [Value.int .u8 (x_1.res (0+(p_1-0)))] [Value.int .u8 0]) [] p)) []) [] k)) 1&&List.all (Cs.eff (Cs.eff (λ(p:Nat)=>cond (Nat.ble 0 p&&Nat.blt p (0+x_2.b.n)) [Value.int .u8 (x_2.res (0+(p-0)))] (Cs.eff (λ(p_1:Nat)=>cond (Nat.ble 0 p_1&&Nat.blt p_1 (0+x_1.b.n)) [Value.int .u8 (x_1.res (0+(p_1-0)))] [Value.int .u8 0]) [] p)) []) [] k) Value.oneCell')=true)/\(∀k:Nat,k<64->(Nat.beq (List.length (Cs.eff (Cs.eff (Cs.eff (λ(p:Nat)=>cond (Nat.ble 0 p&&Nat.blt p (0+x_2.b.n)) [Value.int .u8 (x_2.res (0+(p-0)))] (Cs.eff (λ(p_1:Nat)=>cond (Nat.ble 0 p_1&&Nat.blt p_1 (0+x_1.b.n)) [Value.int .u8 (x_1.res (0+(p_1-0)))] [Value.int .u8 0]) [] p)) []) []) [] k)) 1&&List.all (Cs.eff (Cs.eff (Cs.eff (λ(p:Nat)=>cond (Nat.ble 0 p&&Nat.blt p (0+x_2.b.n)) [Value.int .u8 (x_2.res (0+(p-0)))] (Cs.eff (λ(p_1:Nat)=>cond (Nat.ble 0 p_1&&Nat.blt p_1 (0+x_1.b.n)) [Value.int .u8 (x_1.res (0+(p_1-0)))] [Value.int .u8 0]) [] p)) []) []) [] k) Value.oneCell')=true)/\FX/\ ∃y_2:Unit,True/\aeB/\(64=64/\ ∀q:Nat,q<64->[Value.int .u8 (mM x q)]=Cs.eff (Cs.eff (Cs.eff (Cs.eff (λ(p:Nat)=>cond (Nat.ble 0 p&&Nat.blt p (0+x_2.b.n)) [Value.int .u8 (x_2.res (0+(p-0)))] (Cs.eff (λ(p_1:Nat)=>cond (Nat.ble 0 p_1&&Nat.blt p_1 (0+x_1.b.n)) [Value.int .u8 (x_1.res (0+(p_1-0)))] [Value.int .u8 0]) [] p)) []) []) []) [] q)/\True) (64<=x_2.b.n/\ajS x_2/\
 (∀k:Nat,k<64->(Nat.beq (List.length (Cs.eff (λ(p:Nat)=>cond (Nat.ble 0 p&&Nat.blt p 64) [Value.int .u8 (x_2.res (0+(p-0)))] (Cs.eff (λ(p_1:Nat)=>cond (Nat.ble 0 p_1&&Nat.blt p_1 (0+x_1.b.n)) [Value.int .u8 (x_1.res (0+(p_1-0)))] [Value.int .u8 0]) [] p)) [] k)) 1&&List.all (Cs.eff (λ(p:Nat)=>cond (Nat.ble 0 p&&Nat.blt p 64) [Value.int .u8 (x_2.res (0+(p-0)))] (Cs.eff (λ(p_1:Nat)=>cond (Nat.ble 0 p_1&&Nat.blt p_1 (0+x_1.b.n)) [Value.int .u8 (x_1.res (0+(p_1-0)))] [Value.int .u8 0]) [] p)) [] k) Value.oneCell')=true)/\(∀k:Nat,k<64->(Nat.beq (List.length (Cs.eff (Cs.eff (λ(p:Nat)=>cond (Nat.ble 0 p&&Nat.blt p 64) [Value.int .u8 (x_2.res (0+(p-0)))] (Cs.eff (λ(p_1:Nat)=>cond (Nat.ble 0 p_1&&Nat.blt p_1 (0+x_1.b.n)) [Value.int .u8 (x_1.res (0+(p_1-0)))] [Value.int .u8 0]) [] p)) []) [] k)) 1&&List.all (Cs.eff (Cs.eff (λ(p:Nat)=>cond (Nat.ble 0 p&&Nat.blt p 64) [Value.int .u8 (x_2.res (0+(p-0)))] (Cs.eff (λ(p_1:Nat)=>cond (Nat.ble 0 p_1&&Nat.blt p_1 (0+x_1.b.n)) [Value.int .u8 (x_1.res (0+(p_1-0)))] [Value.int .u8 0]) [] p)) []) [] k) Value.oneCell')=true)/\
 (∀k:Nat,k<64->(Nat.beq (List.length (Cs.eff (Cs.eff (Cs.eff (λ(p:Nat)=>cond (Nat.ble 0 p&&Nat.blt p 64) [Value.int .u8 (x_2.res (0+(p-0)))] (Cs.eff (λ(p_1:Nat)=>cond (Nat.ble 0 p_1&&Nat.blt p_1 (0+x_1.b.n)) [Value.int .u8 (x_1.res (0+(p_1-0)))] [Value.int .u8 0]) [] p)) []) []) [] k)) 1&&List.all (Cs.eff (Cs.eff (Cs.eff (λ(p:Nat)=>cond (Nat.ble 0 p&&Nat.blt p 64) [Value.int .u8 (x_2.res (0+(p-0)))] (Cs.eff (λ(p_1:Nat)=>cond (Nat.ble 0 p_1&&Nat.blt p_1 (0+x_1.b.n)) [Value.int .u8 (x_1.res (0+(p_1-0)))] [Value.int .u8 0]) [] p)) []) []) [] k) Value.oneCell')=true)/\FX/\ ∃y_2:Unit,True/\aeB/\(64=64/\ ∀q:Nat,q<64->[Value.int .u8 (mM x q)]=Cs.eff (Cs.eff (Cs.eff (Cs.eff (λ(p:Nat)=>cond (Nat.ble 0 p&&Nat.blt p 64) [Value.int .u8 (x_2.res (0+(p-0)))] (Cs.eff (λ(p_1:Nat)=>cond (Nat.ble 0 p_1&&Nat.blt p_1 (0+x_1.b.n)) [Value.int .u8 (x_1.res (0+(p_1-0)))] [Value.int .u8 0]) [] p)) []) []) []) [] q)/\True)) (64<=x_1.b.n/\ajS x_1/\FX/\0+x_1.b.n<=x_1.b.n/\ ∃n:Nat,∃g: ∀a:Nat,Int,x_1.b.n=n/\n<1099511627776/\(∀k:Nat,k<n->[Value.int .u8 (x_1.res (0+k))]=[Value.int .u8 (g k)])/\(∀k:Nat,0<=g k/\g k<256)/\True/\ ∃x_2:tH,Hd x_2.ok/\aot x_2 g n/\((x_2.b.N=64/\ ∀q:Nat,q<x_2.b.N->[Value.int .u8 (x_2.b.g q)]=Cs.eff (λ(p:Nat)=>cond (Nat.ble 0 p&&Nat.blt p 64) [Value.int .u8 (x_1.res (0+(p-0)))] [Value.int .u8 0]) [] q)/\True)/\ ∀y_1:Unit,True->True/\FX/\64<=64/\cP (Nat.ble x_2.b.n 64) (0+x_2.b.n<=x_2.b.n/\ajR x_2/\
 (∀k:Nat,k<64->(Nat.beq (List.length (Cs.eff (λ(p:Nat)=>cond (Nat.ble 0 p&&Nat.blt p (0+x_2.b.n)) [Value.int .u8 (x_2.res (0+(p-0)))] (Cs.eff (λ(p_1:Nat)=>cond (Nat.ble 0 p_1&&Nat.blt p_1 64) [Value.int .u8 (x_1.res (0+(p_1-0)))] [Value.int .u8 0]) [] p)) [] k)) 1&&List.all (Cs.eff (λ(p:Nat)=>cond (Nat.ble 0 p&&Nat.blt p (0+x_2.b.n)) [Value.int .u8 (x_2.res (0+(p-0)))] (Cs.eff (λ(p_1:Nat)=>cond (Nat.ble 0 p_1&&Nat.blt p_1 64) [Value.int .u8 (x_1.res (0+(p_1-0)))] [Value.int .u8 0]) [] p)) [] k) Value.oneCell')=true)/\(∀k:Nat,k<64->(Nat.beq (List.length (Cs.eff (Cs.eff (λ(p:Nat)=>cond (Nat.ble 0 p&&Nat.blt p (0+x_2.b.n)) [Value.int .u8 (x_2.res (0+(p-0)))] (Cs.eff (λ(p_1:Nat)=>cond (Nat.ble 0 p_1&&Nat.blt p_1 64) [Value.int .u8 (x_1.res (0+(p_1-0)))] [Value.int .u8 0]) [] p)) []) [] k)) 1&&List.all (Cs.eff (Cs.eff (λ(p:Nat)=>cond (Nat.ble 0 p&&Nat.blt p (0+x_2.b.n)) [Value.int .u8 (x_2.res (0+(p-0)))] (Cs.eff (λ(p_1:Nat)=>cond (Nat.ble 0 p_1&&Nat.blt p_1 64) [Value.int .u8 (x_1.res (0+(p_1-0)))] [Value.int .u8 0]) [] p)) []) [] k) Value.oneCell')=true)/\
 (∀k:Nat,k<64->(Nat.beq (List.length (Cs.eff (Cs.eff (Cs.eff (λ(p:Nat)=>cond (Nat.ble 0 p&&Nat.blt p (0+x_2.b.n)) [Value.int .u8 (x_2.res (0+(p-0)))] (Cs.eff (λ(p_1:Nat)=>cond (Nat.ble 0 p_1&&Nat.blt p_1 64) [Value.int .u8 (x_1.res (0+(p_1-0)))] [Value.int .u8 0]) [] p)) []) []) [] k)) 1&&List.all (Cs.eff (Cs.eff (Cs.eff (λ(p:Nat)=>cond (Nat.ble 0 p&&Nat.blt p (0+x_2.b.n)) [Value.int .u8 (x_2.res (0+(p-0)))] (Cs.eff (λ(p_1:Nat)=>cond (Nat.ble 0 p_1&&Nat.blt p_1 64) [Value.int .u8 (x_1.res (0+(p_1-0)))] [Value.int .u8 0]) [] p)) []) []) [] k) Value.oneCell')=true)/\FX/\ ∃y_2:Unit,True/\aeB/\(64=64/\ ∀q:Nat,q<64->[Value.int .u8 (mM x q)]=Cs.eff (Cs.eff (Cs.eff (Cs.eff (λ(p:Nat)=>cond (Nat.ble 0 p&&Nat.blt p (0+x_2.b.n)) [Value.int .u8 (x_2.res (0+(p-0)))] (Cs.eff (λ(p_1:Nat)=>cond (Nat.ble 0 p_1&&Nat.blt p_1 64) [Value.int .u8 (x_1.res (0+(p_1-0)))] [Value.int .u8 0]) [] p)) []) []) []) [] q)/\True) (64<=x_2.b.n/\ajS x_2/\(∀k:Nat,k<64->(Nat.beq (List.length (Cs.eff (λ(p:Nat)=>cond (Nat.ble 0 p&&Nat.blt p 64) [Value.int .u8 (x_2.res (0+(p-0)))] (Cs.eff (λ(p_1:Nat)=>cond (Nat.ble 0 p_1&&Nat.blt p_1 64) [Value.int .u8 (x_1.res (0+(p_1-0)))] [Value.int .u8 0]) [] p)) [] k)) 1&&List.all (Cs.eff (λ(p:Nat)=>cond (Nat.ble 0 p&&Nat.blt p 64) [Value.int .u8 (x_2.res (0+(p-0)))] (Cs.eff (λ(p_1:Nat)=>cond (Nat.ble 0 p_1&&Nat.blt p_1 64) [Value.int .u8 (x_1.res (0+(p_1-0)))] [Value.int .u8 0]) [] p)) [] k) Value.oneCell')=true)/\
 (∀k:Nat,k<64->(Nat.beq (List.length (Cs.eff (Cs.eff (λ(p:Nat)=>cond (Nat.ble 0 p&&Nat.blt p 64) [Value.int .u8 (x_2.res (0+(p-0)))] (Cs.eff (λ(p_1:Nat)=>cond (Nat.ble 0 p_1&&Nat.blt p_1 64) [Value.int .u8 (x_1.res (0+(p_1-0)))] [Value.int .u8 0]) [] p)) []) [] k)) 1&&List.all (Cs.eff (Cs.eff (λ(p:Nat)=>cond (Nat.ble 0 p&&Nat.blt p 64) [Value.int .u8 (x_2.res (0+(p-0)))] (Cs.eff (λ(p_1:Nat)=>cond (Nat.ble 0 p_1&&Nat.blt p_1 64) [Value.int .u8 (x_1.res (0+(p_1-0)))] [Value.int .u8 0]) [] p)) []) [] k) Value.oneCell')=true)/\(∀k:Nat,k<64->(Nat.beq (List.length (Cs.eff (Cs.eff (Cs.eff (λ(p:Nat)=>cond (Nat.ble 0 p&&Nat.blt p 64) [Value.int .u8 (x_2.res (0+(p-0)))] (Cs.eff (λ(p_1:Nat)=>cond (Nat.ble 0 p_1&&Nat.blt p_1 64) [Value.int .u8 (x_1.res (0+(p_1-0)))] [Value.int .u8 0]) [] p)) []) []) [] k)) 1&&List.all (Cs.eff (Cs.eff (Cs.eff (λ(p:Nat)=>cond (Nat.ble 0 p&&Nat.blt p 64) [Value.int .u8 (x_2.res (0+(p-0)))] (Cs.eff (λ(p_1:Nat)=>cond (Nat.ble 0 p_1&&Nat.blt p_1 64) [Value.int .u8 (x_1.res (0+(p_1-0)))] [Value.int .u8 0]) [] p)) []) []) [] k) Value.oneCell')=true)/\FX/\ ∃y_2:Unit,True/\aeB/\(64=64/\ ∀q:Nat,q<64->[Value.int .u8 (mM x q)]=Cs.eff (Cs.eff (Cs.eff (Cs.eff (λ(p:Nat)=>cond (Nat.ble 0 p&&Nat.blt p 64) [Value.int .u8 (x_2.res (0+(p-0)))] (Cs.eff (λ(p_1:Nat)=>cond (Nat.ble 0 p_1&&Nat.blt p_1 64) [Value.int .u8 (x_1.res (0+(p_1-0)))] [Value.int .u8 0]) [] p)) []) []) []) [] q)/\True))
theorem aat(x:Int):Td x=wpF Tryz.prog tblK tt (λ_ _ _ _=>[]) 200 5 150 (DI.args x) (hO DI.k (DI.os x)) (λv h'=>eX DI.k x v h' DI.outs):=by kernel_rfl
theorem Tf(b:Bys)(hb:b.ok):aeC b:=by
 unfold aeC;simp only[aZ,aV,aU,aA,aI,bT,bF,aO,aK,ay,aX,aW];exact⟨⟨0,b⟩,⟨(show U32 0 from ⟨by omega,by omega⟩),hb⟩,⟨rfl,rfl,rfl⟩,⟨rfl,λ_ _=>rfl⟩,rfl⟩
theorem lU(v:Int)(k:Nat):0<=v/256^k%256/\v/256^k%256<256:=⟨Int.emod_nonneg _ (by omega),Int.emod_lt_of_pos _ (by omega)⟩
theorem yP{g:Nat->Int}(h: ∀k,0<=g k/\g k<256)(a w:Nat)(v:Int)(k:Nat):0<=oN g a w v k/\oN g a w v k<256:=by
 unfold oN;split
 ·exact lU _ _
 ·exact h k
theorem Oz(v:Int)(hv:0<=v/\v<18446744073709551616):Td v:=by
 unfold Td;simp only[FX,ajR,aot,aeB,ajS,aos];simp only[aZ,aV,aU,aA,aI,bT,bF,aO,aK,ay,aX,aW];let b0:Bys:=⟨λk=>if k=0 then 3 else 0,0,9,9⟩
 let x1:tH:=⟨b0,1,8,v,9⟩
 have ok1:x1.ok:=⟨⟨by simp[x1,b0],by simp[x1,b0],λk=>by simp only[x1,b0];split<;>omega⟩,by simp[x1,b0],by simp[x1],by simp[x1],hv.1,hv.2⟩;have r1: ∀k,k<9->x1.res k=aas v k:=λk hk=>by
  simp only[tH.res,oN,aas,x1,b0];by_cases h:k=0
  ·subst h;simp
  ·rw[if_pos (by omega),if_neg h]
 have u1: ∀k,0<=x1.res k/\x1.res k<256:=yP (λk=>ok1.1.2.2 _) _ _ _;let b1:Bys:=⟨λk=>if k<9 then x1.res k else 0,0,64,64⟩
 let x2:tH:=⟨b1,9,4,ny 0 x1.res 9,64⟩
 have c1:ny 0 x1.res 9=ny 0 (aas v) 9:=yO r1;have hU:=Yp 0 x1.res 9
 have ok2:x2.ok:=⟨⟨by simp[x2,b1],by simp[x2,b1],λk=>by
  show 0<=(if k<9 then x1.res k else 0)/\(if k<9 then x1.res k else 0)<256;split
  ·exact u1 k
  ·exact⟨by omega,by omega⟩⟩,by simp[x2,b1],by simp[x2],by simp[x2],hU.1,hU.2⟩
 have w64:IntKind.u64.wrap (ny 0 x1.res 9)=ny 0 x1.res 9:=by
  have:=hU.1;have:=hU.2;unfold IntKind.wrap;simp[IntKind.bits,IntKind.signed];omega
 have nb:x1.b.n=9:=rfl;have nb2:x2.b.n=64:=rfl;have ble9:Nat.ble 9 64=true:=rfl;have aou:Nat.ble 64 64=true:=rfl;refine⟨x1,ok1,⟨⟨rfl,rfl,rfl⟩,rfl,rfl,rfl⟩,⟨rfl,λq hq=> ?_⟩,by omega,by omega,?_⟩
 ·have hq:q<9:=hq
  match q,hq with
  |0,_|1,_|2,_|3,_|4,_|5,_|6,_|7,_|8,_=>rfl
 simp only[nb,ble9,cP,bU,bH,bI,bJ,bV,bD,bK,bC,eY,aH,aN,ah,ak,aB,aF,aC,aG,aK,aU];refine⟨by omega,by omega,by omega,9,x1.res,rfl,by omega,λ_ _=>rfl,u1,x2,ok2,⟨⟨rfl,rfl,rfl⟩,rfl,rfl,w64.symm⟩,⟨rfl,λq hq=> ?_⟩,by omega,by omega,?_⟩
 ·show(if q<9 then x1.res q else 0)=_
  rw[bQ,dI]
 simp only[nb2,aou,cP,bU,bH,bI,bJ,bV,bD,bK,bC,eY,aH,aN,ah,ak,aB,aF,aC,aG,aK,aU];refine⟨by omega,by omega,λq hq=> ?_⟩;simp[bg.2 hq];show mM v q=oN (λk=>if 0+k<9 then x1.res (0+k)else 0) 9 4 (ny 0 x1.res 9) q;simp only[mM,oN,c1,aA];by_cases h:q<9
 ·rw[if_pos h,if_neg (by omega),if_pos h,r1 q h]
 ·by_cases h2:q<13
  ·rw[if_neg h,if_pos h2,if_pos (by omega)]
  ·rw[if_neg h,if_neg h2,if_neg (by omega),if_neg h]
theorem Ti{P:Program}{f:FuncId}{X:Type}{args:X->List AV}{k m:Nat}{os os':X->List dB}{pre:X->Prop}{ret:X->AV}(hC:bZ P f (det X args k os pre ret m os'))(x:X)(hp:pre x):Sp P f (args x) (hO k (os x)) (λv _=>v=ret x):=
 (hC x hp).2.mono λ_ _ hh=>by
  have ha:Jh x (λv _=>v=ret x) (det X args k os pre ret m os').outs:=λ_ _=>rfl
  exact yL ha hh
theorem aeE:bZ Tryz.prog 171 aar:=dR dF mixed (.cons (bP amG) .nil) (λ_ _ _ _ _=>[]) 200 5 (λ_=>rfl) (λ_=>rfl) λx hx=>Eq.mp (aeD x) (Tf x (aZ.1 hx))
theorem Yq(args:List AV)(h:Heap)(K:AV->Heap->Prop)(hq:ajQ args h K):Sp Tryz.prog 171 args h K:=by
 unfold ajQ at hq;split at hq
 ·refine ajA (aeE ⟨λ_=>0,0,0,0⟩ (aZ.2 ⟨by simp,by simp,λ_=>by simp⟩)).2.1 (by omega) hq λe he=> ?_
  obtain⟨n,g,h1,h2,h3,h4,hK⟩:=he;have hs:=Ti aeE ⟨g,0,n,n⟩ (aZ.2 ⟨by simp,h2,h4⟩);refine⟨n,λk=>[.int .u8 (g k)],u32 (ny 0 (λk=>g (0+k)) n),h1,h3,rfl,?_,hs⟩;simpa only[aA]using hK
 ·exact hq.elim
theorem aeF:dX Tryz.prog tblK:= .cons Yq (.cons (aqV (bP amI) λ_ _ _ hq=>Ar dF mixed dX.nil _ _ _ _ _ _ _ hq) .nil)
theorem ajT:bZ Tryz.prog 150 DI:=dR dF mixed aeF (λ_ _ _ _ _=>[]) 200 5 (λ_=>rfl) (λ_=>rfl) λx hx=>Eq.mp (aat x) (Oz x (aZ.1 hx))
theorem aau:qB Tryz.prog 102 (Extern.Atomic.loadT (.int .u64)):=⟨Tryz.f102,by kernel_rfl,by kernel_rfl,by kernel_rfl,by kernel_rfl,by kernel_rfl⟩
def Yr:jf:=[(102,ajF .u64)]
theorem Tj:dX Tryz.prog Yr:= .FV (λ_ _ _ hq=>Ym _ _ _ aau hq) .nil
theorem Tm:qB Tryz.prog 104 Extern.Atomic.storeT:=⟨Tryz.f104,by kernel_rfl,by kernel_rfl,by kernel_rfl,by kernel_rfl,by kernel_rfl⟩
def OA:jf:=[(104,Yl .u64)]
theorem OB:dX Tryz.prog OA:= .FV (λ_ _ _ hq=>Ot _ _ _ Tm hq) .nil
theorem aeG:qB Tryz.prog 103 (Extern.Atomic.casT (.int .u64)):=⟨Tryz.f103,by kernel_rfl,by kernel_rfl,by kernel_rfl,by kernel_rfl,by kernel_rfl⟩
def aeH:jf:=[(103,casX .u64)]
theorem aav:dX Tryz.prog aeH:= .FV (λ_ _ _ hq=>aoh _ _ _ aeG hq) .nil
theorem aeI:qB Tryz.prog 108 (Extern.Atomic.update (Op.intArith .add) .u64 true):=⟨Tryz.f108,by kernel_rfl,by kernel_rfl,by kernel_rfl,by kernel_rfl,by kernel_rfl⟩
def aeJ:jf:=[(108,addX .u64)]
theorem aaw:dX Tryz.prog aeJ:= .FV (λ_ _ _ hq=>aej _ _ _ aeI hq) .nil
theorem aax:qB Tryz.prog 285 (Extern.Atomic.swapT (.int .u64)):=⟨Tryz.f285,by kernel_rfl,by kernel_rfl,by kernel_rfl,by kernel_rfl,by kernel_rfl⟩
def Yt:jf:=[(285,aof .u64)]
theorem Tn:dX Tryz.prog Yt:= .FV (λ_ _ _ hq=>ajG _ _ _ aax hq) .nil
theorem aay:qB Tryz.prog 168 (Extern.Atomic.update (Op.intArith .add) .i64 true):=⟨Tryz.f168,by kernel_rfl,by kernel_rfl,by kernel_rfl,by kernel_rfl,by kernel_rfl⟩
def Yu:jf:=[(168,addX .i64)]
theorem Tq:dX Tryz.prog Yu:= .FV (λ_ _ _ hq=>aej _ _ _ aay hq) .nil
def OC:jf:=[]
theorem OD:dX Tryz.prog OC:= .nil
theorem aaz:qB Tryz.prog 193 (Extern.Atomic.loadT (.int .u32)):=⟨Tryz.f193,by kernel_rfl,by kernel_rfl,by kernel_rfl,by kernel_rfl,by kernel_rfl⟩
def Yv:jf:=[(193,ajF .u32)]
theorem Tt:dX Tryz.prog Yv:= .FV (λ_ _ _ hq=>Ym _ _ _ aaz hq) .nil
theorem Tv:qB Tryz.prog 239 Extern.Atomic.storeT:=⟨Tryz.f239,by kernel_rfl,by kernel_rfl,by kernel_rfl,by kernel_rfl,by kernel_rfl⟩
def OE:jf:=[(239,Yl .u32)]
theorem OG:dX Tryz.prog OE:= .FV (λ_ _ _ hq=>Ot _ _ _ Tv hq) .nil
noncomputable def pI:jf:=Yr++OA++aeH++aeJ++Yt++Yu++OC++Yv++OE
theorem dS:dX Tryz.prog pI:= .append (.append (.append (.append (.append (.append (.append (.append (Tj) OB) aav) aaw) Tn) Tq) OD) Tt) OG
structure DevM where
 n:Nat
 b:Nat->Int
 s:Nat->Bool
 st:Int
 fl:Int
 fe:Int
 ba:Int
 cu:Int
def small(z:Int):Prop:=0<=z/\z<1099511627776
noncomputable def kG(d:DevM)(p:Nat):List Value:=hide [if p%193=192 then .bool (d.s (p/193))else .int .u8 (d.b p)]
theorem nZ(d:DevM)(p:Nat):kG d p=[if p%193=192 then .bool (d.s (p/193))else .int .u8 (d.b p)]:=iG _
namespace DevM
def ok(d:DevM):Prop:=d.n<=258/\(∀p,0<=d.b p/\d.b p<256)/\small d.st/\small d.fl/\small d.fe/\small d.ba/\small d.cu
def dev(i:Nat)(d:DevM):dB:= .cells 201 (.av [.slE i 0 193 d.n d.n,i64 d.st,i64 d.fl,i64 d.fe,i64 d.ba,i64 d.cu])
noncomputable def cells(d:DevM):dB:= .cells 229 (.row 1 (d.n*193) (kG d) [])
noncomputable def os(d:DevM):List dB:=[d.dev 1,d.cells]
def _root_.Go.Proofs.YtenfleoejgjklaaGreat.xA(n:Nat):DevM:=⟨n,λ_=>0,λ_=>false,0,0,0,0,0⟩
def flush(d:DevM)(k:Nat):DevM:={d with b:=λp=>if k*193+128<=p/\p<k*193+192 then d.b (p-128)else d.b p,s:=λq=>if q=k then true else d.s q,fl:=if k<d.n then d.fl+1 else d.fl}
def iH(d:DevM)(k:Nat):DevM:={d with b:=λp=>if p/193<k/\d.s (p/193)=true/\64<=p%193/\p%193<128 then d.b (p+64)else d.b p,s:=λq=>if q<k then false else d.s q}
def fence(d:DevM):DevM:={d.iH d.n with fe:=d.fe+1}
def store(d:DevM)(k a n:Nat)(g:Nat->Int):DevM:={d with b:=λp=>if k*193+a<=p/\p<k*193+a+n then g (p-(k*193+a))else d.b p,st:=d.st+1}
end DevM
structure Tz where
 d:DevM
 k:Nat
noncomputable def DJ:Ctr:=det Tz (λx=>[.ptr 0 0,i64 x.k]) 2 (λx=>x.d.os) (λx=>Hd (x.d.ok/\x.k<258)) (λx=>i64 (if x.k<x.d.n then 0 else 2)) 2 (λx=>(x.d.flush x.k).os)
noncomputable def DK:Ctr:=det DevM (λ_=>[.ptr 0 0]) 2 (λd=>d.os) (λd=>Hd d.ok) (λ_=>i64 0) 2 (λd=>d.fence.os)
noncomputable def aeK(d:DevM):FuncId->qA:=λf=>
 bif Nat.beq f 106 then(λb fr h=>bif Nat.beq b 0 then [{σ:=Nat,fr:=λk=>[(12,i64 k)],ob:=λk=>[(1,some (d.iH k).cells)],inv:=λk=>k<=d.n,meas:=λk=>d.n-k}]else [])else
 λ_ _ _=>[]
structure lN where
 d:DevM
 k:Nat
 a:Nat
 b:Bys
noncomputable def DL:Ctr:=det lN (λx=>[.ptr 0 0,i64 x.k,i64 x.a,x.b.av 2]) 3 (λx=>x.d.os++[x.b.ro]) (λx=>Hd (x.d.ok/\x.k<x.d.n/\x.b.ok/\x.a+x.b.n<=64)) (λ_=>i64 0) 3 (λx=>(x.d.store x.k x.a x.b.n (λq=>x.b.g (x.b.q+q))).os++[x.b.ro])
def aaA(a:DevM):Prop:=a.ba=a.ba/\a.cu=a.cu/\True
def TA(a:DevM):Prop:=a.fe=a.fe/\aaA a
def lq(a:Nat):Prop:=a*193=a*193
def nO(a:Nat):Prop:=0=0/\a=a/\a=a
def OH(a:Bys):Prop:=(rowB a.g a.N=rowB a.g a.N/\true=true)/\True
def TB(a:DevM):Prop:=a.fl=a.fl/\TA a
def ajU(a:lN):Prop:= ∃y:Unit,True/\(0:Int)=2/\(nO a.d.n/\a.d.st+1=a.d.st/\TB a.d)/\(lq a.d.n/\ ∀q:Nat,q<a.d.n*193->Cs.eff (kG (a.d.store a.k a.a a.b.n (λ(q_1:Nat)=>a.b.g (a.b.q+q_1)))) [] q=Cs.eff (kG a.d) [] q)/\OH a.b
def ajV(a:DevM):Prop:=(nO a.n/\a.st=a.st/\TB a)/\True
def Yw(a:Bys)(b:Nat):Prop:=(Nat.beq (List.length [Value.int .u8 (a.g (a.q+b))]) 1&&List.all [Value.int .u8 (a.g (a.q+b))] Value.oneCell')=true
def Yx:Prop:= ∃y:Unit,True/\(False/\(0:Int)=2/\True)/\False/\False/\True
def aeL(n:Nat):Prop:=
 cP (decide ((n:Int)<1)) Yx (cP (decide ((n:Int)>(258:Int))) Yx ((0<=(n:Int)/\(n:Int)<=(n:Int)/\193*(n:Int)<=281474976710656/\(n:Int)<4611686018427387904)/\ ∃y:Unit,True/\(0=0/\(0:Int)=0/\True)/\(nO n/\(0:Int)=0/\(0:Int)=0/\(0:Int)=0/\(0:Int)=0/\(0:Int)=0/\True)/\(lq n/\ ∀q:Nat,∀j:Nat,q<n->j<193-> ∃v:Value,getElem? (List.replicate 192 (Value.int .u8 0)++[Value.bool false]) j=some v/\Cs.eff (kG (xA n)) [] (q*193+j)=[v])/\True))
def TF(x:Tz):Prop:=
 cP (decide ((x.k:Int)>=(x.d.n:Int))) (∃y:Unit,True/\ite (x.k<x.d.n) (0:Int) (2:Int)=2/\(nO x.d.n/\x.d.st=x.d.st/\ite (x.k<x.d.n) (x.d.fl+1) x.d.fl=x.d.fl/\TA x.d)/\(lq x.d.n/\ ∀q:Nat,q<x.d.n*193->Cs.eff (kG (x.d.flush x.k)) [] q=Cs.eff (kG x.d) [] q)/\True) (I64 (64:Int)/\(0<=(x.k:Int)/\(x.k:Int)<(x.d.n:Int))/\(0+x.k)*193+0+64<=x.d.n*193/\(0+x.k)*193+128+64<=x.d.n*193/\(∀k:Nat,k<64->(Nat.beq (List.length (Cs.eff (kG x.d) [] ((0+x.k)*193+0+k))) 1&&List.all (Cs.eff (kG x.d) [] ((0+x.k)*193+0+k)) Value.oneCell')=true)/\(0+x.k)*193+192<x.d.n*193/\I64 (x.d.fl+1)/\ ∃y:Unit,True/\ite (x.k<x.d.n) (0:Int) (2:Int)=0/\(nO x.d.n/\x.d.st=x.d.st/\ite (x.k<x.d.n) (x.d.fl+1) x.d.fl=x.d.fl+1/\TA x.d)/\(lq x.d.n/\ ∀q:Nat,q<x.d.n*193->Cs.eff (kG (x.d.flush x.k)) [] q=Cs.eff (λ(p:Nat)=>cond (Nat.ble ((0+x.k)*193+128) p&&Nat.blt p ((0+x.k)*193+128+64)) (Cs.eff (kG x.d) [] ((0+x.k)*193+0+(p-((0+x.k)*193+128)))) (Cs.eff (kG x.d) [] p)) [((0+x.k)*193+192,[Value.bool true])] q)/\True)
theorem aaB(x:Tz):TF x=wpF Tryz.prog pI tt (λ_ _ _ _=>[]) 200 5 105 (DJ.args x) (hO DJ.k (DJ.os x)) (λv h'=>eX DJ.k x v h' DJ.outs):=by kernel_rfl
def TG(d:DevM):Prop:=
 (∃s:Nat,s<=d.n/\True/\((s:Int)=0/\True)/\(lq d.n/\ ∀q:Nat,q<d.n*193->Cs.eff (kG (d.iH s)) [] q=Cs.eff (kG d) [] q)/\ajV d)/\(∀s:Nat,s<=d.n->cP (decide ((s:Int)<(d.n:Int))) ((0<=(s:Int)/\(s:Int)<(d.n:Int))/\(0+s)*193+192<d.n*193/\ ∃b:Bool,getElem? (kG (d.iH s) ((0+s)*193+192)) 0=some (Value.bool b)/\cP b ((0+s)*193+128+64<=d.n*193/\(0+s)*193+64+64<=d.n*193/\(∀k:Nat,k<64->(Nat.beq (List.length (Cs.eff (kG (d.iH s)) [] ((0+s)*193+128+k))) 1&&List.all (Cs.eff (kG (d.iH s)) [] ((0+s)*193+128+k)) Value.oneCell')=true)/\(0+s)*193+192<d.n*193/\I64 ((s:Int)+1)/\ ∃s_1:Nat,s_1<=d.n/\d.n-s_1<d.n-s/\((s_1:Int)=(s:Int)+1/\True)/\(lq d.n/\ ∀q:Nat,q<d.n*193->Cs.eff (kG (d.iH s_1)) [] q=Cs.eff (λ(p:Nat)=>cond (Nat.ble ((0+s)*193+64) p&&Nat.blt p ((0+s)*193+64+64)) (Cs.eff (kG (d.iH s)) [] ((0+s)*193+128+(p-((0+s)*193+64)))) (Cs.eff (kG (d.iH s)) [] p)) [((0+s)*193+192,[Value.bool false])] q)/\ajV d) (I64 ((s:Int)+1)/\ ∃s_1:Nat,s_1<=d.n/\d.n-s_1<d.n-s/\((s_1:Int)=(s:Int)+1/\True)/\(lq d.n/\ ∀q:Nat,q<d.n*193->Cs.eff (kG (d.iH s_1)) [] q=Cs.eff (kG (d.iH s)) [] q)/\ajV d)) (I64 (d.fe+1)/\ ∃y:Unit,True/\(0:Int)=0/\(nO d.n/\d.st=d.st/\d.fl=d.fl/\d.fe+1=d.fe+1/\aaA d)/\(lq d.n/\ ∀q:Nat,q<d.n*193->Cs.eff (kG d.fence) [] q=Cs.eff (kG (d.iH s)) [] q)/\True))/\True
theorem aaC(d:DevM):TG d=wpF Tryz.prog pI tt (aeK d) 200 5 106 (DK.args d) (hO DK.k (DK.os d)) (λv h'=>eX DK.k d v h' DK.outs):=by kernel_rfl
def Jm(x:lN):Prop:=
 cP (decide ((x.k:Int)>=(x.d.n:Int))) (ajU x) (I64 (64-(x.b.n:Int))/\cP (decide ((x.a:Int)>64-(x.b.n:Int))) (ajU x) ((0<=(x.k:Int)/\(x.k:Int)<(x.d.n:Int))/\0<=(x.a:Int)/\(x.a<=64/\64<=64/\64<=64)/\(0+x.k)*193+0+x.a+(64-x.a)<=x.d.n*193/\cP (Nat.ble x.b.n (64-x.a)) (x.b.q+x.b.n<=x.b.N/\(∀k:Nat,k<x.b.n->Yw x.b k)/\I64 (x.d.st+1)/\ ∃y:Unit,True/\(0:Int)=0/\(nO x.d.n/\x.d.st+1=x.d.st+1/\TB x.d)/\(lq x.d.n/\ ∀q:Nat,q<x.d.n*193->Cs.eff (kG (x.d.store x.k x.a x.b.n (λ(q_1:Nat)=>x.b.g (x.b.q+q_1)))) [] q=Cs.eff (λ(p:Nat)=>cond (Nat.ble ((0+x.k)*193+0+x.a) p&&Nat.blt p ((0+x.k)*193+0+x.a+x.b.n)) [Value.int .u8 (x.b.g (x.b.q+(p-((0+x.k)*193+0+x.a))))] (Cs.eff (kG x.d) [] p)) [] q)/\OH x.b) (x.b.q+(64-x.a)<=x.b.N/\(∀k:Nat,k<64-x.a->Yw x.b k)/\I64 (x.d.st+1)/\ ∃y:Unit,True/\(0:Int)=0/\(nO x.d.n/\x.d.st+1=x.d.st+1/\TB x.d)/\(lq x.d.n/\ ∀q:Nat,q<x.d.n*193->Cs.eff (kG (x.d.store x.k x.a x.b.n (λ(q_1:Nat)=>x.b.g (x.b.q+q_1)))) [] q=Cs.eff (λ(p:Nat)=>cond (Nat.ble ((0+x.k)*193+0+x.a) p&&Nat.blt p ((0+x.k)*193+0+x.a+(64-x.a))) [Value.int .u8 (x.b.g (x.b.q+(p-((0+x.k)*193+0+x.a))))] (Cs.eff (kG x.d) [] p)) [] q)/\OH x.b)))
theorem aaD(x:lN):Jm x=wpF Tryz.prog pI tt (λ_ _ _ _=>[]) 200 5 62 (DL.args x) (hO DL.k (DL.os x)) (λv h'=>eX DL.k x v h' DL.outs):=by kernel_rfl
theorem aeM(d:DevM)(p:Nat):((kG d p).length.beq 1&&(kG d p).all Value.oneCell')=true:=by
 rw[nZ];split<;>rfl
theorem TJ(n:Nat)(hn:1<=n/\n<=258):aeL n:=by
 unfold aeL;simp only[Yx,nO,lq];simp only[aZ,aV,aU,aA,aI,bT,bF,aO,aK,ay,aX,aW,bU,bH,bI,bJ,bV,bD,bK,bC,eY,aH,aN,ah,ak,aB,aF,aC,aG];refine bf (λh=>absurd (aS h) (by omega)) λ_=>bf (λh=>absurd (aS h) (by omega)) λ_=>⟨by omega,λq j _ hj=> ?_⟩
 rw[nZ,show(q*193+j)%193=j by omega];by_cases h:j=192
 ·subst h;exact⟨_,rfl,rfl⟩
 ·rw[if_neg h]
  refine⟨.int .u8 0,?_,rfl⟩;rw[List.getElem?_append_left (by rw[List.length_replicate];omega),List.getElem?_replicate,if_pos (by omega)]
theorem OI(x:Tz)(hx:x.d.ok/\x.k<258):TF x:=by
 obtain⟨⟨h1,h2,h3,h4,h5,h6⟩,hk⟩:=hx;unfold small at*
 unfold TF;simp only[nO,TA,lq,aaA];simp only[aZ,aV,aU,aA,aI,bT,bF,aO,aK,ay,aX,aW,bU,bH,bI,bJ,bV,bD,bK,bC,eY,aH,aN,ah,ak,aB,aF,aC,aG];refine bf (λh=> ?_) λh=> ?_
 ·have h:=aS h
  refine⟨by rw[if_neg (by omega)],by rw[if_neg (by omega)],λq hq=> ?_⟩;simp only[nZ,DevM.flush];grind
 ·have h:x.k<x.d.n:=by have:=aT h;omega
  rw[if_pos h,if_pos h];refine⟨by unfold I64;omega,by omega,by omega,by omega,λk _=>aeM _ _,by omega,by unfold I64;omega,rfl,rfl,λq hq=> ?_⟩;simp only[Cs.eff,bQ,dw,dA,dI,<-Bool.decide_and,nZ,DevM.flush];grind
theorem OJ(d:DevM)(hd:d.ok):TG d:=by
 obtain⟨h1,h2,h3,h4,h5,h6⟩:=hd;unfold small at*
 unfold TG;simp only[lq,ajV,nO,aaA,TB,TA];simp only[aZ,aV,aU,aA,aI,bT,bF,aO,aK,ay,aX,aW,bU,bH,bI,bJ,bV,bD,bK,bC,eY,aH,aN,ah,ak,aB,aF,aC,aG];refine⟨⟨0,by omega,by omega,λq hq=> ?_⟩,λs hs=>bf (λhb=> ?_) (λhb=> ?_)⟩
 ·simp only[nZ,DevM.iH];grind
 ·have hb:=aS hb
  refine⟨by omega,by omega,d.s s,?_,bf (λhc=> ?_) (λhc=> ?_)⟩
  ·simp only[nZ,DevM.iH];grind
  ·refine⟨by omega,by omega,λk _=>aeM _ _,by omega,by unfold I64;omega,s+1,by omega,by omega,by omega,λq hq=> ?_⟩
   simp only[Cs.eff,bQ,dw,dA,dI,<-Bool.decide_and,nZ,DevM.iH];grind (splits:=30)
  ·refine⟨by unfold I64;omega,s+1,by omega,by omega,by omega,λq hq=> ?_⟩
   simp only[nZ,DevM.iH];grind
 ·have:s=d.n:=by have:=aT hb;omega
  subst this;exact⟨by unfold I64;omega,λq _=>rfl⟩
theorem Aw(x:lN)(hx:x.d.ok/\x.k<x.d.n/\x.b.ok/\x.a+x.b.n<=64):Jm x:=by
 obtain⟨⟨h1,h2,h3,h4,h5,h6⟩,hk,hb,ha⟩:=hx;unfold small at*
 unfold Jm;simp only[ajU,Yw,nO,TB,lq,OH,TA,aaA];simp only[aZ,aV,aU,aA,aI,bT,bF,aO,aK,ay,aX,aW,bU,bH,bI,bJ,bV,bD,bK,bC,eY,aH,aN,ah,ak,aB,aF,aC,aG];obtain⟨b1,b2,b3⟩:=hb;refine bf (λh=>absurd (aS h) (by omega)) λ_=>⟨by unfold I64;omega,bf (λh=>absurd (aS h) (by omega)) λ_=>⟨by omega,by omega,by omega,by omega,bf (λh=> ?_) (λh=> ?_)⟩⟩
 ·refine⟨b1,by unfold I64;omega,λq hq=> ?_⟩
  simp only[Cs.eff,bQ,dw,dA,dI,<-Bool.decide_and,nZ,DevM.store];grind
 ·have: ¬x.b.n<=64-x.a:=λhh=>by rw[show Nat.ble x.b.n (64-x.a)=true by simpa using hh]at h;cases h
  omega
theorem ajW:bZ Tryz.prog 105 DJ:=dR dF mixed dS (λ_ _ _ _ _=>[]) 200 5 (λ_=>rfl) (λ_=>rfl) λx hx=>Eq.mp (aaB x) (OI x (aZ.1 hx))
theorem ajX:bZ Tryz.prog 106 DK:=dR dF mixed dS aeK 200 5 (λ_=>rfl) (λ_=>rfl) λx hx=>Eq.mp (aaC x) (OJ x (aZ.1 hx))
theorem ajY:bZ Tryz.prog 62 DL:=dR dF mixed dS (λ_ _ _ _ _=>[]) 200 5 (λ_=>rfl) (λ_=>rfl) λx hx=>Eq.mp (aaD x) (Aw x (aZ.1 hx))
structure iM where
 t:Nat
 now:Int
 dur:Int
 OL:Int
 o:Nat->Int
 N:Nat->Bool
 L:Nat->Bool
def aq1(f:Nat->Bool):Cs:= .row 1 258 (λk=>[.bool (f k)]) []
def U64(z:Int):Prop:=0<=z/\z<4611686018427387904
def stA(i:Nat):Nat->AV
 |0=> .lit .nilFunc
 |1=> .fn (.func 57) [.ptr i 0] []
 |2=> .fn (.func 107) [.ptr i 0] []
 |3=> .fn (.func 165) [.ptr i 0] []
 |_=> .fn (.func 212) [.ptr i 0] []
def stV(ph:Nat):AV:=stA 0 ph
namespace iM
def ok(c:iM):Prop:=1<=c.t/\c.t<=4/\U64 c.now/\U64 c.dur/\U64 c.OL/\ ∀k,small (c.o k)
def clkA(c:iM)(i:Nat)(st:AV):dB:= .cells 131 (.cat (.av [u64 c.now,u64 c.dur,u64 c.OL,.slE i 0 1 c.t c.t]) (.cat (aq1 c.N) (.cat (aq1 c.L) (.av [st]))))
def clk(c:iM)(ph:Nat):dB:=c.clkA 1 (stV ph)
def owed(c:iM):dB:= .cells 3 (.row 1 c.t (λk=>[.int .i64 (c.o k)]) [])
def os(c:iM)(ph:Nat):List dB:=[c.clk ph,c.owed]
def note(c:iM)(t:Nat)(l:Int):iM:={c with o:=λk=>if k=t/\0<=l/\l<258 then c.o k+1 else c.o k,N:=λq=>c.N q||decide (l=(q:Nat))}
end iM
def aeN(t:Nat)(d:Int):iM:=⟨t,d+1,d,0,λ_=>0,λ_=>false,λ_=>false⟩
structure uO where
 c:iM
 t:Nat
 l:Int
structure ClkD where
 c:iM
 d:DevM
namespace ClkD
end ClkD
def amJ(a:Nat):Prop:=0=0/\a=a/\a=a
def aov(a:iM):Prop:=a.now=a.now/\a.dur=a.dur/\a.OL=a.OL/\amJ a.t/\True
def Hl:Prop:=Value.nilFunc=Value.nilFunc/\True
def aow(a:iM):Prop:=258=258/\ ∀q:Nat,q<258->[Value.bool (a.L q)]=[Value.bool (a.L q)]
def ajZ(a:uO):Prop:=(aov a.c/\(258=258/\ ∀q:Nat,q<258->[Value.bool (Bool.or (a.c.N q) (decide (a.l=(q:Int))))]=[Value.bool (a.c.N q)])/\aow a.c/\Hl)/\(a.c.t=a.c.t/\ ∀q:Nat,q<a.c.t->[Value.int .i64 (ite (q=a.t/\0<=a.l/\a.l<258) (a.c.o q+1) (a.c.o q))]=[Value.int .i64 (a.c.o q)])/\True
def Yy:Prop:=258=258/\ ∀q:Nat,q<258->[Value.bool false]=[Value.bool false]
def Yz:Prop:= ∃y:Unit,True/\(False/\(0:Int)=2/\True)/\False/\False/\True
def aeO(p:Nat×Int):Prop:=
 cP (decide ((p.1:Int)<1)) Yz (cP (decide ((p.1:Int)>(4:Int))) Yz (cP (decide (p.2>(1152921504606846976:Int))) (∃y:Unit,True/\(False/\(0:Int)=10/\True)/\False/\False/\True) ((0<=(p.1:Int)/\(p.1:Int)<=(p.1:Int)/\8*(p.1:Int)<=281474976710656/\(p.1:Int)<4611686018427387904)/\ ∃y:Unit,True/\(0=0/\(0:Int)=0/\True)/\((p.2+1=IntKind.wrap .u64 (p.2+1)/\p.2=p.2/\(0:Int)=0/\(0=0/\p.1=p.1/\p.1=p.1)/\True)/\Yy/\Yy/\Hl)/\(p.1=p.1/\ ∀q:Nat,q<p.1->[Value.int .i64 0]=[Value.int .i64 0])/\True)))
def amK(x:uO):Prop:=
 cP (decide ((x.t:Int)>=(x.c.t:Int))) (∃y:Unit,True/\ite (0<=x.l/\x.l<258) (0:Int) (2:Int)=1/\ajZ x) (cP (decide (x.l<0)) (∃y:Unit,True/\ite (0<=x.l/\x.l<258) (0:Int) (2:Int)=2/\ajZ x) (cP (decide (x.l>=(258:Int))) (∃y:Unit,True/\ite (0<=x.l/\x.l<258) (0:Int) (2:Int)=2/\ajZ x) ((0<=(x.t:Int)/\(x.t:Int)<(x.c.t:Int))/\0+x.t<x.c.t/\I64 (x.c.o (0+x.t)+1)/\(0<=(x.t:Int)/\(x.t:Int)<(x.c.t:Int))/\0+x.t<x.c.t/\(0<=x.l/\x.l<258)/\Int.toNat x.l<258/\ ∃y:Unit,True/\ite (0<=x.l/\x.l<258) (0:Int) (2:Int)=0/\(aov x.c/\(258=258/\ ∀q:Nat,q<258->[Value.bool (Bool.or (x.c.N q) (decide (x.l=(q:Int))))]=Cs.eff (λ(k:Nat)=>[Value.bool (x.c.N k)]) [(Int.toNat x.l,[Value.bool true])] q)/\aow x.c/\Hl)/\(x.c.t=x.c.t/\ ∀q:Nat,q<x.c.t->[Value.int .i64 (ite (q=x.t/\0<=x.l/\x.l<258) (x.c.o q+1) (x.c.o q))]=Cs.eff (λ(k:Nat)=>[Value.int .i64 (x.c.o k)]) [(0+x.t,[Value.int .i64 (x.c.o (0+x.t)+1)])] q)/\True)))
theorem TK(p:Nat×Int)(hp:1<=p.1/\p.1<=4/\0<=p.2/\p.2<=1152921504606846976):aeO p:=by
 unfold aeO;simp only[Yz,Yy,Hl];simp only[aZ,aV,aU,aA,aI,bT,bF,aO,aK,ay,aX,aW,bU,bH,bI,bJ,bV,bD,bK,bC,eY,aH,aN,ah,ak,aB,aF,aC,aG];refine bf (λh=>absurd (aS h) (by omega)) λ_=>bf (λh=>absurd (aS h) (by omega)) λ_=>bf (λh=>absurd (aS h) (by omega)) λ_=>⟨by omega,?_⟩
 unfold IntKind.wrap;simp[IntKind.bits,IntKind.signed];omega
theorem TL(x:uO)(hx:x.c.ok/\x.t<x.c.t):amK x:=by
 obtain⟨⟨h1,h2,h3,h4,h5,h6⟩,ht⟩:=hx;have hs:=h6 x.t;unfold small at hs;unfold amK;simp only[ajZ,aov,aow,Hl,amJ];simp only[aZ,aV,aU,aA,aI,bT,bF,aO,aK,ay,aX,aW,bU,bH,bI,bJ,bV,bD,bK,bC,eY,aH,aN,ah,ak,aB,aF,aC,aG];refine bf (λh=>absurd (aS h) (by omega)) λ_=>bf (λh=> ?_) λh=>bf (λh2=> ?_) λh2=> ?_
 ·have h:=aS h
  exact⟨by rw[if_neg (by omega)],λq hq=>by simp;intro;omega,λq hq=>by rw[if_neg (by omega)]⟩
 ·have h:=aS h2
  exact⟨by rw[if_neg (by omega)],λq hq=>by simp;intro;omega,λq hq=>by rw[if_neg (by omega)]⟩
 ·have h:=aT h
  have h2:=aT h2;have hl:0<=x.l/\x.l<258:=by omega
  refine⟨by omega,by omega,by unfold I64;omega,by omega,by omega,hl,by omega,by rw[if_pos hl],λq hq=> ?_,λq hq=> ?_⟩
  ·simp only[Cs.eff,bQ,dw,dA,dI,<-Bool.decide_and]
   by_cases e:q=x.l.toNat
   ·rw[if_pos e,show decide (x.l=(q:Int))=true by simp;omega,Bool.or_true]
   ·rw[if_neg e,show decide (x.l=(q:Int))=false by simp;omega,Bool.or_false]
  ·simp only[Cs.eff,bQ,dw,dA,dI,<-Bool.decide_and]
   by_cases e:q=x.t
   ·subst e;rw[if_pos ⟨rfl,hl⟩,if_pos rfl]
   ·rw[if_neg (by omega),if_neg e]
theorem OM(v:Int)(k:Nat):0<=mM v k/\mM v k<256:=by
 unfold mM aas;split
 ·split
  ·omega
  ·exact lU _ _
 ·split
  ·exact lU _ _
  ·omega
theorem kM{x y:Prop}:cP true x y=x:=rfl
theorem ig{x y:Prop}:cP false x y=y:=rfl
def noA{X:Type}:X->FuncId->qA:=λ_ _ _ _ _=>[]
def boo(b:Bool):AV:= .lit (.bool b)
def gY:AV:= .lit (.slice none 0 0)
def qE(X:Type)(args:X->List AV)(k:Nat)(l:X->List PO)(pre:X->Prop)(ret:X->AV)(m:Nat)(l':X->List PO):jE:=
 {X:=X,args:=args,k:=k,l:=l,pre:=pre,outs:=[{Y:=Unit,post:=λ_ _=>True,ret:=λx _=>ret x,m:=m,l:=λx _=>l' x}]}
def spn(c:Int):Int:=if c=0 then 1 else if c=1 then 2 else if c=2 then 4 else if c=3 then 8 else 0
def cpc(c:Int):Int:=if c=0 then 28 else if c=1 then 91 else if c=2 then 217 else if c=3 then 469 else 0
def ned(n:Int):Int:=if n<0 then-1 else if n<=28 then 0 else if n<=91 then 1 else if n<=217 then 2 else if n<=469 then 3 else-1
def yQ:Ctr:=det Int (λc=>[i64 c]) 0 (λ_=>[]) (λ_=>True) (λc=>i64 (spn c)) 0 (λ_=>[])
def amL:Ctr:=det Int (λc=>[i64 c]) 0 (λ_=>[]) (λ_=>True) (λc=>i64 (cpc c)) 0 (λ_=>[])
def TM:Ctr:=det Int (λc=>[i64 c]) 0 (λ_=>[]) (λ_=>True) (λc=>i64 (ned c)) 0 (λ_=>[])
def slb(l:Int):Int:=if l<2\/258<=l then-1 else(l-2)/8
def OO:Ctr:=det Int (λk=>[i64 k]) 0 (λ_=>[]) (λ_=>True) (λk=>i64 (if k<0\/32<=k then-1 else 2+k*8)) 0 (λ_=>[])
def uP:Ctr:=det Int (λk=>[i64 k]) 0 (λ_=>[]) (λ_=>True) (λk=>i64 (slb k)) 0 (λ_=>[])
structure uQ where
 k:Nat
 c:Int
def aeP(x:uQ)(n:Nat):Cs:= .row 1 n (λi=>[.int .i64 (2+x.k*8+i*spn x.c)]) []
def uS:Ctr:={X:=uQ,args:=λx=>[i64 x.k,i64 x.c],k:=0,os:=λ_=>[],pre:=λx=>Hd (x.k<32),outs:=[
 {Y:=Unit,post:=λx _=>Hd (spn x.c=0),ret:=λ_ _=>gY,m:=0,os:=λ_ _=>[]},
 {Y:=Unit,post:=λx _=>Hd (spn x.c≠0),ret:=λx _=> .slW 0 0 1 (8/spn x.c).toNat,m:=1,os:=λx _=>[.room 3 (aeP x (8/spn x.c).toNat)]}]}
def YA(x:uQ):FuncId->qA:=λf=>bif Nat.beq f 73 then(λb _ _=>bif Nat.beq b 0 then [
 {σ:=Unit,fr:=λ_=>[(21,i64 0),(7,gY)],ob:=λ_=>[],inv:=λ_=>Hd (spn x.c≠0),meas:=λ_=>9,test:=λfr _=>(match SE.look fr 7 with| .lit _=>true|_=>false)},
 {σ:=Nat,fr:=λi=>[(21,i64 i),(7,.slW 0 0 1 i)],ob:=λi=>[(0,some (.room 3 (aeP x i)))],inv:=λi=>Hd (spn x.c≠0/\1<=i/\i<=(8/spn x.c).toNat),meas:=λi=>8-i,nx:=1,test:=λfr _=>(match SE.look fr 7 with| .lit _=>false|_=>true)}]else [])elseλ_ _ _=>[]
structure aeQ where
 g:Nat->Int
 n:Nat
 v:Int
def aeQ.os(x:aeQ):List dB:=[.room 3 (.row 1 x.n (λi=>[.int .i64 (x.g i)]) [])]
def aox:Ctr:={X:=aeQ,args:=λx=>[.slW 0 0 1 x.n,i64 x.v],k:=1,os:=aeQ.os,pre:=λx=>Hd (x.n<1000),outs:=[
 {Y:=Nat,post:=λx i=>Hd (i<x.n/\x.g i=x.v/\ ∀j,j<i->x.g j≠x.v),ret:=λ_ i=>i64 i,m:=1,os:=λx _=>x.os},
 {Y:=Unit,post:=λx _=>Hd (∀j,j<x.n->x.g j≠x.v),ret:=λ_ _=>i64 (-1),m:=1,os:=λx _=>x.os}]}
def aq2(x:aeQ):FuncId->qA:=λf=>bif Nat.beq f 173 then(λb _ _=>bif Nat.beq b 0 then [
 {σ:=Nat,fr:=λi=>[(8,i64 i)],ob:=λ_=>[],inv:=λi=>Hd (i<=x.n/\ ∀j,j<i->x.g j≠x.v),meas:=λi=>x.n-i}]else [])elseλ_ _ _=>[]
def aj0:jf:=[(113,ctrT yQ)]
def tblS2:jf:=[(115,ctrT amL)]
def tblS3:jf:=[(113,ctrT yQ),(131,ctrT OO)]
def TN(a:aeQ):Prop:=(a.n=a.n/\ ∀q:Nat,q<a.n->[Value.int .i64 (a.g q)]=[Value.int .i64 (a.g q)])/\True
def aoy:Prop:=Value.slice none 0 0=Value.slice none 0 0/\True
def aj1(a:Int):Prop:=(∃y_2:Unit,Hd (spn a=0)/\aoy)\/ ∃y_2:Unit,Hd (spn a≠(0:Int))/\False/\False/\True
def aj2(a:Int)(b:Nat):Prop:=Hd (spn a≠(0:Int)/\1<=b/\b<=Int.toNat ((8:Int)/spn a))
def aoz(a:Int):Prop:= ∃y:Unit,True/\ite (a<0\/32<=a) (-(1:Int)) (2+a*8)=(-(1:Int))/\True
def aeR(c:Int):Prop:=
 cP (decide (c<0)) (∃y:Unit,True/\spn c=0/\True) (cP (decide (c>(3:Int))) (∃y:Unit,True/\spn c=0/\True) (0<=c/\ ∃y:Unit,True/\spn c=IntKind.wrap .i64 (1* @HPow.hPow Int Nat Int (@instHPow Int Nat (@instPowNat Int @Int.instNatPow)) (2:Int) (@Min.min Nat @instMinNat (Int.toNat c) 64))/\True))
theorem aeS(c:Int):aeR c=wpF Tryz.prog [] tt (noA c) 200 5 113 (yQ.args c) (hO yQ.k (yQ.os c)) (λv h'=>eX yQ.k c v h' yQ.outs):=by kernel_rfl
def aoA(c:Int):Prop:=
 ∃x:Int,True/\(x=c/\True)/\True/\ ∀y:Unit,True->cP (decide (spn x>(0:Int))) (I64 (spn x-1)/\I64 ((spn x-1)*63)/\I64 (28+(spn x-1)*63)/\ ∃y_1:Unit,True/\cpc c=28+(spn x-1)*63/\True) (∃y_1:Unit,True/\cpc c=0/\True)
theorem aj3(c:Int):aoA c=wpF Tryz.prog aj0 tt (noA c) 200 5 115 (amL.args c) (hO amL.k (amL.os c)) (λv h'=>eX amL.k c v h' amL.outs):=by kernel_rfl
def aeT(c:Int):Prop:=
 cP (decide (c<0)) (∃y:Unit,True/\ned c=(-(1:Int))/\True) (∃x:Int,True/\(x=0/\True)/\True/\ ∀y:Unit,True->cP (decide (cpc x>=c)) (∃y_1:Unit,True/\ned c=0/\True) (I64 (1:Int)/\ ∃x_1:Int,True/\(x_1=1/\True)/\True/\ ∀y_1:Unit,True->cP (decide (cpc x_1>=c)) (∃y_2:Unit,True/\ned c=1/\True) (I64 (2:Int)/\ ∃x_2:Int,True/\(x_2=2/\True)/\True/\ ∀y_2:Unit,True->cP (decide (cpc x_2>=c)) (∃y_3:Unit,True/\ned c=2/\True) (I64 (3:Int)/\ ∃x_3:Int,True/\(x_3=3/\True)/\True/\ ∀y_3:Unit,True->cP (decide (cpc x_3>=c)) (∃y_4:Unit,True/\ned c=3/\True) (I64 (4:Int)/\ ∃y_4:Unit,True/\ned c=(-(1:Int))/\True)))))
theorem aeU(c:Int):aeT c=wpF Tryz.prog tblS2 tt (noA c) 200 5 201 (TM.args c) (hO TM.k (TM.os c)) (λv h'=>eX TM.k c v h' TM.outs):=by kernel_rfl
def aeV(c:Int):Prop:=
 cP (decide (c<0)) (aoz c) (cP (decide (c>=(32:Int))) (aoz c) (I64 (c*8)/\I64 (2+c*8)/\ ∃y:Unit,True/\ite (c<0\/32<=c) (-(1:Int)) (2+c*8)=2+c*8/\True))
theorem aeW(c:Int):aeV c=wpF Tryz.prog [] tt (noA c) 200 5 131 (OO.args c) (hO OO.k (OO.os c)) (λv h'=>eX OO.k c v h' OO.outs):=by kernel_rfl
def Jo(c:Int):Prop:=
 cP (decide (c<2)) (∃y:Unit,True/\slb c=(-(1:Int))/\True) (cP (decide (c>=(258:Int))) (∃y:Unit,True/\slb c=(-(1:Int))/\True) (I64 (c-2)/\((8:Int)=0->False)/\I64 (Int.tdiv (c-2) (8:Int))/\ ∃y:Unit,True/\slb c=Int.tdiv (c-2) (8:Int)/\True))
theorem TP(c:Int):Jo c=wpF Tryz.prog [] tt (noA c) 200 5 172 (uP.args c) (hO uP.k (uP.os c)) (λv h'=>eX uP.k c v h' uP.outs):=by kernel_rfl
def Jp(x:uQ):Prop:=
 ∃x_1:Int,True/\(x_1=x.c/\True)/\True/\ ∀y:Unit,True-> ∃x_2:Int,True/\(x_2=(x.k:Int)/\True)/\True/\ ∀y_1:Unit,True->cP (BEq.beq (spn x_1) (0:Int)) (aj1 x.c) (cP (decide (ite (x_2<0\/32<=x_2) (-(1:Int)) (2+x_2*8)<0)) (aj1 x.c) ((spn x_1=0->False)/\I64 (Int.tdiv (8:Int) (spn x_1))/\(∃s:Unit,Hd (spn x.c≠(0:Int))/\True/\((0:Int)=0/\aoy)/\True)/\(∀s:Unit,Hd (spn x.c≠(0:Int))->cP (decide (0<Int.tdiv (8:Int) (spn x_1))) (I64 (0*spn x_1)/\I64 (ite (x_2<0\/32<=x_2) (-(1:Int)) (2+x_2*8)+0*spn x_1)/\(2*(0+1)+1000)*8<=281474976710656/\I64 (1:Int)/\ ∃s_1:Nat,aj2 x.c s_1/\8-s_1<9/\((s_1:Int)=1/\(0=0/\s_1=1)/\True)/\(s_1=0+List.length [List.take 1 [Value.int .i64 (ite (x_2<0\/32<=x_2) (-(1:Int)) (2+x_2*8)+0*spn x_1)]]/\ ∀q:Nat,q<s_1->[Value.int .i64 (2+(x.k:Int)*8+(q:Int)*spn x.c)]=Cs.eff (λ(x_3:Nat)=>[]) [(0,List.take 1 [Value.int .i64 (ite (x_2<0\/32<=x_2) (-(1:Int)) (2+x_2*8)+0*spn x_1)])] q)/\True) (aj1 x.c))/\(∀s:Nat,aj2 x.c s->cP (decide ((s:Int)<Int.tdiv (8:Int) (spn x_1))) (I64 ((s:Int)*spn x_1)/\I64 (ite (x_2<0\/32<=x_2) (-(1:Int)) (2+x_2*8)+(s:Int)*spn x_1)/\s=s/\List.all [List.take 1 [Value.int .i64 (ite (x_2<0\/32<=x_2) (-(1:Int)) (2+x_2*8)+(s:Int)*spn x_1)]] (λ(l:List Value)=>Nat.beq (List.length l) 1&&List.all l Value.oneCell')=true/\(2*(s+1)+1000)*8<=281474976710656/\I64 ((s:Int)+1)/\ ∃s_1:Nat,aj2 x.c s_1/\8-s_1<8-s/\((s_1:Int)=(s:Int)+1/\(0=0/\s_1=s+1)/\True)/\
 (s_1=s+List.length [List.take 1 [Value.int .i64 (ite (x_2<0\/32<=x_2) (-(1:Int)) (2+x_2*8)+(s:Int)*spn x_1)]]/\ ∀q:Nat,q<s_1->[Value.int .i64 (2+(x.k:Int)*8+(q:Int)*spn x.c)]=Cs.eff (λ(i:Nat)=>[Value.int .i64 (2+(x.k:Int)*8+(i:Int)*spn x.c)]) [(s,List.take 1 [Value.int .i64 (ite (x_2<0\/32<=x_2) (-(1:Int)) (2+x_2*8)+(s:Int)*spn x_1)])] q)/\True) ((∃y_2:Unit,Hd (spn x.c=0)/\False/\True)\/ ∃y_2:Unit,Hd (spn x.c≠(0:Int))/\(0=0/\Int.toNat ((8:Int)/spn x.c)=s)/\(Int.toNat ((8:Int)/spn x.c)=s/\ ∀q:Nat,q<Int.toNat ((8:Int)/spn x.c)->[Value.int .i64 (2+(x.k:Int)*8+(q:Int)*spn x.c)]=[Value.int .i64 (2+(x.k:Int)*8+(q:Int)*spn x.c)])/\True))/\True))
theorem TR(x:uQ):Jp x=wpF Tryz.prog tblS3 tt (YA x) 200 5 73 (uS.args x) (hO uS.k (uS.os x)) (λv h'=>eX uS.k x v h' uS.outs):=by kernel_rfl
def aoB(x:aeQ):Prop:=
 (∃s:Nat,Hd (s<=x.n/\ ∀j:Nat,j<s->x.g j≠x.v)/\True/\((s:Int)=0/\True)/\TN x)/\(∀s:Nat,Hd (s<=x.n/\ ∀j:Nat,j<s->x.g j≠x.v)->cP (decide ((s:Int)<(x.n:Int))) ((0<=(s:Int)/\(s:Int)<(x.n:Int))/\0+s<x.n/\cP (BEq.beq x.v (x.g (0+s))) ((∃y:Nat,Hd (y<x.n/\x.g y=x.v/\ ∀j:Nat,j<y->x.g j≠x.v)/\(y:Int)=(s:Int)/\TN x)\/ ∃y:Unit,Hd (∀j:Nat,j<x.n->x.g j≠x.v)/\(-(1:Int))=(s:Int)/\TN x) (I64 ((s:Int)+1)/\ ∃s_1:Nat,Hd (s_1<=x.n/\ ∀j:Nat,j<s_1->x.g j≠x.v)/\x.n-s_1<x.n-s/\((s_1:Int)=(s:Int)+1/\True)/\TN x)) ((∃y:Nat,Hd (y<x.n/\x.g y=x.v/\ ∀j:Nat,j<y->x.g j≠x.v)/\(y:Int)=(-(1:Int))/\TN x)\/ ∃y:Unit,Hd (∀j:Nat,j<x.n->x.g j≠x.v)/\(-(1:Int))=(-(1:Int))/\TN x))/\True
theorem aj6(x:aeQ):aoB x=wpF Tryz.prog [] tt (aq2 x) 200 5 173 (aox.args x) (hO aox.k (aox.os x)) (λv h'=>eX aox.k x v h' aox.outs):=by kernel_rfl
theorem dM(c:Int):(c=0/\spn c=1/\cpc c=28)\/(c=1/\spn c=2/\cpc c=91)\/(c=2/\spn c=4/\cpc c=217)\/(c=3/\spn c=8/\cpc c=469)\/((c<0\/3<c)/\spn c=0/\cpc c=0):=by
 by_cases h0:c=0
 ·subst h0;simp[spn,cpc]
 by_cases h1:c=1
 ·subst h1;simp[spn,cpc]
 by_cases h2:c=2
 ·subst h2;simp[spn,cpc]
 by_cases h3:c=3
 ·subst h3;simp[spn,cpc]
 simp[spn,cpc,h0,h1,h2,h3];omega
theorem TU(c:Int):aeR c:=by
 unfold aeR;simp only[aZ,aV,aU,aA,aI,bT,bF,aO,aK,ay,aX,aW,bU,bH,bI,bJ,bV,bD,bK,bC,eY,aH,aN,ah,ak,aB,aF,aC,aG,pY,decide_eq_true_eq,decide_eq_false_iff_not];refine⟨λh=> ?_,λh=>⟨λh2=> ?_,λh2=>⟨by omega,?_⟩⟩⟩
 ·rcases dM c with h'|h'|h'|h'|h'<;>omega
 ·rcases dM c with h'|h'|h'|h'|h'<;>omega
 ·have:c=0\/c=1\/c=2\/c=3:=by omega
  rcases this with rfl|rfl|rfl|rfl<;>decide
theorem aaE(c:Int):aoA c:=by
 unfold aoA;simp only[aZ,aV,aU,aA,aI,bT,bF,aO,aK,ay,aX,aW,bU,bH,bI,bJ,bV,bD,bK,bC,eY,aH,aN,ah,ak,aB,aF,aC,aG,pY,decide_eq_true_eq,decide_eq_false_iff_not];unfold I64;rcases dM c with h'|h'|h'|h'|h'<;>omega
theorem TV(c:Int):aeT c:=by
 unfold aeT;simp only[aZ,aV,aU,aA,aI,bT,bF,aO,aK,ay,aX,aW,bU,bH,bI,bJ,bV,bD,bK,bC,eY,aH,aN,ah,ak,aB,aF,aC,aG,pY,decide_eq_true_eq,decide_eq_false_iff_not];unfold I64 ned;have e:cpc 0=28/\cpc 1=91/\cpc 2=217/\cpc 3=469:=⟨rfl,rfl,rfl,rfl⟩;obtain⟨e0,e1,e2,e3⟩:=e;rw[e0,e1,e2,e3];grind
theorem TY(c:Int):aeV c:=by
 unfold aeV;simp only[aoz];simp only[aZ,aV,aU,aA,aI,bT,bF,aO,aK,ay,aX,aW,bU,bH,bI,bJ,bV,bD,bK,bC,eY,aH,aN,ah,ak,aB,aF,aC,aG,pY,decide_eq_true_eq,decide_eq_false_iff_not];unfold I64;grind
theorem Jq(c:Int):Jo c:=by
 unfold Jo;simp only[aZ,aV,aU,aA,aI,bT,bF,aO,aK,ay,aX,aW,bU,bH,bI,bJ,bV,bD,bK,bC,eY,aH,aN,ah,ak,aB,aF,aC,aG,pY,decide_eq_true_eq,decide_eq_false_iff_not];refine⟨λh=>by unfold slb;rw[if_pos (by omega)],λh=>⟨λh2=>by unfold slb;rw[if_pos (by omega)],λh2=> ?_⟩⟩;have e:(c-2).tdiv 8=(c-2)/8:=Int.tdiv_eq_ediv_of_nonneg (by omega);rw[e];exact⟨by unfold I64;omega,by decide,by unfold I64;omega,by unfold slb;rw[if_neg (by omega)]⟩
theorem Jr(x:uQ)(hx:x.k<32):Jp x:=by
 unfold Jp;simp only[aj1,aoy,aj2];simp only[aZ,aV,aU,aA,aI,bT,bF,aO,aK,ay,aX,aW,bU,bH,bI,bJ,bV,bD,bK,bC,eY,aH,aN,ah,ak,aB,aF,aC,aG];have hf:(if (x.k:Int)<0\/32<=(x.k:Int)then(-1:Int)else 2+x.k*8)=2+x.k*8:=if_neg (by omega);rw[hf];have hs:=dM x.c;have hdiv:spn x.c≠0->Int.tdiv 8 (spn x.c)=8/spn x.c/\1<=8/spn x.c/\8/spn x.c<=8/\0<spn x.c/\spn x.c<=8/\(8/spn x.c)*spn x.c=8:=λh=>by
  rcases hs with h'|h'|h'|h'|h'<;>obtain⟨_,e,_⟩:=h'<;>rw[e]<;>first|decide|exact(h e).elim
 refine bf (λh=> .inl (by simpa using h)) λh=>bf (λh2=>absurd (aS h2) (by omega)) λ_=> ?_
 have hz:spn x.c≠0:=by simpa using h
 obtain⟨e1,e2,e3,e4,e5,e6⟩:=hdiv hz
 have hm: ∀s:Nat,(s:Int)<=8->(s:Int)*spn x.c<=64/\0<=(s:Int)*spn x.c:=λs hs=>⟨by
  have:=Int.mul_le_mul hs e5 (by omega) (by omega:(0:Int)<=8);omega,Int.mul_nonneg (by omega) (by omega)⟩
 rw[e1];refine⟨hz,by unfold I64;omega,hz,λ_=>bf (λ_=> ?_) λh=>absurd (aT h) (by omega),λs hs=>bf (λh=> ?_) λh=> ?_⟩
 ·refine⟨by unfold I64;omega,by unfold I64;omega,by omega,by unfold I64;omega,1,⟨hz,by omega,by omega⟩,by omega,⟨rfl,rfl⟩,rfl,λq hq=> ?_⟩
  have:q=0:=by omega
  subst this;simp[Cs.eff]
 ·have h:=aS h
  obtain⟨_,h1,h2⟩:=hs;obtain⟨m1,m2⟩:=hm s (by omega);refine⟨by unfold I64;omega,by unfold I64;omega,rfl,by omega,by unfold I64;omega,s+1,⟨hz,by omega,by omega⟩,by omega,⟨by omega,rfl⟩,rfl,λq hq=> ?_⟩;simp only[Cs.eff,bQ,dw,dA,dI,<-Bool.decide_and];by_cases e:q=s
  ·subst e;rw[if_pos rfl];rfl
  ·rw[if_neg e]
 ·have h:=aT h
  exact .inr ⟨hz,by omega⟩
theorem aaF(x:aeQ)(hx:x.n<1000):aoB x:=by
 unfold aoB;simp only[TN];simp only[aZ,aV,aU,aA,aI,bT,bF,aO,aK,ay,aX,aW,bU,bH,bI,bJ,bV,bD,bK,bC,eY,aH,aN,ah,ak,aB,aF,aC,aG];refine⟨⟨0,⟨Nat.zero_le _,λj hj=>absurd hj (Nat.not_lt_zero j)⟩,Int.natCast_zero⟩,λs hs=>bf (λh=> ?_) λh=> ?_⟩
 ·have h:=aS h
  refine⟨by omega,by omega,bf (λe=> .inl ⟨s,⟨by omega,(beq_iff_eq.1 e).symm,hs.2⟩,rfl⟩) λe=>⟨by unfold I64;omega,s+1,⟨by omega,λj hj=> ?_⟩,by omega,by omega⟩⟩;by_cases e':j=s
  ·subst e';intro h';simp[h']at e
  ·exact hs.2 j (by omega)
 ·have h:=aT h
  exact .inr λj hj=>hs.2 j (by omega)
theorem mO:bZ Tryz.prog 113 yQ:=dR dF mixed dX.nil noA 200 5 (λ_=>rfl) (λ_=>rfl) λx _=>Eq.mp (aeS x) (TU x)
theorem amM:bZ Tryz.prog 115 amL:=dR dF mixed (.cons (bP mO) .nil) noA 200 5 (λ_=>rfl) (λ_=>rfl) λx _=>Eq.mp (aj3 x) (aaE x)
theorem aeX:bZ Tryz.prog 201 TM:=dR dF mixed (.cons (bP amM) .nil) noA 200 5 (λ_=>rfl) (λ_=>rfl) λx _=>Eq.mp (aeU x) (TV x)
theorem aeY:bZ Tryz.prog 131 OO:=dR dF mixed dX.nil noA 200 5 (λ_=>rfl) (λ_=>rfl) λx _=>Eq.mp (aeW x) (TY x)
theorem aeZ:bZ Tryz.prog 172 uP:=dR dF mixed dX.nil noA 200 5 (λ_=>rfl) (λ_=>rfl) λx _=>Eq.mp (TP x) (Jq x)
theorem ae0:bZ Tryz.prog 73 uS:=jk dF mixed (.cons (bP mO) (.cons (bP aeY) .nil)) YA 200 5 (λ_=>rfl) (λ_=>⟨λ_=>rfl,λ_=>rfl,trivial⟩) λx hx=>Eq.mp (TR x) (Jr x (aZ.1 hx))
theorem aq3:bZ Tryz.prog 173 aox:=jk dF mixed .nil aq2 200 5 (λ_=>rfl) (λ_=>⟨λ_=>rfl,λ_=>rfl,trivial⟩) λx hx=>Eq.mp (aj6 x) (aaF x (aZ.1 hx))
structure ZPool where
 n:Nat
 cls:Nat->Int
 tk:Nat->Nat->Bool
 cnt:Nat->Int
noncomputable def gQ(p:ZPool)(q:Nat):List Value:=hide [if q%10=0 then .int .i64 (p.cls (q/10))else if q%10=9 then .int .i64 (p.cnt (q/10))else .bool (p.tk (q/10) (q%10-1))]
theorem kH(p:ZPool)(q:Nat):gQ p q=[if q%10=0 then .int .i64 (p.cls (q/10))else if q%10=9 then .int .i64 (p.cnt (q/10))else .bool (p.tk (q/10) (q%10-1))]:=iG _
namespace ZPool
def ok(p:ZPool):Prop:=1<=p.n/\p.n<=32/\ ∀i,i<p.n-> -1<=p.cls i/\p.cls i<=3/\0<=p.cnt i/\p.cnt i<=8
noncomputable def Ua(p:ZPool):dB:= .cells 177 (.row 1 (p.n*10) (gQ p) [])
noncomputable def os(p:ZPool):List dB:=[.cells 245 (.av [.slE 1 0 10 p.n p.n]),p.Ua]
def many(c:Int):Nat:=(8/spn c).toNat
def full(p:ZPool)(c:Int)(i:Nat):Prop:=p.cls i=c-> ∀k,k<many c->p.tk i k=true
def takes(p:ZPool)(c:Int)(i k:Nat):Prop:=i<p.n/\k<many c/\p.tk i k=(if p.cls i=c then false else p.tk i k)/\
 ((p.cls i=c/\(∀j,j<k->p.tk i j=true)/\ ∀j,j<i->p.full c j)\/(p.cls i= -1/\k=0/\(∀j,j<p.n->p.full c j)/\ ∀j,j<i->p.cls j≠ -1))
def take(p:ZPool)(c:Int)(i k:Nat):ZPool:={p with cls:=λj=>if j=i then c else p.cls j,tk:=λj q=>if j=i/\q=k then true else p.tk j q,cnt:=λj=>if j=i then p.cnt j+1 else p.cnt j}
def give(p:ZPool)(i k:Nat):ZPool:={p with cls:=λj=>if j=i/\p.cnt j=1 then-1 else p.cls j,tk:=λj q=>if j=i/\q=k then false else p.tk j q,cnt:=λj=>if j=i then p.cnt j-1 else p.cnt j}
end ZPool
def gy(n i:Nat):ZPool:=⟨n,λj=>if j<i then-1 else 0,λ_ _=>false,λ_=>0⟩
noncomputable def amN(n:Nat):FuncId->qA:=λf=>bif Nat.beq f 82 then(λb _ _=>bif Nat.beq b 0 then [
 {σ:=Nat,fr:=λi=>[(22,i64 i)],ob:=λi=>[(0,some (gy n i).Ua)],inv:=λi=>i<=n,meas:=λi=>n-i}]else [])elseλ_ _ _=>[]
structure xB where
 p:ZPool
 i:Nat
noncomputable def Ub:Ctr:={X:=xB,args:=λx=>[.ni 0 x.i 10 0],k:=1,os:=λx=>[x.p.Ua],pre:=λx=>Hd (x.p.ok/\x.i<x.p.n/\0<=x.p.cls x.i),outs:=[
 {Y:=Nat,post:=λx k=>Hd (k<ZPool.many (x.p.cls x.i)/\x.p.tk x.i k=false/\ ∀j,j<k->x.p.tk x.i j=true),ret:=λ_ k=>i64 k,m:=1,os:=λx _=>[x.p.Ua]},
 {Y:=Unit,post:=λx _=>Hd (∀k,k<ZPool.many (x.p.cls x.i)->x.p.tk x.i k=true),ret:=λ_ _=>i64 (-1),m:=1,os:=λx _=>[x.p.Ua]}]}
noncomputable def amO(x:xB):FuncId->qA:=λf=>bif Nat.beq f 276 then(λb _ _=>bif Nat.beq b 0 then [
 {σ:=Nat,fr:=λk=>[(10,i64 k)],ob:=λ_=>[],inv:=λk=>Hd (k<=ZPool.many (x.p.cls x.i)/\ ∀j,j<k->x.p.tk x.i j=true),meas:=λk=>8-k}]else [])elseλ_ _ _=>[]
structure lu where
 p:ZPool
 c:Int
noncomputable def ae1:jE:={X:=lu,args:=λx=>[.ptr 0 0,i64 x.c],k:=1,l:=λx=>[.m x.p.os],pre:=λx=>Hd x.p.ok,outs:=[
 {Y:=Unit,post:=λx _=>Hd (spn x.c=0),ret:=λ_ _=> .tup [i64 0,i64 1],m:=1,l:=λx _=>[.m x.p.os]},
 {Y:=Unit,post:=λx _=>Hd (spn x.c≠0/\ ∀i,i<x.p.n->x.p.cls i≠ -1/\x.p.full x.c i),ret:=λ_ _=> .tup [i64 0,i64 4],m:=1,l:=λx _=>[.m x.p.os]},
 {Y:=Nat×Nat,post:=λx y=>Hd (spn x.c≠0/\x.p.takes x.c y.1 y.2),ret:=λx y=> .tup [i64 (2+y.1*8+y.2*spn x.c),i64 0],m:=1,l:=λx y=>[.m (x.p.take x.c y.1 y.2).os]}]}
noncomputable def amP(x:lu):FuncId->qA:=λf=>bif Nat.beq f 242 then(λb _ _=>
 bif Nat.beq b 0 then [{σ:=Nat,fr:=λi=>[(14,i64 i)],ob:=λ_=>[],inv:=λi=>Hd (i<=x.p.n/\ ∀j,j<i->x.p.full x.c j),meas:=λi=>x.p.n-i}]else
 bif Nat.beq b 2 then [{σ:=Nat,fr:=λi=>[(39,i64 i)],ob:=λ_=>[],inv:=λi=>Hd (i<=x.p.n/\(∀j,j<x.p.n->x.p.full x.c j)/\ ∀j,j<i->x.p.cls j≠ -1),meas:=λi=>x.p.n-i}]else [])elseλ_ _ _=>[]
noncomputable def Uc:Ctr:={X:=lu,args:=λx=>[.ptr 0 0,i64 x.c],k:=2,os:=λx=>x.p.os,pre:=λx=>Hd (x.p.ok/\spn x.c≠0),outs:=[
 {Y:=Unit,post:=λx _=>Hd (∀i,i<x.p.n->x.p.cls i≠ -1/\x.p.full x.c i),ret:=λ_ _=> .tup [i64 0,i64 0,boo false],m:=2,os:=λx _=>x.p.os},
 {Y:=Nat×Nat,post:=λx y=>Hd (x.p.takes x.c y.1 y.2),ret:=λ_ y=> .tup [i64 y.1,i64 y.2,boo true],m:=2,os:=λx _=>x.p.os}]}
structure DN where
 p:ZPool
 c:Int
 i:Nat
 k:Nat
noncomputable def DR:Ctr:=det DN (λx=>[.ni 0 x.i 10 0,i64 x.c,i64 x.k]) 1 (λx=>[x.p.Ua]) (λx=>Hd (x.p.ok/\x.i<x.p.n/\x.k<8)) (λ_=> .tup []) 1 (λx=>[(x.p.take x.c x.i x.k).Ua])
structure fM where
 p:ZPool
 i:Nat
 k:Nat
def fM.ok(x:fM):Prop:=x.p.ok/\x.i<x.p.n/\0<=x.p.cls x.i/\x.k<ZPool.many (x.p.cls x.i)/\x.p.tk x.i x.k=true
def fM.line(x:fM):Int:=2+x.i*8+x.k*spn (x.p.cls x.i)
noncomputable def atC:Ctr:=det fM (λx=>[.ptr 0 0,i64 x.line]) 2 (λx=>x.p.os) (λx=>Hd x.ok) (λx=> .tup [.ni 1 x.i 10 0,i64 x.k,boo true]) 2 (λx=>x.p.os)
noncomputable def ae2:jE:=qE fM (λx=>[.ptr 0 0,i64 x.line]) 1 (λx=>[.m x.p.os]) (λx=>Hd x.ok) (λ_=>i64 0) 1 (λx=>[.m (x.p.give x.i x.k).os])
noncomputable def ofP:jE:=qE fM (λx=>[.ptr 0 0,i64 x.line]) 1 (λx=>[.m x.p.os]) (λx=>Hd x.ok) (λx=> .tup [i64 (x.p.cls x.i),boo true]) 1 (λx=>[.m x.p.os])
noncomputable def tblP0:jf:=[(276,ctrT Ub)]
noncomputable def tblP1:jf:=[(113,ctrT yQ),(131,ctrT OO),(242,ctrT Uc),(243,ctrT DR)]
noncomputable def tblP2:jf:=[(113,ctrT yQ),(172,ctrT uP),(73,ctrT uS),(173,ctrT aox)]
noncomputable def aq4:jf:=[(116,ctrT atC)]
def xC(a:Nat)(b:Nat):Prop:=(0=0/\a=b/\a=b)/\True
def aj7(a:Int)(b:fM)(c:fM)(d:Int):Prop:=cP (BEq.beq a (0:Int)) (b.i*10+0<b.p.n*10/\ ∃y_1:Unit,True/\(0:Int)=0/\xC c.p.n b.p.n/\(c.p.n*10=b.p.n*10/\ ∀q:Nat,q<c.p.n*10->Cs.eff (gQ (c.p.give c.i c.k)) [] q=Cs.eff (gQ b.p) [(b.i*10+0,[Value.int .i64 (-(1:Int))]),(b.i*10+9,[Value.int .i64 (d-1)]),(b.i*10+(1+b.k*1),[Value.bool false])] q)/\True) (∃y_1:Unit,True/\(0:Int)=0/\xC c.p.n b.p.n/\(c.p.n*10=b.p.n*10/\ ∀q:Nat,q<c.p.n*10->Cs.eff (gQ (c.p.give c.i c.k)) [] q=Cs.eff (gQ b.p) [(b.i*10+9,[Value.int .i64 (d-1)]),(b.i*10+(1+b.k*1),[Value.bool false])] q)/\True)
def aoC(a:Int)(b:fM)(c:fM):Prop:=I64 (a-1)/\b.i*10+9<b.p.n*10/\b.i*10+9<b.p.n*10/\cP (Nat.beq (b.i*10+9) (b.i*10+9)) (∃z_1:Int,some (Value.int .i64 (a-1))=some (Value.int .i64 z_1)/\aj7 z_1 b c a) (cP (Nat.beq (b.i*10+9) (b.i*10+(1+b.k*1))) (∃z_1:Int,some (Value.bool false)=some (Value.int .i64 z_1)/\aj7 z_1 b c a) (∃z_1:Int,getElem? (gQ b.p (b.i*10+9)) 0=some (Value.int .i64 z_1)/\aj7 z_1 b c a))
def xE(a:ZPool):Prop:=a.n*10=a.n*10/\ ∀q:Nat,q<a.n*10->Cs.eff (gQ a) [] q=Cs.eff (gQ a) [] q
def FY(a:ZPool)(b:ZPool):Prop:=a.n*10=b.n*10/\ ∀q:Nat,q<a.n*10->Cs.eff (gQ a) [] q=Cs.eff (gQ b) [] q
def YB(a:Int)(b:DN):Prop:=I64 (a+1)/\b.i*10+9<b.p.n*10/\ ∃y:Unit,True/\True/\(b.p.n*10=b.p.n*10/\ ∀q:Nat,q<b.p.n*10->Cs.eff (gQ (b.p.take b.c b.i b.k)) [] q=Cs.eff (gQ b.p) [(b.i*10+9,[Value.int .i64 (a+1)]),(b.i*10+(1+b.k*1),[Value.bool true]),(b.i*10+0,[Value.int .i64 b.c])] q)/\True
def nP(a:Nat):Prop:=(0=0/\a=a/\a=a)/\True
def qc(a:ZPool):Prop:=nP a.n/\xE a/\True
def xG(a:ZPool)(b:ZPool):Prop:=xC a.n b.n/\FY a b/\True
def YC(a:Nat)(b:lu):Prop:=Hd (a<=b.p.n/\(∀j:Nat,j<b.p.n->b.p.full b.c j)/\ ∀j:Nat,j<a->b.p.cls j≠(-(1:Int)))
def Ho(a:lu):Prop:=Hd (∀i:Nat,i<a.p.n->a.p.cls i≠(-(1:Int))/\a.p.full a.c i)
def OQ(a:ZPool):Prop:=xE a/\nP a.n/\True
def YD(a:lu):Prop:=Hd (spn a.c≠(0:Int)/\ ∀i:Nat,i<a.p.n->a.p.cls i≠(-(1:Int))/\a.p.full a.c i)
def OT(a:Nat)(b:xB):Prop:=Hd (a<ZPool.many (b.p.cls b.i)/\b.p.tk b.i a=false/\ ∀j:Nat,j<a->b.p.tk b.i j=true)
def YE(a:Nat)(b:xB):Prop:=Hd (a<=ZPool.many (b.p.cls b.i)/\ ∀j:Nat,j<a->b.p.tk b.i j=true)
def OU(a:Nat)(b:lu):Prop:=Hd (a<=b.p.n/\ ∀j:Nat,j<a->b.p.full b.c j)
def OV(a:xB):Prop:=Hd (∀k:Nat,k<ZPool.many (a.p.cls a.i)->a.p.tk a.i k=true)
def ae3(a:ZPool)(b:Nat)(c:DN):Prop:=xC a.n b/\(a.n*10=c.p.n*10/\ ∀q:Nat,q<a.n*10->Cs.eff (gQ a) [] q=Cs.eff (gQ (c.p.take c.c c.i c.k)) [] q)/\True
def xH(a:Nat):Prop:=0<=(a:Int)/\(a:Int)<8
def YF:Prop:= ∃y:Unit,True/\(False/\(0:Int)=2/\True)/\False/\False/\True
def xI(a:Nat)(b:Nat):Prop:=(a:Int)=(b:Int)+1/\True
def ae4(a:fM):Prop:= ∃y_1:Unit,True/\(False/\(a.k:Int)=0/\true=false/\True)/\qc a.p
def ae5(n:Nat):Prop:=
 cP (decide ((n:Int)<1)) YF (I64 (256:Int)/\((8:Int)=0->False)/\I64 (32:Int)/\cP (decide ((n:Int)>(32:Int))) YF ((0<=(n:Int)/\(n:Int)<=(n:Int)/\24*(n:Int)<=281474976710656/\(n:Int)<4611686018427387904)/\(∃s:Nat,s<=n/\True/\((s:Int)=0/\True)/\nP n/\(n*10=n*10/\ ∀q:Nat,∀j:Nat,q<n->j<10-> ∃v:Value,getElem? [Value.int .i64 0,Value.bool false,Value.bool false,Value.bool false,Value.bool false,Value.bool false,Value.bool false,Value.bool false,Value.bool false,Value.int .i64 0] j=some v/\Cs.eff (gQ (gy n s)) [] (q*10+j)=[v])/\True)/\(∀s:Nat,s<=n->cP (decide ((s:Int)<(n:Int))) ((0<=(s:Int)/\(s:Int)<(n:Int))/\(0+s)*10+0<n*10/\I64 ((s:Int)+1)/\ ∃s_1:Nat,s_1<=n/\n-s_1<n-s/\xI s_1 s/\nP n/\(n*10=n*10/\ ∀q:Nat,q<n*10->Cs.eff (gQ (gy n s_1)) [] q=Cs.eff (gQ (gy n s)) [((0+s)*10+0,[Value.int .i64 (-(1:Int))])] q)/\True) (∃y:Unit,True/\(0=0/\(0:Int)=0/\True)/\nP n/\(n*10=n*10/\ ∀q:Nat,q<n*10->Cs.eff (gQ (gy n n)) [] q=Cs.eff (gQ (gy n s)) [] q)/\True))/\True))
def ae6(x:xB):Prop:=
 x.i*10+0<x.p.n*10/\ ∃z:Int,getElem? (gQ x.p (x.i*10+0)) 0=some (Value.int .i64 z)/\ ∃x_1:Int,True/\(x_1=z/\True)/\True/\ ∀y:Unit,True->(spn x_1=0->False)/\I64 (Int.tdiv (8:Int) (spn x_1))/\(∃s:Nat,YE s x/\True/\((s:Int)=0/\True)/\xE x.p/\True)/\(∀s:Nat,YE s x->cP (decide ((s:Int)<Int.tdiv (8:Int) (spn x_1))) (xH s/\x.i*10+(1+s*1)<x.p.n*10/\ ∃b:Bool,getElem? (gQ x.p (x.i*10+(1+s*1))) 0=some (Value.bool b)/\cP (Bool.not b) ((∃y_1:Nat,OT y_1 x/\(y_1:Int)=(s:Int)/\xE x.p/\True)\/ ∃y_1:Unit,OV x/\(-(1:Int))=(s:Int)/\xE x.p/\True) (I64 ((s:Int)+1)/\ ∃s_1:Nat,YE s_1 x/\8-s_1<8-s/\xI s_1 s/\xE x.p/\True)) ((∃y_1:Nat,OT y_1 x/\(y_1:Int)=(-(1:Int))/\xE x.p/\True)\/ ∃y_1:Unit,OV x/\(-(1:Int))=(-(1:Int))/\xE x.p/\True))/\True
theorem ae7(x:xB):ae6 x=wpF Tryz.prog aj0 tt (amO x) 200 5 276 (Ub.args x) (hO Ub.k (Ub.os x)) (λv h'=>eX Ub.k x v h' Ub.outs):=by kernel_rfl
def ae8(x:lu):Prop:=
 (∃s:Nat,OU s x/\True/\((s:Int)=0/\True)/\OQ x.p)/\(∀s:Nat,OU s x->cP (decide ((s:Int)<(x.p.n:Int))) ((0<=(s:Int)/\(s:Int)<(x.p.n:Int))/\(0+s)*10+0<x.p.n*10/\ ∃z:Int,getElem? (gQ x.p ((0+s)*10+0)) 0=some (Value.int .i64 z)/\cP (BEq.beq z x.c) (∃x_1:xB,Hd (x_1.p.ok/\x_1.i<x_1.p.n/\0<=x_1.p.cls x_1.i)/\((x_1.i=0+s/\0=0)/\True)/\(FY x_1.p x.p/\True)/\(∀y:Nat,OT y x_1->(∃y_1:Unit,Ho x/\(0=(s:Int)/\0=(y:Int)/\false=true/\True)/\nP x.p.n/\FY x.p x_1.p/\True)\/ ∃y_1:Prod Nat Nat,Hd (x.p.takes x.c y_1.1 y_1.2)/\((y_1.1:Int)=(s:Int)/\(y_1.2:Int)=(y:Int)/\true=true/\True)/\nP x.p.n/\FY x.p x_1.p/\True)/\ ∀y:Unit,OV x_1->I64 ((s:Int)+1)/\ ∃s_1:Nat,OU s_1 x/\x.p.n-s_1<x.p.n-s/\xI s_1 s/\FY x.p x_1.p/\nP x.p.n/\True) (I64 ((s:Int)+1)/\ ∃s_1:Nat,OU s_1 x/\x.p.n-s_1<x.p.n-s/\xI s_1 s/\OQ x.p)) ((∃s_1:Nat,YC s_1 x/\True/\((s_1:Int)=0/\True)/\OQ x.p)/\(∀s_1:Nat,YC s_1 x->cP (decide ((s_1:Int)<(x.p.n:Int))) ((0<=(s_1:Int)/\(s_1:Int)<(x.p.n:Int))/\(0+s_1)*10+0<x.p.n*10/\ ∃z:Int,getElem? (gQ x.p ((0+s_1)*10+0)) 0=some (Value.int .i64 z)/\cP (BEq.beq z (-(1:Int))) ((∃y:Unit,Ho x/\(0=(s_1:Int)/\(0:Int)=0/\false=true/\True)/\qc x.p)\/ ∃y:Prod Nat Nat,Hd (x.p.takes x.c y.1 y.2)/\((y.1:Int)=(s_1:Int)/\(y.2:Int)=0/\true=true/\True)/\qc x.p) (I64 ((s_1:Int)+1)/\ ∃s_2:Nat,YC s_2 x/\x.p.n-s_2<x.p.n-s_1/\xI s_2 s_1/\OQ x.p)) ((∃y:Unit,Ho x/\((0:Int)=0/\(0:Int)=0/\false=false/\True)/\
 qc x.p)\/ ∃y:Prod Nat Nat,Hd (x.p.takes x.c y.1 y.2)/\((y.1:Int)=0/\(y.2:Int)=0/\true=false/\True)/\qc x.p))/\True))/\True
theorem ae9(x:lu):ae8 x=wpF Tryz.prog tblP0 tt (amP x) 200 5 242 (Uc.args x) (hO Uc.k (Uc.os x)) (λv h'=>eX Uc.k x v h' Uc.outs):=by kernel_rfl
def Ud(x:DN):Prop:=
 x.i*10+0<x.p.n*10/\xH x.k/\x.i*10+(1+x.k*1)<x.p.n*10/\x.i*10+9<x.p.n*10/\cP (Nat.beq (x.i*10+9) (x.i*10+(1+x.k*1))) (∃z:Int,some (Value.bool true)=some (Value.int .i64 z)/\YB z x) (cP (Nat.beq (x.i*10+9) (x.i*10+0)) (∃z:Int,some (Value.int .i64 x.c)=some (Value.int .i64 z)/\YB z x) (∃z:Int,getElem? (gQ x.p (x.i*10+9)) 0=some (Value.int .i64 z)/\YB z x))
theorem aaG(x:DN):Ud x=wpF Tryz.prog [] tt (noA x) 200 5 243 (DR.args x) (hO DR.k (DR.os x)) (λv h'=>eX DR.k x v h' DR.outs):=by kernel_rfl
def afa(x:lu):Prop:=
 ∃x_1:Int,True/\(x_1=x.c/\True)/\True/\ ∀y:Unit,True->cP (BEq.beq (spn x_1) (0:Int)) ((∃y_1:Unit,Hd (spn x.c=0)/\((0:Int)=0/\(1:Int)=1/\True)/\qc x.p)\/(∃y_1:Unit,YD x/\((0:Int)=0/\(4:Int)=1/\True)/\qc x.p)\/ ∃y_1:Prod Nat Nat,Hd (spn x.c≠(0:Int)/\x.p.takes x.c y_1.1 y_1.2)/\(2+(y_1.1:Int)*8+(y_1.2:Int)*spn x.c=0/\(0:Int)=1/\True)/\nP x.p.n/\(x.p.n*10=x.p.n*10/\ ∀q:Nat,q<x.p.n*10->Cs.eff (gQ (x.p.take x.c y_1.1 y_1.2)) [] q=Cs.eff (gQ x.p) [] q)/\True) (∃x_2:lu,Hd (x_2.p.ok/\spn x_2.c≠(0:Int))/\(0=0/\x_2.c=x.c/\True)/\xG x_2.p x.p/\(∀y_1:Unit,Ho x_2->(∃y_2:Unit,Hd (spn x.c=0)/\((0:Int)=0/\(1:Int)=4/\True)/\xG x.p x_2.p)\/(∃y_2:Unit,YD x/\((0:Int)=0/\(4:Int)=4/\True)/\xG x.p x_2.p)\/ ∃y_2:Prod Nat Nat,Hd (spn x.c≠(0:Int)/\x.p.takes x.c y_2.1 y_2.2)/\(2+(y_2.1:Int)*8+(y_2.2:Int)*spn x.c=0/\(0:Int)=4/\True)/\xC x.p.n x_2.p.n/\(x.p.n*10=x_2.p.n*10/\ ∀q:Nat,q<x.p.n*10->Cs.eff (gQ (x.p.take x.c y_2.1 y_2.2)) [] q=Cs.eff (gQ x_2.p) [] q)/\True)/\ ∀y_1:Prod Nat Nat,Hd (x_2.p.takes x_2.c y_1.1 y_1.2)->(0<=(y_1.1:Int)/\(y_1.1:Int)<(x_2.p.n:Int))/\ ∃x_3:DN,Hd (x_3.p.ok/\x_3.i<x_3.p.n/\x_3.k<8)/\((x_3.i=0+y_1.1/\0=0)/\x_3.c=x.c/\(x_3.k:Int)=(y_1.2:Int)/\True)/\(FY x_3.p x_2.p/\True)/\ ∀y_2:Unit,True-> ∃x_4:Int,True/\(x_4=(y_1.1:Int)/\True)/\True/\ ∀y_3:Unit,True-> ∃x_5:Int,True/\(x_5=x.c/\True)/\True/\ ∀y_4:Unit,True->I64 ((y_1.2:Int)*spn x_5)/\I64 (ite (x_4<0\/32<=x_4) (-(1:Int)) (2+x_4*8)+(y_1.2:Int)*spn x_5)/\
 ((∃y_5:Unit,Hd (spn x.c=0)/\(0=ite (x_4<0\/32<=x_4) (-(1:Int)) (2+x_4*8)+(y_1.2:Int)*spn x_5/\(1:Int)=0/\True)/\ae3 x.p x_2.p.n x_3)\/(∃y_5:Unit,YD x/\(0=ite (x_4<0\/32<=x_4) (-(1:Int)) (2+x_4*8)+(y_1.2:Int)*spn x_5/\(4:Int)=0/\True)/\ae3 x.p x_2.p.n x_3)\/ ∃y_5:Prod Nat Nat,Hd (spn x.c≠(0:Int)/\x.p.takes x.c y_5.1 y_5.2)/\(2+(y_5.1:Int)*8+(y_5.2:Int)*spn x.c=ite (x_4<0\/32<=x_4) (-(1:Int)) (2+x_4*8)+(y_1.2:Int)*spn x_5/\(0:Int)=0/\True)/\xC x.p.n x_2.p.n/\(x.p.n*10=x_3.p.n*10/\ ∀q:Nat,q<x.p.n*10->Cs.eff (gQ (x.p.take x.c y_5.1 y_5.2)) [] q=Cs.eff (gQ (x_3.p.take x_3.c x_3.i x_3.k)) [] q)/\True))
theorem afb(x:lu):afa x=wpF Tryz.prog tblP1 tt (noA x) 200 5 202 (ae1.args x) (hO 2 (flatP 1 (ae1.l x))) (λv h'=>endsPK 1 x v h' ae1.outs):=by kernel_rfl
def atVC(x:fM):Prop:=
 ∃x_1:Int,True/\(x_1=x.line/\True)/\True/\ ∀y:Unit,True->cP (decide (slb x_1<0)) (ae4 x) (cP (decide (slb x_1>=(x.p.n:Int))) (ae4 x) ((0<=slb x_1/\slb x_1<(x.p.n:Int))/\(0+Int.toNat (slb x_1))*10+0<x.p.n*10/\ ∃z:Int,getElem? (gQ x.p ((0+Int.toNat (slb x_1))*10+0)) 0=some (Value.int .i64 z)/\ ∃x_2:uQ,Hd (x_2.k<32)/\((x_2.k:Int)=slb x_1/\x_2.c=z/\True)/\True/\(∀y_1:Unit,Hd (spn x_2.c=0)-> ∃x_3:aeQ,Hd (x_3.n<1000)/\(False/\x_3.v=x.line/\True)/\(False/\True)/\(∀y_2:Nat,Hd (y_2<x_3.n/\x_3.g y_2=x_3.v/\ ∀j:Nat,j<y_2->x_3.g j≠x_3.v)->xH y_2/\(0+Int.toNat (slb x_1))*10+(1+y_2*1)<x.p.n*10/\ ∃b:Bool,getElem? (gQ x.p ((0+Int.toNat (slb x_1))*10+(1+y_2*1))) 0=some (Value.bool b)/\ ∃y_3:Unit,True/\((x.i=0+Int.toNat (slb x_1)/\0=0)/\(x.k:Int)=(y_2:Int)/\true=b/\True)/\False/\xE x.p/\True)/\ ∀y_2:Unit,Hd (∀j:Nat,j<x_3.n->x_3.g j≠x_3.v)-> ∃y_3:Unit,True/\((x.i=0+Int.toNat (slb x_1)/\0=0)/\(x.k:Int)=(-(1:Int))/\true=false/\True)/\False/\xE x.p/\True)/\ ∀y_1:Unit,Hd (spn x_2.c≠(0:Int))-> ∃x_3:aeQ,Hd (x_3.n<1000)/\((0=0/\x_3.n=Int.toNat ((8:Int)/spn x_2.c))/\x_3.v=x.line/\True)/\((x_3.n=Int.toNat ((8:Int)/spn x_2.c)/\ ∀q:Nat,q<x_3.n->[Value.int .i64 (x_3.g q)]=[Value.int .i64 (2+(x_2.k:Int)*8+(q:Int)*spn x_2.c)])/\True)/\(∀y_2:Nat,Hd (y_2<x_3.n/\x_3.g y_2=x_3.v/\ ∀j:Nat,j<y_2->x_3.g j≠x_3.v)->xH y_2/\(0+Int.toNat (slb x_1))*10+(1+y_2*1)<x.p.n*10/\ ∃b:Bool,getElem? (gQ x.p ((0+Int.toNat (slb x_1))*10+(1+y_2*1))) 0=some (Value.bool b)/\
 ∃y_3:Unit,True/\((x.i=0+Int.toNat (slb x_1)/\0=0)/\(x.k:Int)=(y_2:Int)/\true=b/\True)/\qc x.p)/\ ∀y_2:Unit,Hd (∀j:Nat,j<x_3.n->x_3.g j≠x_3.v)-> ∃y_3:Unit,True/\((x.i=0+Int.toNat (slb x_1)/\0=0)/\(x.k:Int)=(-(1:Int))/\true=false/\True)/\qc x.p))
theorem aoD(x:fM):atVC x=wpF Tryz.prog tblP2 tt (noA x) 200 5 116 (atC.args x) (hO atC.k (atC.os x)) (λv h'=>eX atC.k x v h' atC.outs):=by kernel_rfl
def afc(x:fM):Prop:=
 ∃x_1:fM,Hd x_1.ok/\(0=0/\x_1.line=x.line/\True)/\xG x_1.p x.p/\ ∀y:Unit,True->xH x_1.k/\x_1.i*10+(1+x_1.k*1)<x_1.p.n*10/\x_1.i*10+9<x_1.p.n*10/\cP (Nat.beq (x_1.i*10+9) (x_1.i*10+(1+x_1.k*1))) (∃z:Int,some (Value.bool false)=some (Value.int .i64 z)/\aoC z x_1 x) (∃z:Int,getElem? (gQ x_1.p (x_1.i*10+9)) 0=some (Value.int .i64 z)/\aoC z x_1 x)
theorem afd(x:fM):afc x=wpF Tryz.prog aq4 tt (noA x) 200 5 65 (ae2.args x) (hO 2 (flatP 1 (ae2.l x))) (λv h'=>endsPK 1 x v h' ae2.outs):=by kernel_rfl
def ofVC(x:fM):Prop:=
 ∃x_1:fM,Hd x_1.ok/\(0=0/\x_1.line=x.line/\True)/\xG x_1.p x.p/\ ∀y:Unit,True->x_1.i*10+0<x_1.p.n*10/\ ∃z:Int,getElem? (gQ x_1.p (x_1.i*10+0)) 0=some (Value.int .i64 z)/\ ∃y_1:Unit,True/\(x.p.cls x.i=z/\true=true/\True)/\xG x.p x_1.p
theorem aoE(x:fM):ofVC x=wpF Tryz.prog aq4 tt (noA x) 200 5 246 (ofP.args x) (hO 2 (flatP 1 (ofP.l x))) (λv h'=>endsPK 1 x v h' ofP.outs):=by kernel_rfl
theorem gG(c:Int):(c=0/\spn c=1/\ZPool.many c=8)\/(c=1/\spn c=2/\ZPool.many c=4)\/(c=2/\spn c=4/\ZPool.many c=2)\/(c=3/\spn c=8/\ZPool.many c=1)\/((c<0\/3<c)/\spn c=0/\ZPool.many c=0):=by
 have:=dM c;unfold ZPool.many;rcases this with h|h|h|h|h<;>obtain⟨h1,h2,_⟩:=h<;>rw[h2]<;>simp[h1]
theorem xJ{c:Int}(h:0<=c/\c<=3):Int.tdiv 8 (spn c)=ZPool.many c/\spn c≠0/\1<=ZPool.many c/\ZPool.many c<=8:=by
 rcases gG c with h'|h'|h'|h'|h'<;>obtain⟨h1,h2,h3⟩:=h'<;>first|(rw[h2,h3];decide)|omega
theorem Ue(n:Nat)(hn:1<=n/\n<=32):ae5 n:=by
 unfold ae5;simp only[YF,nP,xI];simp only[aZ,aV,aU,aA,aI,bT,bF,aO,aK,ay,aX,aW,bU,bH,bI,bJ,bV,bD,bK,bC,eY,aH,aN,ah,ak,aB,aF,aC,aG];refine bf (λh=>absurd (aS h) (by omega)) λ_=>⟨by unfold I64;omega,by decide,by unfold I64;omega,bf (λh=>absurd (aS h) (by omega)) λ_=>⟨by omega,⟨0,by omega,rfl,λq j hq hj=> ?_⟩,λs hs=>bf (λh=> ?_) λh=> ?_⟩⟩
 ·rw[kH,show(q*10+j)%10=j by omega]
  simp only[gy,Nat.not_lt_zero,if_false]
  match j,hj with
  |0,_|1,_|2,_|3,_|4,_|5,_|6,_|7,_|8,_|9,_=>exact⟨_,rfl,rfl⟩
 ·have h:=aS h
  refine⟨by omega,by omega,by unfold I64;omega,s+1,by omega,by omega,by omega,λq hq=> ?_⟩;simp only[Cs.eff,bQ,dw,dA,dI,<-Bool.decide_and,kH,gy];grind
 ·have:s=n:=by have:=aT h;omega
  subst this;exactλq _=>rfl
theorem Uf(x:xB)(hx:x.p.ok/\x.i<x.p.n/\0<=x.p.cls x.i):ae6 x:=by
 obtain⟨⟨h1,h2,h3⟩,hi,hc⟩:=hx;obtain⟨m1,m2,m3,m4⟩:=xJ ⟨hc,(h3 _ hi).2.1⟩;unfold ae6;simp only[YE,xE,xH,OT,OV,xI];simp only[aZ,aV,aU,aA,aI,bT,bF,aO,aK,ay,aX,aW,bU,bH,bI,bJ,bV,bD,bK,bC,eY,aH,aN,ah,ak,aB,aF,aC,aG];refine⟨by omega,x.p.cls x.i,?_,m2,by rw[m1];unfold I64;omega,⟨0,⟨Nat.zero_le _,λj hj=>absurd hj (Nat.not_lt_zero j)⟩,Int.natCast_zero⟩,λs hs=> ?_⟩
 ·rw[kH,show x.i*10%10=0 by omega,show x.i*10/10=x.i by omega];rfl
 rw[m1];refine bf (λh=> ?_) λh=> ?_
 ·have h:=aS h
  refine⟨by omega,by omega,x.p.tk x.i s,?_,bf (λhb=> .inl ⟨s,⟨by omega,by simpa using hb,hs.2⟩,rfl⟩) λhb=>⟨by unfold I64;omega,s+1,⟨by omega,λj hj=> ?_⟩,by omega,by omega⟩⟩
  ·rw[kH]
   simp only[show(x.i*10+(1+s*1))%10=1+s by omega,show(x.i*10+(1+s*1))/10=x.i by omega];rw[if_neg (by omega),if_neg (by omega),show 1+s-1=s by omega];rfl
  ·by_cases e:j=s
   ·subst e;simpa using hb
   ·exact hs.2 j (by omega)
 ·have h:=aT h
  exact .inr λk hk=>hs.2 k (by omega)
theorem BN(p:ZPool)(i:Nat):gQ p (i*10)=[.int .i64 (p.cls i)]:=by
 rw[kH,show i*10%10=0 by omega,show i*10/10=i by omega];rfl
theorem YG(p:ZPool)(i:Nat):gQ p (i*10+9)=[.int .i64 (p.cnt i)]:=by
 rw[kH,show(i*10+9)%10=9 by omega,show(i*10+9)/10=i by omega];rfl
theorem aoF(p:ZPool)(i k:Nat)(h:k<8):gQ p (i*10+(1+k*1))=[.bool (p.tk i k)]:=by
 rw[kH];simp only[show(i*10+(1+k*1))%10=1+k by omega,show(i*10+(1+k*1))/10=i by omega];rw[if_neg (by omega),if_neg (by omega),show 1+k-1=k by omega]
theorem Ug(x:lu)(hx:x.p.ok/\spn x.c≠0):ae8 x:=by
 obtain⟨⟨h1,h2,h3⟩,hz⟩:=hx;have hcc:0<=x.c/\x.c<=3:=by rcases dM x.c with h|h|h|h|h<;>omega
 obtain⟨m1,m2,m3,m4⟩:=xJ hcc;unfold ae8;simp only[OU,OQ,FY,OT,Ho,nP,OV,xI,YC,qc,xE];simp only[aZ,aV,aU,aA,aI,bT,bF,aO,aK,ay,aX,aW,bU,bH,bI,bJ,bV,bD,bK,bC,eY,aH,aN,ah,ak,aB,aF,aC,aG];refine⟨⟨0,⟨Nat.zero_le _,λj hj=>absurd hj (Nat.not_lt_zero j)⟩,Int.natCast_zero⟩,λs hs=>bf (λh=> ?_) λh=>⟨⟨0,⟨Nat.zero_le _,λj hj=>hs.2 j (by have:=aT h;omega),λj hj=>absurd hj (Nat.not_lt_zero j)⟩,Int.natCast_zero⟩,λt ht=>bf (λh2=> ?_) λh2=> ?_⟩⟩
 ·have h:=aS h
  refine⟨by omega,by omega,x.p.cls s,by rw[BN];rfl,bf (λhe=> ?_) λhe=>⟨by unfold I64;omega,s+1,⟨by omega,λj hj=> ?_⟩,by omega,by omega⟩⟩
  ·have he:=beq_iff_eq.1 he
   refine⟨⟨x.p,s⟩,⟨⟨h1,h2,h3⟩,(show s<x.p.n by omega),(show 0<=x.p.cls s by omega)⟩,rfl,⟨rfl,λ_ _=>rfl⟩,λy hy=> .inr ⟨(s,y),?_,⟨rfl,rfl⟩,rfl,λ_ _=>rfl⟩,λhall=>⟨by unfold I64;omega,s+1,⟨by omega,λj hj=> ?_⟩,by omega,by omega,rfl,λ_ _=>rfl⟩⟩
   ·obtain⟨y1,y2,y3⟩:=hy
    simp only[he]at y1;exact⟨by show s<x.p.n;omega,y1,by show x.p.tk s y=_;rw[if_pos he];exact y2,.inl ⟨he,y3,hs.2⟩⟩
   ·by_cases e:j=s
    ·subst e;intro _ k hk;exact hall k (by simp only[he];exact hk)
    ·exact hs.2 j (by omega)
  ·by_cases e:j=s
   ·subst e;intro h';simp[h']at he
   ·exact hs.2 j (by omega)
 ·have h2:=aS h2
  refine⟨by omega,by omega,x.p.cls t,by rw[BN];rfl,bf (λhe=> ?_) λhe=>⟨by unfold I64;omega,t+1,⟨by omega,ht.2.1,λj hj=> ?_⟩,by omega,by omega⟩⟩
  ·have he:=beq_iff_eq.1 he
   exact .inr ⟨(t,0),⟨by show t<x.p.n;omega,m3,by show x.p.tk t 0=_;rw[if_neg (by show¬x.p.cls t=x.c;omega)],.inr ⟨he,rfl,ht.2.1,ht.2.2⟩⟩,rfl,rfl⟩
  ·by_cases e:j=t
   ·subst e;intro h';simp[h']at he
   ·exact ht.2.2 j (by omega)
 ·have h2:=aT h2
  exact .inl λi hi=>⟨ht.2.2 i (by omega),ht.2.1 i hi⟩
theorem OW(x:DN)(hx:x.p.ok/\x.i<x.p.n/\x.k<8):Ud x:=by
 obtain⟨⟨h1,h2,h3⟩,hi,hk⟩:=hx;have:=h3 _ hi;unfold Ud;simp only[xH,YB];simp only[aZ,aV,aU,aA,aI,bT,bF,aO,aK,ay,aX,aW,bU,bH,bI,bJ,bV,bD,bK,bC,eY,aH,aN,ah,ak,aB,aF,aC,aG];refine⟨by omega,by omega,by omega,by omega,bf (λh=> ?_) λ_=>bf (λh=> ?_) λ_=>⟨x.p.cnt x.i,by rw[YG];rfl,by unfold I64;omega,by omega,λq hq=> ?_⟩⟩
 ·have:=au h;omega
 ·have:=au h;omega
 ·simp only[Cs.eff,bQ,dw,dA,dI,<-Bool.decide_and,kH,ZPool.take];grind (splits:=30)
theorem Uh(x:lu)(hx:x.p.ok):afa x:=by
 unfold afa;simp only[qc,YD,nP,xG,Ho,xC,FY,ae3,xE];simp only[aZ,aV,aU,aA,aI,bT,bF,aO,aK,ay,aX,aW,bU,bH,bI,bJ,bV,bD,bK,bC,eY,aH,aN,ah,ak,aB,aF,aC,aG];refine bf (λh=> .inl (by simpa using h)) λh=> ?_
 have hz:spn x.c≠0:=by simpa using h
 have hcc:0<=x.c/\x.c<=3:=by rcases dM x.c with h|h|h|h|h<;>omega
 obtain⟨m1,m2,m3,m4⟩:=xJ hcc;obtain⟨h1,h2,h3⟩:=id hx;refine⟨x,⟨hx,hz⟩,rfl,⟨rfl,rfl,λ_ _=>rfl⟩,λhf=> .inr (.inl ⟨⟨hz,hf⟩,rfl,rfl,λ_ _=>rfl⟩),λy hy=> ?_⟩;obtain⟨i,k⟩:=y;obtain⟨t1,t2,t3⟩:=id hy;simp only at t1 t2 ⊢;have hsl:(if (i:Int)<0\/32<=(i:Int)then(-1:Int)else 2+i*8)=2+i*8:=if_neg (by omega);have hks:0<=(k:Int)*spn x.c/\(k:Int)*spn x.c<=64:=by
  have hs:0<=spn x.c/\spn x.c<=8:=by rcases dM x.c with h|h|h|h|h<;>omega
  exact⟨Int.mul_nonneg (by omega) hs.1,by have:=Int.mul_le_mul (show(k:Int)<=8 by omega) hs.2 hs.1 (by omega:(0:Int)<=8);omega⟩
 rw[hsl];refine⟨by omega,⟨x.p,x.c,i,k⟩,⟨hx,t1,(show k<8 by omega)⟩,⟨rfl,rfl,rfl⟩,⟨rfl,λ_ _=>rfl⟩,by unfold I64;omega,by unfold I64;omega,.inr (.inr ⟨(i,k),⟨hz,hy⟩,?_⟩)⟩;simp
theorem aj8{x:fM}(hx:x.ok):slb x.line=x.i/\2<=x.line/\x.line<258:=by
 obtain⟨⟨h1,h2,h3⟩,hi,hc,hk,ht⟩:=hx;unfold slb fM.line;rcases gG (x.p.cls x.i)with h|h|h|h|h<;>obtain⟨e1,e2,e3⟩:=h<;>rw[e2]<;>rw[e3]at hk<;>first|omega|(rw[if_neg (by omega)];omega)
theorem afe(x:fM)(hx:x.ok):atVC x:=by
 obtain⟨l1,l2,l3⟩:=aj8 hx;obtain⟨⟨h1,h2,h3⟩,hi,hc,hk,ht⟩:=id hx;obtain⟨m1,m2,m3,m4⟩:=xJ ⟨hc,(h3 _ hi).2.1⟩;have h8:(8/spn (x.p.cls x.i)).toNat=ZPool.many (x.p.cls x.i):=rfl;have hs:0<spn (x.p.cls x.i):=by rcases gG (x.p.cls x.i)with h|h|h|h|h<;>omega
 have hl:x.line=2+x.i*8+x.k*spn (x.p.cls x.i):=rfl;have inj: ∀j:Nat,2+(x.i:Int)*8+(j:Int)*spn (x.p.cls x.i)=x.line->j=x.k:=λj hj=>by
  have:(j:Int)*spn (x.p.cls x.i)=(x.k:Int)*spn (x.p.cls x.i):=by omega
  have:=Int.eq_of_mul_eq_mul_right (by omega) this;omega
 unfold atVC;simp only[ae4,xH,xE,qc,nP];simp only[aZ,aV,aU,aA,aI,bT,bF,aO,aK,ay,aX,aW,bU,bH,bI,bJ,bV,bD,bK,bC,eY,aH,aN,ah,ak,aB,aF,aC,aG,l1];refine bf (λh=>absurd (aS h) (by omega)) λ_=>bf (λh=>absurd (aS h) (by omega)) λ_=>⟨by omega,by omega,x.p.cls x.i,by rw[BN];rfl,⟨x.i,x.p.cls x.i⟩,(show x.i<32 by omega),⟨rfl,rfl⟩,λh=>absurd h m2,λ_=>⟨⟨λq=>2+(x.i:Int)*8+q*spn (x.p.cls x.i),ZPool.many (x.p.cls x.i),x.line⟩,(show ZPool.many (x.p.cls x.i)<1000 by omega),⟨rfl,rfl⟩,⟨rfl,λ_ _=>rfl⟩,λy hy=> ?_,λhno=>absurd hl.symm (hno x.k hk)⟩⟩
 obtain⟨y1,y2,_⟩:=hy;have:=inj y y2;subst this;exact⟨by omega,by omega,true,by rw[aoF _ _ _ (by omega),ht];rfl,rfl,rfl⟩
theorem Ui(x:fM)(hx:x.ok):afc x:=by
 obtain⟨⟨h1,h2,h3⟩,hi,hc,hk,ht⟩:=id hx;obtain⟨m1,m2,m3,m4⟩:=xJ ⟨hc,(h3 _ hi).2.1⟩;have:=h3 _ hi;have n1:(x.i*10+9).beq (x.i*10+(1+x.k*1))=false:=eP (by omega);unfold afc;simp only[xG,xH,aoC,aj7,xC,FY];simp only[aZ,aV,aU,aA,aI,bT,bF,aO,aK,ay,aX,aW,bU,bH,bI,bJ,bV,bD,bK,bC,eY,aH,aN,ah,ak,aB,aF,aC,aG];refine⟨x,hx,rfl,⟨rfl,rfl,λ_ _=>rfl⟩,?_⟩;simp only[n1,Nat.beq_refl,kM,ig,aU];refine⟨by omega,by omega,by omega,x.p.cnt x.i,by rw[YG];rfl,by unfold I64;omega,by omega,by omega,bf (λhb=>⟨by omega,λq hq=> ?_⟩) λhb q hq=> ?_⟩
 ·have hb:=beq_iff_eq.1 hb
  simp only[Cs.eff,bQ,dw,dA,dI,<-Bool.decide_and,kH,ZPool.give];grind (splits:=30)
 ·have hb:x.p.cnt x.i-1≠0:=λh=>by simp[h]at hb
  simp only[Cs.eff,bQ,dw,dA,dI,<-Bool.decide_and,kH,ZPool.give];grind (splits:=30)
theorem aff(x:fM)(hx:x.ok):ofVC x:=by
 obtain⟨⟨h1,h2,h3⟩,hi,hc,hk,ht⟩:=id hx;unfold ofVC;simp only[xG,xC,FY];simp only[aZ,aV,aU,aA,aI,bT,bF,aO,aK,ay,aX,aW,bU,bH,bI,bJ,bV,bD,bK,bC,eY,aH,aN,ah,ak,aB,aF,aC,aG];exact⟨x,hx,rfl,⟨rfl,rfl,λ_ _=>rfl⟩,by omega,x.p.cls x.i,by rw[BN];rfl,rfl,rfl,rfl,λ_ _=>rfl⟩
theorem aoG:bZ Tryz.prog 276 Ub:=jk dF mixed (.cons (bP mO) .nil) amO 200 5 (λ_=>rfl) (λ_=>⟨λ_=>rfl,λ_=>rfl,trivial⟩) λx hx=>Eq.mp (ae7 x) (Uf x (aZ.1 hx))
theorem find_ok:bZ Tryz.prog 242 Uc:=jk dF mixed (.cons (bP aoG) .nil) amP 200 5 (λ_=>rfl) (λ_=>⟨λ_=>rfl,λ_=>rfl,trivial⟩) λx hx=>Eq.mp (ae9 x) (Ug x (aZ.1 hx))
theorem aj9:bZ Tryz.prog 243 DR:=dR dF mixed .nil noA 200 5 (λ_=>rfl) (λ_=>rfl) λx hx=>Eq.mp (aaG x) (OW x (aZ.1 hx))
theorem aq5:bZ Tryz.prog 116 atC:=dR dF mixed (.cons (bP mO) (.cons (bP aeZ) (.cons (bP ae0) (.cons (bP aq3) .nil)))) noA 200 5 (λ_=>rfl) (λ_=>rfl) λx hx=>Eq.mp (aoD x) (afe x (aZ.1 hx))
theorem aoH:bZ Tryz.prog 202 ae1.ctr:=cO dF mixed (.cons (bP mO) (.cons (bP aeY) (.cons (bP find_ok) (.cons (bP aj9) .nil)))) 2 noA 200 5 (λ_=>⟨rfl,rfl,rfl,rfl⟩) λx hx=>Eq.mp (afb x) (Uh x (aZ.1 hx))
theorem aoI:bZ Tryz.prog 65 ae2.ctr:=cO dF mixed (.cons (bP aq5) .nil) 2 noA 200 5 (λ_=>⟨rfl,rfl,rfl,rfl⟩) λx hx=>Eq.mp (afd x) (Ui x (aZ.1 hx))
theorem aq6:bZ Tryz.prog 246 ofP.ctr:=cO dF mixed (.cons (bP aq5) .nil) 2 noA 200 5 (λ_=>⟨rfl,rfl,rfl,rfl⟩) λx hx=>Eq.mp (aoE x) (aff x (aZ.1 hx))
structure ZRd where
 t:Nat
 now:Int
 has:Nat->Int
namespace ZRd
def ok(r:ZRd):Prop:=1<=r.t/\r.t<=4/\1<=r.now/\r.now<4611686018427387904
def os(r:ZRd):List dB:=[.cells 149 (.av [u64 r.now,.slE 1 0 1 r.t r.t]),.cells 111 (.row 1 r.t (λk=>[.int .u64 (r.has k)]) [])]
def put(r:ZRd)(k:Nat)(v:Int):ZRd:={r with has:=λj=>if j=k then v else r.has j}
end ZRd
def akb(t:Nat):ZRd:=⟨t,1,λ_=>0⟩
structure ZRdT where
 r:ZRd
 k:Nat
def OX:jE:={X:=ZRdT,args:=λx=>[.ptr 0 0,i64 x.k],k:=1,l:=λx=>[.m x.r.os],pre:=λx=>Hd (x.r.ok/\x.k<x.r.t),outs:=[
 {Y:=Unit,post:=λx _=>Hd (x.r.has x.k=0),ret:=λx _=> .tup [u64 x.r.now,i64 0],m:=1,l:=λx _=>[.m (x.r.put x.k x.r.now).os]},
 {Y:=Unit,post:=λx _=>Hd (x.r.has x.k≠0),ret:=λ_ _=> .tup [u64 0,i64 7],m:=1,l:=λx _=>[.m x.r.os]}]}
def OY:jE:=qE ZRdT (λx=>[.ptr 0 0,i64 x.k]) 1 (λx=>[.m x.r.os]) (λx=>Hd (x.r.ok/\x.k<x.r.t)) (λx=>i64 (if x.r.has x.k=0 then 12 else 0)) 1 (λx=>[.m (x.r.put x.k 0).os])
def aq7:jE:=qE ZRd (λ_=>[.ptr 0 0]) 1 (λr=>[.m r.os]) (λr=>Hd r.ok) (λr=>u64 r.now) 1 (λr=>[.m r.os])
def og(ph:Nat):jE:=qE uO (λx=>[.ptr 0 0,i64 x.t,i64 x.l]) 1 (λx=>[.m (x.c.os ph)]) (λx=>Hd (x.c.ok/\x.t<x.c.t)) (λx=>i64 (if 0<=x.l/\x.l<258 then 0 else 2)) 1 (λx=>[.m ((x.c.note x.t x.l).os ph)])
def oh(ph:Nat):jE:=qE iM (λ_=>[.ptr 0 0]) 1 (λc=>[.m (c.os ph)]) (λc=>Hd c.ok) (λc=>u64 c.now) 1 (λc=>[.m (c.os ph)])
def ou(ph:Nat):jE:=qE iM (λ_=>[.ptr 0 0]) 1 (λc=>[.m (c.os ph)]) (λc=>Hd c.ok) (λc=> .slW 1 0 1 c.t) 2 (λc=>[.m (c.os ph),.o (.room 3 (.row 1 c.t (λk=>[.int .i64 (c.o k)]) []))])
noncomputable def Hq:jE:=qE lN (λx=>[.ptr 0 0,i64 x.k,i64 x.a,x.b.av 1]) 2 (λx=>[.m x.d.os,.o x.b.ro]) (λx=>Hd (x.d.ok/\x.k<x.d.n/\x.b.ok/\x.a+x.b.n<=64)) (λ_=>i64 0) 2 (λx=>[.m (x.d.store x.k x.a x.b.n (λq=>x.b.g (x.b.q+q))).os,.o x.b.ro])
noncomputable def afg:jE:=qE Tz (λx=>[.ptr 0 0,i64 x.k]) 1 (λx=>[.m x.d.os]) (λx=>Hd (x.d.ok/\x.k<x.d.n)) (λ_=> .tup [.slW 1 0 1 64,i64 0]) 2 (λx=>[.m x.d.os,.o (.room 5 (rowB (λq=>x.d.b (x.k*193+q)) 64))])
def lC(a:Nat):Prop:=a=a/\a=a
def afh(a:iM):Prop:=a.now=a.now/\a.dur=a.dur/\a.OL=a.OL/\(0=0/\lC a.t)/\True
def afi(a:iM):Prop:=(258=258/\ ∀q:Nat,q<258->[Value.bool (a.L q)]=[Value.bool (a.L q)])/\Value.nilFunc=Value.nilFunc/\True
def aq8(a:uO):Prop:=(afh a.c/\(258=258/\ ∀q:Nat,q<258->[Value.bool (Bool.or (a.c.N q) (decide (a.l=(q:Int))))]=[Value.bool (a.c.N q)])/\afi a.c)/\(a.c.t=a.c.t/\ ∀q:Nat,q<a.c.t->[Value.int .i64 (ite (q=a.t/\0<=a.l/\a.l<258) (a.c.o q+1) (a.c.o q))]=[Value.int .i64 (a.c.o q)])/\True
def Js(a:ZRd):Prop:=a.now=a.now/\(0=0/\lC a.t)/\True
def afj(a:ZRd):Prop:=Js a/\(a.t=a.t/\ ∀q:Nat,q<a.t->[Value.int .u64 (a.has q)]=[Value.int .u64 (a.has q)])/\True
def aq9(a:uO):Prop:= ∃y:Unit,True/\ite (0<=a.l/\a.l<258) (0:Int) (2:Int)=2/\aq8 a
def YH(a:Bys):Prop:=rowB a.g a.N=rowB a.g a.N/\true=true
def Hr(a:DevM):Prop:=a.fl=a.fl/\a.fe=a.fe/\a.ba=a.ba/\a.cu=a.cu/\True
def afk(a:lN):Prop:= ∃y:Unit,True/\(0:Int)=2/\((0=0/\lC a.d.n)/\a.d.st+1=a.d.st/\Hr a.d)/\YH a.b/\(a.d.n*193=a.d.n*193/\ ∀q:Nat,q<a.d.n*193->Cs.eff (kG (a.d.store a.k a.a a.b.n (λ(q_1:Nat)=>a.b.g (a.b.q+q_1)))) [] q=Cs.eff (kG a.d) [] q)/\True
def afl(a:ZRdT):Prop:=Js a.r/\(a.r.t=a.r.t/\ ∀q:Nat,q<a.r.t->[Value.int .u64 (ite (q=a.k) (0:Int) (a.r.has q))]=Cs.eff (λ(k:Nat)=>[Value.int .u64 (a.r.has k)]) [(0+a.k,[Value.int .u64 0])] q)/\True
def OZ(a:iM):Prop:=afh a/\(258=258/\ ∀q:Nat,q<258->[Value.bool (a.N q)]=[Value.bool (a.N q)])/\afi a
def O1(a:iM):Prop:=(a.t=a.t/\ ∀q:Nat,q<a.t->[Value.int .i64 (a.o q)]=[Value.int .i64 (a.o q)])/\True
def afm(a:ZRdT):Prop:=Js a.r/\(a.r.t=a.r.t/\ ∀q:Nat,q<a.r.t->[Value.int .u64 (ite (q=a.k) a.r.now (a.r.has q))]=[Value.int .u64 (a.r.has q)])/\True
def afn(a:Bys)(b:Nat):Prop:=(Nat.beq (List.length [Value.int .u8 (a.g (a.q+b))]) 1&&List.all [Value.int .u8 (a.g (a.q+b))] Value.oneCell')=true
def YI:Prop:= ∃y:Unit,True/\(False/\(0:Int)=2/\True)/\False/\False/\True
def YJ(a:ZRdT):Prop:=0<=(a.k:Int)/\(a.k:Int)<(a.r.t:Int)
def afo(t:Nat):Prop:=
 cP (decide ((t:Int)<1)) YI (cP (decide ((t:Int)>(4:Int))) YI ((0<=(t:Int)/\(t:Int)<=(t:Int)/\8*(t:Int)<=281474976710656/\(t:Int)<4611686018427387904)/\ ∃y:Unit,True/\(0=0/\(0:Int)=0/\True)/\((1:Int)=1/\(0=0/\lC t)/\True)/\(t=t/\ ∀q:Nat,q<t->[Value.int .u64 0]=[Value.int .u64 0])/\True))
def Uj(x:ZRdT):Prop:=
 cP (decide ((x.k:Int)>=(x.r.t:Int))) ((∃y:Unit,Hd (x.r.has x.k=0)/\(x.r.now=0/\(0:Int)=1/\True)/\afm x)\/ ∃y:Unit,Hd (x.r.has x.k≠(0:Int))/\((0:Int)=0/\(7:Int)=1/\True)/\afj x.r) (YJ x/\0+x.k<x.r.t/\cP (decide (x.r.has (0+x.k)=0)) (0+x.k<x.r.t/\((∃y:Unit,Hd (x.r.has x.k=0)/\(x.r.now=x.r.now/\(0:Int)=0/\True)/\Js x.r/\(x.r.t=x.r.t/\ ∀q:Nat,q<x.r.t->[Value.int .u64 (ite (q=x.k) x.r.now (x.r.has q))]=Cs.eff (λ(k:Nat)=>[Value.int .u64 (x.r.has k)]) [(0+x.k,[Value.int .u64 x.r.now])] q)/\True)\/ ∃y:Unit,Hd (x.r.has x.k≠(0:Int))/\(0=x.r.now/\(7:Int)=0/\True)/\Js x.r/\(x.r.t=x.r.t/\ ∀q:Nat,q<x.r.t->[Value.int .u64 (x.r.has q)]=Cs.eff (λ(k:Nat)=>[Value.int .u64 (x.r.has k)]) [(0+x.k,[Value.int .u64 x.r.now])] q)/\True)) (0+x.k<x.r.t/\((∃y:Unit,Hd (x.r.has x.k=0)/\(x.r.now=0/\(0:Int)=7/\True)/\afm x)\/ ∃y:Unit,Hd (x.r.has x.k≠(0:Int))/\((0:Int)=0/\(7:Int)=7/\True)/\afj x.r)))
theorem aaH(x:ZRdT):Uj x=wpF Tryz.prog pI tt (noA x) 200 5 199 (OX.args x) (hO 2 (flatP 1 (OX.l x))) (λv h'=>endsPK 1 x v h' OX.outs):=by kernel_rfl
def Uk(x:ZRdT):Prop:=
 cP (decide ((x.k:Int)>=(x.r.t:Int))) (∃y:Unit,True/\ite (x.r.has x.k=0) (12:Int) (0:Int)=1/\Js x.r/\(x.r.t=x.r.t/\ ∀q:Nat,q<x.r.t->[Value.int .u64 (ite (q=x.k) (0:Int) (x.r.has q))]=[Value.int .u64 (x.r.has q)])/\True) (YJ x/\0+x.k<x.r.t/\0+x.k<x.r.t/\cP (BEq.beq (x.r.has (0+x.k)) (0:Int)) (∃y:Unit,True/\ite (x.r.has x.k=0) (12:Int) (0:Int)=12/\afl x) (∃y:Unit,True/\ite (x.r.has x.k=0) (12:Int) (0:Int)=0/\afl x))
theorem aaI(x:ZRdT):Uk x=wpF Tryz.prog pI tt (noA x) 200 5 211 (OY.args x) (hO 2 (flatP 1 (OY.l x))) (λv h'=>endsPK 1 x v h' OY.outs):=by kernel_rfl
def aoJ(x:ZRd):Prop:=
 ∃y:Unit,True/\x.now=x.now/\afj x
theorem akc(x:ZRd):aoJ x=wpF Tryz.prog pI tt (noA x) 200 5 67 (aq7.args x) (hO 2 (flatP 1 (aq7.l x))) (λv h'=>endsPK 1 x v h' aq7.outs):=by kernel_rfl
def afp(x:uO):Prop:=
 cP (decide ((x.t:Int)>=(x.c.t:Int))) (∃y:Unit,True/\ite (0<=x.l/\x.l<258) (0:Int) (2:Int)=1/\aq8 x) (cP (decide (x.l<0)) (aq9 x) (cP (decide (x.l>=(258:Int))) (aq9 x) ((0<=(x.t:Int)/\(x.t:Int)<(x.c.t:Int))/\0+x.t<x.c.t/\I64 (x.c.o (0+x.t)+1)/\(0<=(x.t:Int)/\(x.t:Int)<(x.c.t:Int))/\0+x.t<x.c.t/\(0<=x.l/\x.l<258)/\Int.toNat x.l<258/\ ∃y:Unit,True/\ite (0<=x.l/\x.l<258) (0:Int) (2:Int)=0/\(afh x.c/\(258=258/\ ∀q:Nat,q<258->[Value.bool (Bool.or (x.c.N q) (decide (x.l=(q:Int))))]=Cs.eff (λ(k:Nat)=>[Value.bool (x.c.N k)]) [(Int.toNat x.l,[Value.bool true])] q)/\afi x.c)/\(x.c.t=x.c.t/\ ∀q:Nat,q<x.c.t->[Value.int .i64 (ite (q=x.t/\0<=x.l/\x.l<258) (x.c.o q+1) (x.c.o q))]=Cs.eff (λ(k:Nat)=>[Value.int .i64 (x.c.o k)]) [(0+x.t,[Value.int .i64 (x.c.o (0+x.t)+1)])] q)/\True)))
theorem aaJ(x:uO):afp x=wpF Tryz.prog pI tt (noA x) 200 5 64 ((og 0).args x) (hO 2 (flatP 1 ((og 0).l x))) (λv h'=>endsPK 1 x v h' (og 0).outs):=by kernel_rfl
def Ul(x:iM):Prop:=
 ∃y:Unit,True/\x.now=x.now/\OZ x/\O1 x
theorem aaK(x:iM):Ul x=wpF Tryz.prog pI tt (noA x) 200 5 45 ((oh 0).args x) (hO 2 (flatP 1 ((oh 0).l x))) (λv h'=>endsPK 1 x v h' (oh 0).outs):=by kernel_rfl
def Um(x:iM):Prop:=
 0+x.t<=x.t/\cP (Nat.beq x.t 0) (∃y:Unit,True/\(x.t=0/\0=0/\0=0)/\OZ x/\(0=x.t*1/\ ∀q:Nat,q<x.t->[Value.int .i64 (x.o q)]=List.take 1 (List.drop (q*1) (@List.nil Value)))/\O1 x) ((2*(0+x.t)+1000)*8<=281474976710656/\ ∃y:Unit,True/\(0=0/\x.t=0+x.t)/\OZ x/\(x.t=0+x.t/\ ∀q:Nat,q<x.t->[Value.int .i64 (x.o q)]=[Value.int .i64 (x.o (0+(q-0)))])/\O1 x)
theorem aaL(x:iM):Um x=wpF Tryz.prog pI tt (noA x) 200 5 204 ((ou 0).args x) (hO 2 (flatP 1 ((ou 0).l x))) (λv h'=>endsPK 1 x v h' (ou 0).outs):=by kernel_rfl
def Jt(x:lN):Prop:=
 cP (decide ((x.k:Int)>=(x.d.n:Int))) (afk x) (I64 (64-(x.b.n:Int))/\cP (decide ((x.a:Int)>64-(x.b.n:Int))) (afk x) ((0<=(x.k:Int)/\(x.k:Int)<(x.d.n:Int))/\0<=(x.a:Int)/\(x.a<=64/\64<=64/\64<=64)/\(0+x.k)*193+0+x.a+(64-x.a)<=x.d.n*193/\cP (Nat.ble x.b.n (64-x.a)) (x.b.q+x.b.n<=x.b.N/\(∀k:Nat,k<x.b.n->afn x.b k)/\I64 (x.d.st+1)/\ ∃y:Unit,True/\(0:Int)=0/\((0=0/\lC x.d.n)/\x.d.st+1=x.d.st+1/\Hr x.d)/\YH x.b/\(x.d.n*193=x.d.n*193/\ ∀q:Nat,q<x.d.n*193->Cs.eff (kG (x.d.store x.k x.a x.b.n (λ(q_1:Nat)=>x.b.g (x.b.q+q_1)))) [] q=Cs.eff (λ(p:Nat)=>cond (Nat.ble ((0+x.k)*193+0+x.a) p&&Nat.blt p ((0+x.k)*193+0+x.a+x.b.n)) [Value.int .u8 (x.b.g (x.b.q+(p-((0+x.k)*193+0+x.a))))] (Cs.eff (kG x.d) [] p)) [] q)/\True) (x.b.q+(64-x.a)<=x.b.N/\(∀k:Nat,k<64-x.a->afn x.b k)/\I64 (x.d.st+1)/\ ∃y:Unit,True/\(0:Int)=0/\((0=0/\lC x.d.n)/\x.d.st+1=x.d.st+1/\Hr x.d)/\YH x.b/\(x.d.n*193=x.d.n*193/\ ∀q:Nat,q<x.d.n*193->Cs.eff (kG (x.d.store x.k x.a x.b.n (λ(q_1:Nat)=>x.b.g (x.b.q+q_1)))) [] q=Cs.eff (λ(p:Nat)=>cond (Nat.ble ((0+x.k)*193+0+x.a) p&&Nat.blt p ((0+x.k)*193+0+x.a+(64-x.a))) [Value.int .u8 (x.b.g (x.b.q+(p-((0+x.k)*193+0+x.a))))] (Cs.eff (kG x.d) [] p)) [] q)/\True)))
theorem Un(x:lN):Jt x=wpF Tryz.prog pI tt (noA x) 200 5 62 (Hq.args x) (hO 3 (flatP 2 (Hq.l x))) (λv h'=>endsPK 2 x v h' Hq.outs):=by kernel_rfl
def afq(x:Tz):Prop:=
 cP (decide ((x.k:Int)>=(x.d.n:Int))) (∃y:Unit,True/\False) (I64 (64:Int)/\(0<=(x.k:Int)/\(x.k:Int)<(x.d.n:Int))/\(0<=64/\64<=64/\64<=64)/\(0+x.k)*193+0+0+64<=x.d.n*193/\(2*(0+64)+1000)*1<=281474976710656/\ ∃y:Unit,True/\((0=0/\64=0+64)/\(0:Int)=0/\True)/\((0=0/\lC x.d.n)/\x.d.st=x.d.st/\Hr x.d)/\(64=64/\ ∀q:Nat,q<64->[Value.int .u8 (x.d.b (x.k*193+q))]=Cs.eff (λ(q_1:Nat)=>cond (Nat.blt q_1 0) (@List.nil Value) (Cs.eff (kG x.d) [] ((0+x.k)*193+0+0+(q_1-0)))) [] q)/\(x.d.n*193=x.d.n*193/\ ∀q:Nat,q<x.d.n*193->Cs.eff (kG x.d) [] q=Cs.eff (kG x.d) [] q)/\True)
theorem afr(x:Tz):afq x=wpF Tryz.prog pI tt (noA x) 200 5 181 (afg.args x) (hO 2 (flatP 1 (afg.l x))) (λv h'=>endsPK 1 x v h' afg.outs):=by kernel_rfl
theorem Uo(x:Nat)(hx:1<=x/\x<=4):afo x:=by
 unfold afo;simp only[YI,lC];simp only[aZ,aV,aU,aA,aI,bT,bF,aO,aK,ay,aX,aW,bU,bH,bI,bJ,bV,bD,bK,bC,eY,aH,aN,ah,ak,aB,aF,aC,aG];exact bf (λh=>absurd (aS h) (by omega)) λ_=>bf (λh=>absurd (aS h) (by omega)) λ_=>by omega
theorem afs(f:Nat->Int)(k:Nat)(v:Int)(q:Nat):[Value.int .u64 (if q=k then v else f q)]=Cs.eff (λk=>[Value.int .u64 (f k)]) [(k,[Value.int .u64 v])] q:=by
 simp only[Cs.eff,bQ,dw,dA,dI,<-Bool.decide_and];by_cases h:q=k
 ·rw[if_pos h,if_pos h]
 ·rw[if_neg h,if_neg h]
theorem O4(x:ZRdT)(hx:x.r.ok/\x.k<x.r.t):Uj x:=by
 unfold Uj;simp only[afm,afj,YJ,Js,lC];simp only[aZ,aV,aU,aA,aI,bT,bF,aO,aK,ay,aX,aW,bU,bH,bI,bJ,bV,bD,bK,bC,eY,aH,aN,ah,ak,aB,aF,aC,aG];refine bf (λh=>absurd (aS h) (by omega)) λ_=>⟨by omega,hx.2,bf (λh=>⟨hx.2,.inl ⟨aS h,λq _=>afs _ _ _ _⟩⟩) λh=>⟨hx.2,.inr (aT h)⟩⟩
theorem O5(x:ZRdT)(hx:x.r.ok/\x.k<x.r.t):Uk x:=by
 unfold Uk;simp only[Js,YJ,afl,lC];simp only[aZ,aV,aU,aA,aI,bT,bF,aO,aK,ay,aX,aW,bU,bH,bI,bJ,bV,bD,bK,bC,eY,aH,aN,ah,ak,aB,aF,aC,aG];refine bf (λh=>absurd (aS h) (by omega)) λ_=>⟨by omega,hx.2,hx.2,bf (λh=>⟨if_pos (beq_iff_eq.1 h),λq _=>afs _ _ _ _⟩) λh=>⟨if_neg (λe=>by simp[e]at h),λq _=>afs _ _ _ _⟩⟩
theorem aaM(x:ZRd)(hx:x.ok):aoJ x:=by
 unfold aoJ;simp only[afj,Js,lC];simp only[aZ,aV,aU,aA,aI,bT,bF,aO,aK,ay,aX,aW,bU,bH,bI,bJ,bV,bD,bK,bC,eY,aH,aN,ah,ak,aB,aF,aC,aG]
theorem O6(x:uO)(hx:x.c.ok/\x.t<x.c.t):afp x:=TL x hx
theorem O7(x:iM)(hx:x.ok):Ul x:=by
 unfold Ul;simp only[OZ,O1,afh,afi,lC];simp only[aZ,aV,aU,aA,aI,bT,bF,aO,aK,ay,aX,aW,bU,bH,bI,bJ,bV,bD,bK,bC,eY,aH,aN,ah,ak,aB,aF,aC,aG]
theorem O8(x:iM)(hx:x.ok):Um x:=by
 have:=hx.1;have:=hx.2.1;unfold Um;simp only[OZ,O1,afh,afi,lC];simp only[aZ,aV,aU,aA,aI,bT,bF,aO,aK,ay,aX,aW,bU,bH,bI,bJ,bV,bD,bK,bC,eY,aH,aN,ah,ak,aB,aF,aC,aG];exact⟨by omega,bf (λh=>absurd (au h) (by omega)) λ_=>by omega⟩
theorem Ju(x:lN)(hx:x.d.ok/\x.k<x.d.n/\x.b.ok/\x.a+x.b.n<=64):Jt x:=by
 have h:=Aw x hx;unfold Jm at h;simp only[ajU,Yw,nO,TB,lq,OH,TA,aaA]at h;unfold Jt;simp only[afk,afn,lC,Hr,YH];simp only[aZ,aV,aU,aA,aI,bT,bF,aO,aK,ay,aX,aW,bU,bH,bI,bJ,bV,bD,bK,bC,eY,aH,aN,ah,ak,aB,aF,aC,aG]at h ⊢;exact h
theorem Ur(x:Tz)(hx:x.d.ok/\x.k<x.d.n):afq x:=by
 have:=hx.1.1;unfold afq;simp only[lC,Hr];simp only[aZ,aV,aU,aA,aI,bT,bF,aO,aK,ay,aX,aW,bU,bH,bI,bJ,bV,bD,bK,bC,eY,aH,aN,ah,ak,aB,aF,aC,aG];refine bf (λh=>absurd (aS h) (by omega)) λ_=>⟨by unfold I64;omega,by omega,by omega,by omega,by omega,λq hq=> ?_⟩
 rw[nZ,show Nat.blt q 0=false by simp[bQ],aQ,show(x.k*193+q)%193=q by omega,if_neg (by omega)]
theorem akd:bZ Tryz.prog 199 OX.ctr:=cO dF mixed dS 2 noA 200 5 (λ_=>⟨rfl,rfl,rfl,rfl⟩) λx hx=>Eq.mp (aaH x) (O4 x (aZ.1 hx))
theorem ake:bZ Tryz.prog 211 OY.ctr:=cO dF mixed dS 2 noA 200 5 (λ_=>⟨rfl,rfl,rfl,rfl⟩) λx hx=>Eq.mp (aaI x) (O5 x (aZ.1 hx))
theorem ara:bZ Tryz.prog 67 aq7.ctr:=cO dF mixed dS 2 noA 200 5 (λ_=>⟨rfl,rfl,rfl,rfl⟩) λx hx=>Eq.mp (akc x) (aaM x (aZ.1 hx))
theorem akf:bZ Tryz.prog 64 (og 0).ctr:=cO dF mixed dS 2 noA 200 5 (λ_=>⟨rfl,rfl,rfl,rfl⟩) λx hx=>Eq.mp (aaJ x) (O6 x (aZ.1 hx))
theorem akg:bZ Tryz.prog 45 (oh 0).ctr:=cO dF mixed dS 2 noA 200 5 (λ_=>⟨rfl,rfl,rfl,rfl⟩) λx hx=>Eq.mp (aaK x) (O7 x (aZ.1 hx))
theorem akh:bZ Tryz.prog 204 (ou 0).ctr:=cO dF mixed dS 2 noA 200 5 (λ_=>⟨rfl,rfl,rfl,rfl⟩) λx hx=>Eq.mp (aaL x) (O8 x (aZ.1 hx))
theorem O9:bZ Tryz.prog 62 Hq.ctr:=cO dF mixed dS 3 noA 200 5 (λ_=>⟨rfl,rfl,rfl,rfl⟩) λx hx=>Eq.mp (Un x) (Ju x (aZ.1 hx))
theorem aoK:bZ Tryz.prog 181 afg.ctr:=cO dF mixed dS 2 noA 200 5 (λ_=>⟨rfl,rfl,rfl,rfl⟩) λx hx=>Eq.mp (afr x) (Ur x (aZ.1 hx))
theorem jS{P:Program}{f:FuncId}{C:Ctr}(h: ∀x,C.pre x-> ∃D:Ctr,bZ P f D/\D.k=C.k/\ ∃y:D.X,D.pre y/\D.args y=C.args x/\D.os y=C.os x/\ ∀v h',lK y v h' D.outs->lK x v h' C.outs):bZ P f C:=λx hx=>by
 obtain⟨D,hD,hk,y,hp,ha,ho,hq⟩:=h x hx;obtain⟨h1,h2⟩:=hD y hp;rw[ho,hk]at h1;rw[ha,hk,ho]at h2;exact⟨h1,h2.mono hq⟩
structure gX where
 line:Int
 cls:Int
 r:Int
 d:Int
 anti:Int
namespace gX
def cs(e:gX):List Value:=[.int .i64 e.line,.int .i64 e.cls,.int .u64 e.r,.int .u64 e.d,.int .i64 e.anti]
def av(e:gX):AV:= .agg [i64 e.line,i64 e.cls,u64 e.r,u64 e.d,i64 e.anti]
def may(e:gX):Prop:=2<=e.line/\e.line<258/\0<=e.cls/\e.cls<=3/\ -1<=e.anti/\e.anti<258
end gX
structure iw where
 z:Bool
 n:Nat
 e:Nat->gX
namespace iw
def ok(b:iw):Prop:=b.n<=258/\(b.z=true->b.n=0)
def row(b:iw):Cs:= .row 5 b.n (λi=>(b.e i).cs) []
def osP(b:iw):List dB:=[.cells 183 (.av [.slW 1 0 5 b.n]),.room 70 b.row]
def osN:List dB:=[.cells 183 (.av [gY])]
def os(b:iw):List dB:=bif b.z then osN else b.osP
def put(b:iw)(x:gX):iw:=if b.n<258 then⟨false,b.n+1,λi=>if i=b.n then x else b.e i⟩else b
end iw
structure Bh where
 b:iw
 x:gX
def qF(z:Bool):jE:=qE Bh (λx=>[.ptr 0 0,x.x.av]) 1 (λx=>[.m (bif z then iw.osN else x.b.osP)]) (λx=>Hd (x.b.ok/\x.x.may/\x.b.z=z)) (λx=>i64 (if x.b.n<258 then 0 else 11)) 1 (λx=>[.m (x.b.put x.x).osP])
def Jv:jE:=qE Unit (λ_=>[.ptr 0 0]) 1 (λ_=>[.m iw.osN]) (λ_=>Hd True) (λ_=>gY) 1 (λ_=>[.m iw.osN])
def Jw:jE:=qE iw (λ_=>[.ptr 0 0]) 1 (λb=>[.m b.osP]) (λb=>Hd (b.ok/\b.z=false)) (λb=> .slW 1 0 5 b.n) 2 (λb=>[.m b.osP,.o (.room 70 b.row)])
structure ZLnk where
 key:ByteArray
 id:Int
 ver:Int
 line:Int
 cls:Int
namespace ZLnk
def cs(e:ZLnk):List Value:=[.string e.key,.int .u64 e.id,.int .u64 e.ver,.int .i64 e.line,.int .i64 e.cls]
def av(e:ZLnk):AV:= .agg [.lit (.string e.key),u64 e.id,u64 e.ver,i64 e.line,i64 e.cls]
end ZLnk
def iI:ZLnk:=⟨⟨#[]⟩,0,0,0,0⟩
structure ZLn where
 len:Nat
 cap:Nat
 at_:Nat
 n:Nat
 e:Nat->ZLnk
namespace ZLn
def ok(l:ZLn):Prop:=l.cap<1099511627776/\l.len<=l.cap/\l.n<=l.len/\(l.len=0->l.at_=0)/\(l.len≠0->l.at_<l.len)
def row(l:ZLn):Cs:= .row 5 l.cap (λi=>(l.e i).cs) []
def osP(l:ZLn):List dB:=[.cells 127 (.av [.slE 1 0 5 l.len l.cap,i64 l.at_,i64 l.n]),.cells 41 l.row]
def osN:List dB:=[.cells 127 (.av [gY,i64 0,i64 0])]
def os(l:ZLn):List dB:=bif Nat.beq l.len 0 then osN else l.osP
def get(l:ZLn)(i:Nat):ZLnk:=l.e ((l.at_+i)%l.len)
def push(l:ZLn)(x:ZLnk):ZLn:=if l.n=l.len then⟨l.n+1,2*l.n+1,0,l.n+1,λi=>if i<l.n then l.get i else if i=l.n then x else iI⟩else⟨l.len,l.cap,l.at_,l.n+1,λi=>if i=(l.at_+l.n)%l.len then x else l.e i⟩
def pop(l:ZLn):ZLn:=if l.n=0 then l else⟨l.len,l.cap,(l.at_+1)%l.len,l.n-1,λi=>if i=l.at_ then iI else l.e i⟩
def head(l:ZLn):ZLnk:=if l.n=0 then iI else l.get 0
end ZLn
structure aiS where
 l:ZLn
 x:ZLnk
def xK:jE:=qE ZLnk (λx=>[.ptr 0 0,x.av]) 1 (λ_=>[.m ZLn.osN]) (λ_=>Hd True) (λ_=> .tup []) 1 (λx=>[.m (ZLn.osP ⟨1,1,0,1,λi=>if i=0 then x else iI⟩)])
def xM:jE:=qE aiS (λx=>[.ptr 0 0,x.x.av]) 1 (λx=>[.m x.l.osP]) (λx=>Hd (x.l.ok/\x.l.len≠0)) (λ_=> .tup []) 1 (λx=>[.m (x.l.push x.x).osP])
def BO:jE:=qE Unit (λ_=>[.ptr 0 0]) 1 (λ_=>[.m ZLn.osN]) (λ_=>Hd True) (λ_=> .tup [iI.av,boo false]) 1 (λ_=>[.m ZLn.osN])
def BP:jE:=qE ZLn (λ_=>[.ptr 0 0]) 1 (λl=>[.m l.osP]) (λl=>Hd (l.ok/\l.len≠0)) (λl=> .tup [l.head.av,boo (decide (l.n≠0))]) 1 (λl=>[.m l.pop.osP])
def ZLn.all(l:ZLn)(i:Nat):Cs:= .row 5 i (λj=>(l.get j).cs) []
def BQ:jE:=qE Unit (λ_=>[.ptr 0 0]) 1 (λ_=>[.m ZLn.osN]) (λ_=>Hd True) (λ_=>gY) 1 (λ_=>[.m ZLn.osN])
def BR:jE:={X:=ZLn,args:=λ_=>[.ptr 0 0],k:=1,l:=λl=>[.m l.osP],pre:=λl=>Hd (l.ok/\l.len≠0),outs:=[
 {Y:=Unit,post:=λl _=>Hd (l.n=0),ret:=λ_ _=>gY,m:=1,l:=λl _=>[.m l.osP]},
 {Y:=Unit,post:=λl _=>Hd (l.n≠0),ret:=λl _=> .slW 1 0 5 l.n,m:=2,l:=λl _=>[.m l.osP,.o (.room 41 (l.all l.n))]}]}
def arb(l:ZLn):FuncId->qA:=λf=>bif Nat.beq f 123 then(λb _ _=>bif Nat.beq b 0 then [
 {σ:=Unit,fr:=λ_=>[(9,i64 0),(3,gY)],ob:=λ_=>[],inv:=λ_=>Hd True,meas:=λ_=>l.n+1,test:=λfr _=>(match SE.look fr 3 with| .lit _=>true|_=>false)},
 {σ:=Nat,fr:=λi=>[(9,i64 i),(3,.slW 2 0 5 i)],ob:=λi=>[(2,some (.room 41 (l.all i)))],inv:=λi=>Hd (1<=i/\i<=l.n),meas:=λi=>l.n-i,nx:=1,test:=λfr _=>(match SE.look fr 3 with| .lit _=>false|_=>true)}]else [])elseλ_ _ _=>[]
def Ht(a:aiS):Prop:=((ZLn.at_ (a.l.push a.x):Nat):Int)=0/\((ZLn.n (a.l.push a.x):Nat):Int)=(a.l.n:Int)+1/\True
def aft(a:aiS):Prop:=I64 ((a.l.n:Int)+1)/\True/\ ∃y:Unit,True/\True/\(False/\Ht a)/\(ZLn.cap (a.l.push a.x)=a.l.cap/\ ∀q:Nat,q<ZLn.cap (a.l.push a.x)->[Value.string (ZLnk.key (ZLn.e (a.l.push a.x) q)),Value.int .u64 (ZLnk.id (ZLn.e (a.l.push a.x) q)),Value.int .u64 (ZLnk.ver (ZLn.e (a.l.push a.x) q)),Value.int .i64 (ZLnk.line (ZLn.e (a.l.push a.x) q)),Value.int .i64 (ZLnk.cls (ZLn.e (a.l.push a.x) q))]=[Value.string (ZLnk.key (a.l.e q)),Value.int .u64 (ZLnk.id (a.l.e q)),Value.int .u64 (ZLnk.ver (a.l.e q)),Value.int .i64 (ZLnk.line (a.l.e q)),Value.int .i64 (ZLnk.cls (a.l.e q))])/\True
def aaN(a:ZLn):Prop:=a.cap=a.cap/\ ∀q:Nat,q<a.cap->[Value.string (ZLnk.key (a.e q)),Value.int .u64 (ZLnk.id (a.e q)),Value.int .u64 (ZLnk.ver (a.e q)),Value.int .i64 (ZLnk.line (a.e q)),Value.int .i64 (ZLnk.cls (a.e q))]=[Value.string (ZLnk.key (a.e q)),Value.int .u64 (ZLnk.id (a.e q)),Value.int .u64 (ZLnk.ver (a.e q)),Value.int .i64 (ZLnk.line (a.e q)),Value.int .i64 (ZLnk.cls (a.e q))]
def aoL(a:Bh):Prop:=((0=0/\iw.n (a.b.put a.x)=a.b.n)/\True)/\(iw.n (a.b.put a.x)=a.b.n/\ ∀q:Nat,q<iw.n (a.b.put a.x)->[Value.int .i64 (gX.line (iw.e (a.b.put a.x) q)),Value.int .i64 (gX.cls (iw.e (a.b.put a.x) q)),Value.int .u64 (gX.r (iw.e (a.b.put a.x) q)),Value.int .u64 (gX.d (iw.e (a.b.put a.x) q)),Value.int .i64 (gX.anti (iw.e (a.b.put a.x) q))]=[Value.int .i64 (gX.line (a.b.e q)),Value.int .i64 (gX.cls (a.b.e q)),Value.int .u64 (gX.r (a.b.e q)),Value.int .u64 (gX.d (a.b.e q)),Value.int .i64 (gX.anti (a.b.e q))])/\True
def Hu(a:Bh):Prop:=True/\ite (a.b.n<258) (0:Int) (11:Int)=1/\(False/\True)/\(List.length [Value.int .i64 a.x.line,Value.int .i64 a.x.cls,Value.int .u64 a.x.r,Value.int .u64 a.x.d,Value.int .i64 a.x.anti]=iw.n (a.b.put a.x)*5/\ ∀q:Nat,q<iw.n (a.b.put a.x)->[Value.int .i64 (gX.line (iw.e (a.b.put a.x) q)),Value.int .i64 (gX.cls (iw.e (a.b.put a.x) q)),Value.int .u64 (gX.r (iw.e (a.b.put a.x) q)),Value.int .u64 (gX.d (iw.e (a.b.put a.x) q)),Value.int .i64 (gX.anti (iw.e (a.b.put a.x) q))]=List.take 5 (List.drop (q*5) [Value.int .i64 a.x.line,Value.int .i64 a.x.cls,Value.int .u64 a.x.r,Value.int .u64 a.x.d,Value.int .i64 a.x.anti]))/\True
def Hw(a:Bh):Prop:=True/\ite (a.b.n<258) (0:Int) (11:Int)=1/\aoL a
def xO(a:ZLnk):Prop:=List.all [List.take 5 [Value.string a.key,Value.int .u64 a.id,Value.int .u64 a.ver,Value.int .i64 a.line,Value.int .i64 a.cls]] (λ(l:List Value)=>Nat.beq (List.length l) 5&&List.all l Value.oneCell')=true
def YK(a:ZLn):Prop:= ∀k:Nat,k<a.at_-0->(Nat.beq (List.length [Value.string (ZLnk.key (a.e (0+k))),Value.int .u64 (ZLnk.id (a.e (0+k))),Value.int .u64 (ZLnk.ver (a.e (0+k))),Value.int .i64 (ZLnk.line (a.e (0+k))),Value.int .i64 (ZLnk.cls (a.e (0+k)))]) 5&&List.all [Value.string (ZLnk.key (a.e (0+k))),Value.int .u64 (ZLnk.id (a.e (0+k))),Value.int .u64 (ZLnk.ver (a.e (0+k))),Value.int .i64 (ZLnk.line (a.e (0+k))),Value.int .i64 (ZLnk.cls (a.e (0+k)))] Value.oneCell')=true
def Hy(a:ZLn):Prop:=(0=0/\a.len=a.len/\a.cap=a.cap)/\(a.at_:Int)=(a.at_:Int)/\(a.n:Int)=(a.n:Int)/\True
def afu(a:aiS):Prop:=(2*(0+(a.l.len-a.l.at_)+(a.l.at_-0)+1)+1000)*48<=281474976710656/\aft a
def afv(a:aiS):Prop:=(2*(0+(a.l.len-a.l.at_)+(a.l.at_-0))+1000)*48<=281474976710656/\True/\True/\0+(a.l.len-a.l.at_)+(a.l.at_-0)=0+(a.l.len-a.l.at_)+(a.l.at_-0)/\xO a.x/\afu a
def afw(a:iw):Prop:=(a.n=a.n/\ ∀q:Nat,q<a.n->[Value.int .i64 (gX.line (a.e q)),Value.int .i64 (gX.cls (a.e q)),Value.int .u64 (gX.r (a.e q)),Value.int .u64 (gX.d (a.e q)),Value.int .i64 (gX.anti (a.e q))]=[Value.int .i64 (gX.line (a.e q)),Value.int .i64 (gX.cls (a.e q)),Value.int .u64 (gX.r (a.e q)),Value.int .u64 (gX.d (a.e q)),Value.int .i64 (gX.anti (a.e q))])/\True
def xP(a:aiS):Prop:=ZLn.cap (a.l.push a.x)=Int.toNat (2*(a.l.n:Int)+1)
def uj:Prop:=Value.slice none 0 0=Value.slice none 0 0
def YL:Prop:=(uj/\(0:Int)=0/\(0:Int)=0/\True)/\True
def amQ(a:ZLn):Prop:=(a.head.key=ZLnk.key (a.e (0+a.at_))/\a.head.id=ZLnk.id (a.e (0+a.at_))/\a.head.ver=ZLnk.ver (a.e (0+a.at_))/\a.head.line=ZLnk.line (a.e (0+a.at_))/\a.head.cls=ZLnk.cls (a.e (0+a.at_))/\True)/\decide (a.n≠0)=true/\True
def amR:Prop:= ∃y:Unit,True/\((ByteArray.mk #[]=ByteArray.mk #[]/\(0:Int)=0/\(0:Int)=0/\(0:Int)=0/\(0:Int)=0/\True)/\false=false/\True)/\YL
def amS(a:ZLn):Prop:=(a.head.key=ByteArray.mk #[]/\a.head.id=0/\a.head.ver=0/\a.head.line=0/\a.head.cls=0/\True)/\decide (a.n≠0)=false/\True
def YM(a:ZLn):Prop:=0+(0+(a.len-a.at_))<=Int.toNat (2*(a.n:Int)+1)
def YN(a:ZLn):Prop:=0<=a.at_/\a.at_<=a.cap/\a.cap<=a.cap
def afx(a:ZLn):Prop:=0<=(a.at_:Int)/\(a.at_:Int)<(a.len:Int)
def afy(a:ZLn):Prop:=Hy a/\aaN a/\True
def DT(x:Bh):Prop:=
 cP (decide (x.x.line>=(2:Int))) (cP (decide (x.x.line<258)) (∃x_1:Int,True/\(x_1=x.x.cls/\True)/\True/\ ∀y:Unit,True->cP (decide (spn x_1>(0:Int))) (cP (decide (x.x.anti>=(-(1:Int)))) (cP (Bool.not (decide (x.x.anti<258))) (∃y_1:Unit,Hu x) ((AV.lit (Value.slice none 0 0)=AV.lit (Value.slice none 0 0)/\True)/\(2*(0+1)+1000)*40<=281474976710656/\True/\True/\ ∃y_1:Unit,True/\ite (x.b.n<258) (0:Int) (11:Int)=0/\((0=0/\iw.n (x.b.put x.x)=1)/\True)/\(iw.n (x.b.put x.x)=0+List.length [List.take 5 [Value.int .i64 x.x.line,Value.int .i64 x.x.cls,Value.int .u64 x.x.r,Value.int .u64 x.x.d,Value.int .i64 x.x.anti]]/\ ∀q:Nat,q<iw.n (x.b.put x.x)->[Value.int .i64 (gX.line (iw.e (x.b.put x.x) q)),Value.int .i64 (gX.cls (iw.e (x.b.put x.x) q)),Value.int .u64 (gX.r (iw.e (x.b.put x.x) q)),Value.int .u64 (gX.d (iw.e (x.b.put x.x) q)),Value.int .i64 (gX.anti (iw.e (x.b.put x.x) q))]=Cs.eff (λ(x_2:Nat)=>[]) [(0,List.take 5 [Value.int .i64 x.x.line,Value.int .i64 x.x.cls,Value.int .u64 x.x.r,Value.int .u64 x.x.d,Value.int .i64 x.x.anti])] q)/\True)) (∃y_1:Unit,Hu x)) (∃y_1:Unit,Hu x)) (∃y:Unit,Hu x)) (∃y:Unit,Hu x)
theorem Pg(x:Bh):DT x=wpF Tryz.prog aj0 tt (noA x) 200 5 66 ((qF true).args x) (hO 1 (flatP 1 ((qF true).l x))) (λv h'=>endsPK 1 x v h' (qF true).outs):=by kernel_rfl
def DU(x:Bh):Prop:=
 cP (decide (x.x.line>=(2:Int))) (cP (decide (x.x.line<258)) (∃x_1:Int,True/\(x_1=x.x.cls/\True)/\True/\ ∀y:Unit,True->cP (decide (spn x_1>(0:Int))) (cP (decide (x.x.anti>=(-(1:Int)))) (cP (Bool.not (decide (x.x.anti<258))) (∃y_1:Unit,Hw x) (cP (decide ((x.b.n:Int)>=(258:Int))) (∃y_1:Unit,True/\ite (x.b.n<258) (0:Int) (11:Int)=11/\aoL x) ((AV.slW 1 0 5 x.b.n=AV.slW 1 0 5 x.b.n/\True)/\x.b.n=x.b.n/\List.all [List.take 5 [Value.int .i64 x.x.line,Value.int .i64 x.x.cls,Value.int .u64 x.x.r,Value.int .u64 x.x.d,Value.int .i64 x.x.anti]] (λ(l:List Value)=>Nat.beq (List.length l) 5&&List.all l Value.oneCell')=true/\(2*(x.b.n+1)+1000)*40<=281474976710656/\True/\True/\ ∃y_1:Unit,True/\ite (x.b.n<258) (0:Int) (11:Int)=0/\((0=0/\iw.n (x.b.put x.x)=x.b.n+1)/\True)/\(iw.n (x.b.put x.x)=x.b.n+List.length [List.take 5 [Value.int .i64 x.x.line,Value.int .i64 x.x.cls,Value.int .u64 x.x.r,Value.int .u64 x.x.d,Value.int .i64 x.x.anti]]/\ ∀q:Nat,q<iw.n (x.b.put x.x)->[Value.int .i64 (gX.line (iw.e (x.b.put x.x) q)),Value.int .i64 (gX.cls (iw.e (x.b.put x.x) q)),Value.int .u64 (gX.r (iw.e (x.b.put x.x) q)),Value.int .u64 (gX.d (iw.e (x.b.put x.x) q)),Value.int .i64 (gX.anti (iw.e (x.b.put x.x) q))]=Cs.eff (λ(i:Nat)=>gX.cs (x.b.e i)) [(x.b.n,List.take 5 [Value.int .i64 x.x.line,Value.int .i64 x.x.cls,Value.int .u64 x.x.r,Value.int .u64 x.x.d,Value.int .i64 x.x.anti])] q)/\True))) (∃y_1:Unit,Hw x)) (∃y_1:Unit,Hw x)) (∃y:Unit,Hw x)) (∃y:Unit,Hw x)
theorem Ph(x:Bh):DU x=wpF Tryz.prog aj0 tt (noA x) 200 5 66 ((qF false).args x) (hO 2 (flatP 1 ((qF false).l x))) (λv h'=>endsPK 1 x v h' (qF false).outs):=by kernel_rfl
def DV(x:Unit):Prop:=
 ∃y:Unit,True/\uj/\(uj/\True)/\True
theorem Pj(x:Unit):DV x=wpF Tryz.prog pI tt (noA x) 200 5 278 (Jv.args x) (hO 1 (flatP 1 (Jv.l x))) (λv h'=>endsPK 1 x v h' Jv.outs):=by kernel_rfl
def DW(x:iw):Prop:=
 0+x.n<=x.n/\cP (Nat.beq x.n 0) (∃y:Unit,True/\(x.n=0/\0=0/\0=0)/\((0=0/\x.n=x.n)/\True)/\(0=x.n*5/\ ∀q:Nat,q<x.n->[Value.int .i64 (gX.line (x.e q)),Value.int .i64 (gX.cls (x.e q)),Value.int .u64 (gX.r (x.e q)),Value.int .u64 (gX.d (x.e q)),Value.int .i64 (gX.anti (x.e q))]=List.take 5 (List.drop (q*5) (@List.nil Value)))/\afw x) ((2*(0+x.n)+1000)*40<=281474976710656/\ ∃y:Unit,True/\(0=0/\x.n=0+x.n)/\((0=0/\x.n=x.n)/\True)/\(x.n=0+x.n/\ ∀q:Nat,q<x.n->[Value.int .i64 (gX.line (x.e q)),Value.int .i64 (gX.cls (x.e q)),Value.int .u64 (gX.r (x.e q)),Value.int .u64 (gX.d (x.e q)),Value.int .i64 (gX.anti (x.e q))]=[Value.int .i64 (gX.line (x.e (0+(q-0)))),Value.int .i64 (gX.cls (x.e (0+(q-0)))),Value.int .u64 (gX.r (x.e (0+(q-0)))),Value.int .u64 (gX.d (x.e (0+(q-0)))),Value.int .i64 (gX.anti (x.e (0+(q-0))))])/\afw x)
theorem Pm(x:iw):DW x=wpF Tryz.prog pI tt (noA x) 200 5 278 (Jw.args x) (hO 2 (flatP 1 (Jw.l x))) (λv h'=>endsPK 1 x v h' Jw.outs):=by kernel_rfl
def uT(x:ZLnk):Prop:=
 I64 (0:Int)/\I64 (1:Int)/\((0:Int)<=0/\(0:Int)<=1/\(0:Int)<=281474976710608/\(0:Int)<=4611686018427387902)/\(0:Int)<=0/\(0<=0/\0<=0/\0<=0)/\0<=1/\True/\True/\(0:Int)<=0/\(0<=0/\0<=0/\0<=0)/\0<=1/\True/\True/\0<=1/\xO x/\0+(0+1)<=1/\I64 (1:Int)/\True/\ ∃y:Unit,True/\True/\((0=0/\1=1/\1=1)/\((0:Nat):Int)=0/\((1:Nat):Int)=1/\True)/\(1=1/\ ∀q:Nat,q<1->[Value.string (ZLnk.key (ite (q=0) x iI)),Value.int .u64 (ZLnk.id (ite (q=0) x iI)),Value.int .u64 (ZLnk.ver (ite (q=0) x iI)),Value.int .i64 (ZLnk.line (ite (q=0) x iI)),Value.int .i64 (ZLnk.cls (ite (q=0) x iI))]=Cs.eff (λ(x_1:Nat)=>[Value.string (ByteArray.mk #[]),Value.int .u64 0,Value.int .u64 0,Value.int .i64 0,Value.int .i64 0]) [(0,List.take 5 [Value.string x.key,Value.int .u64 x.id,Value.int .u64 x.ver,Value.int .i64 x.line,Value.int .i64 x.cls])] q)/\True
theorem FZ(x:ZLnk):uT x=wpF Tryz.prog pI tt (noA x) 200 5 254 (xK.args x) (hO 1 (flatP 1 (xK.l x))) (λv h'=>endsPK 1 x v h' xK.outs):=by kernel_rfl
def uU(x:aiS):Prop:=
 cP (BEq.beq (x.l.n:Int) (x.l.len:Int)) (I64 (2*(x.l.n:Int))/\I64 (2*(x.l.n:Int)+1)/\((0:Int)<=0/\0<=2*(x.l.n:Int)+1/\48*(2*(x.l.n:Int)+1)<=281474976710656/\2*(x.l.n:Int)+1<4611686018427387904)/\0<=(x.l.at_:Int)/\(x.l.at_<=x.l.len/\x.l.len<=x.l.cap/\x.l.cap<=x.l.cap)/\0<=Int.toNat (2*(x.l.n:Int)+1)/\0+x.l.at_+(x.l.len-x.l.at_)<=x.l.cap/\cP (Nat.beq (x.l.len-x.l.at_) 0) (True/\True/\0<=(x.l.at_:Int)/\YN x.l/\0<=Int.toNat (2*(x.l.n:Int)+1)/\0+(x.l.at_-0)<=x.l.cap/\cP (Nat.beq (x.l.at_-0) 0) (True/\True/\0<=Int.toNat (2*(x.l.n:Int)+1)/\xO x.x/\0+(0+1)<=Int.toNat (2*(x.l.n:Int)+1)/\I64 ((x.l.n:Int)+1)/\True/\ ∃y:Unit,True/\True/\((0=0/\ZLn.len (x.l.push x.x)=1/\xP x)/\Ht x)/\(xP x/\ ∀q:Nat,q<ZLn.cap (x.l.push x.x)->[Value.string (ZLnk.key (ZLn.e (x.l.push x.x) q)),Value.int .u64 (ZLnk.id (ZLn.e (x.l.push x.x) q)),Value.int .u64 (ZLnk.ver (ZLn.e (x.l.push x.x) q)),Value.int .i64 (ZLnk.line (ZLn.e (x.l.push x.x) q)),Value.int .i64 (ZLnk.cls (ZLn.e (x.l.push x.x) q))]=Cs.eff (λ(x_1:Nat)=>[Value.string (ByteArray.mk #[]),Value.int .u64 0,Value.int .u64 0,Value.int .i64 0,Value.int .i64 0]) [(0,List.take 5 [Value.string x.x.key,Value.int .u64 x.x.id,Value.int .u64 x.x.ver,Value.int .i64 x.x.line,Value.int .i64 x.x.cls])] q)/\True) (cP (Nat.ble (0+(x.l.at_-0)) (Int.toNat (2*(x.l.n:Int)+1))) (YK x.l/\0+(0+(x.l.at_-0))<=Int.toNat (2*(x.l.n:Int)+1)/\True/\True/\0+(0+(x.l.at_-0))<=Int.toNat (2*(x.l.n:Int)+1)/\cP (Nat.ble (0+(x.l.at_-0)+1) (Int.toNat (2*(x.l.n:Int)+1))) (xO x.x/\
 0+(0+(x.l.at_-0)+1)<=Int.toNat (2*(x.l.n:Int)+1)/\I64 ((x.l.n:Int)+1)/\True/\ ∃y:Unit,True/\True/\((0=0/\ZLn.len (x.l.push x.x)=0+(x.l.at_-0)+1/\xP x)/\Ht x)/\(xP x/\ ∀q:Nat,q<ZLn.cap (x.l.push x.x)->[Value.string (ZLnk.key (ZLn.e (x.l.push x.x) q)),Value.int .u64 (ZLnk.id (ZLn.e (x.l.push x.x) q)),Value.int .u64 (ZLnk.ver (ZLn.e (x.l.push x.x) q)),Value.int .i64 (ZLnk.line (ZLn.e (x.l.push x.x) q)),Value.int .i64 (ZLnk.cls (ZLn.e (x.l.push x.x) q))]=Cs.eff (λ(p:Nat)=>cond (Nat.ble 0 p&&Nat.blt p (0+(x.l.at_-0))) [Value.string (ZLnk.key (x.l.e (0+(p-0)))),Value.int .u64 (ZLnk.id (x.l.e (0+(p-0)))),Value.int .u64 (ZLnk.ver (x.l.e (0+(p-0)))),Value.int .i64 (ZLnk.line (x.l.e (0+(p-0)))),Value.int .i64 (ZLnk.cls (x.l.e (0+(p-0))))] [Value.string (ByteArray.mk #[]),Value.int .u64 0,Value.int .u64 0,Value.int .i64 0,Value.int .i64 0]) [(0+(0+(x.l.at_-0)),List.take 5 [Value.string x.x.key,Value.int .u64 x.x.id,Value.int .u64 x.x.ver,Value.int .i64 x.x.line,Value.int .i64 x.x.cls])] q)/\True) ((2*(0+(x.l.at_-0)+1)+1000)*48<=281474976710656/\aft x)) ((2*(0+(x.l.at_-0))+1000)*48<=281474976710656/\True/\True/\0+(x.l.at_-0)=0+(x.l.at_-0)/\xO x.x/\(2*(0+(x.l.at_-0)+1)+1000)*48<=281474976710656/\
 aft x))) (cP (Nat.ble (0+(x.l.len-x.l.at_)) (Int.toNat (2*(x.l.n:Int)+1))) ((∀k:Nat,k<x.l.len-x.l.at_->(Nat.beq (List.length [Value.string (ZLnk.key (x.l.e (0+x.l.at_+k))),Value.int .u64 (ZLnk.id (x.l.e (0+x.l.at_+k))),Value.int .u64 (ZLnk.ver (x.l.e (0+x.l.at_+k))),Value.int .i64 (ZLnk.line (x.l.e (0+x.l.at_+k))),Value.int .i64 (ZLnk.cls (x.l.e (0+x.l.at_+k)))]) 5&&List.all [Value.string (ZLnk.key (x.l.e (0+x.l.at_+k))),Value.int .u64 (ZLnk.id (x.l.e (0+x.l.at_+k))),Value.int .u64 (ZLnk.ver (x.l.e (0+x.l.at_+k))),Value.int .i64 (ZLnk.line (x.l.e (0+x.l.at_+k))),Value.int .i64 (ZLnk.cls (x.l.e (0+x.l.at_+k)))] Value.oneCell')=true)/\YM x.l/\True/\True/\0<=(x.l.at_:Int)/\YN x.l/\YM x.l/\0+(x.l.at_-0)<=x.l.cap/\cP (Nat.beq (x.l.at_-0) 0) (True/\True/\YM x.l/\cP (Nat.ble (0+(x.l.len-x.l.at_)+1) (Int.toNat (2*(x.l.n:Int)+1))) (xO x.x/\0+(0+(x.l.len-x.l.at_)+1)<=Int.toNat (2*(x.l.n:Int)+1)/\I64 ((x.l.n:Int)+1)/\True/\ ∃y:Unit,True/\True/\((0=0/\ZLn.len (x.l.push x.x)=0+(x.l.len-x.l.at_)+1/\xP x)/\Ht x)/\(xP x/\
 ∀q:Nat,q<ZLn.cap (x.l.push x.x)->[Value.string (ZLnk.key (ZLn.e (x.l.push x.x) q)),Value.int .u64 (ZLnk.id (ZLn.e (x.l.push x.x) q)),Value.int .u64 (ZLnk.ver (ZLn.e (x.l.push x.x) q)),Value.int .i64 (ZLnk.line (ZLn.e (x.l.push x.x) q)),Value.int .i64 (ZLnk.cls (ZLn.e (x.l.push x.x) q))]=Cs.eff (λ(p:Nat)=>cond (Nat.ble 0 p&&Nat.blt p (0+(x.l.len-x.l.at_))) [Value.string (ZLnk.key (x.l.e (0+x.l.at_+(p-0)))),Value.int .u64 (ZLnk.id (x.l.e (0+x.l.at_+(p-0)))),Value.int .u64 (ZLnk.ver (x.l.e (0+x.l.at_+(p-0)))),Value.int .i64 (ZLnk.line (x.l.e (0+x.l.at_+(p-0)))),Value.int .i64 (ZLnk.cls (x.l.e (0+x.l.at_+(p-0))))] [Value.string (ByteArray.mk #[]),Value.int .u64 0,Value.int .u64 0,Value.int .i64 0,Value.int .i64 0]) [(0+(0+(x.l.len-x.l.at_)),List.take 5 [Value.string x.x.key,Value.int .u64 x.x.id,Value.int .u64 x.x.ver,Value.int .i64 x.x.line,Value.int .i64 x.x.cls])] q)/\True) ((2*(0+(x.l.len-x.l.at_)+1)+1000)*48<=281474976710656/\aft x)) (cP (Nat.ble (0+(x.l.len-x.l.at_)+(x.l.at_-0)) (Int.toNat (2*(x.l.n:Int)+1))) (YK x.l/\0+(0+(x.l.len-x.l.at_)+(x.l.at_-0))<=Int.toNat (2*(x.l.n:Int)+1)/\True/\True/\0+(0+(x.l.len-x.l.at_)+(x.l.at_-0))<=Int.toNat (2*(x.l.n:Int)+1)/\cP (Nat.ble (0+(x.l.len-x.l.at_)+(x.l.at_-0)+1) (Int.toNat (2*(x.l.n:Int)+1))) (xO x.x/\0+(0+(x.l.len-x.l.at_)+(x.l.at_-0)+1)<=Int.toNat (2*(x.l.n:Int)+1)/\I64 ((x.l.n:Int)+1)/\True/\ ∃y:Unit,True/\True/\((0=0/\ZLn.len (x.l.push x.x)=0+(x.l.len-x.l.at_)+(x.l.at_-0)+1/\xP x)/\Ht x)/\(xP x/\
 ∀q:Nat,q<ZLn.cap (x.l.push x.x)->[Value.string (ZLnk.key (ZLn.e (x.l.push x.x) q)),Value.int .u64 (ZLnk.id (ZLn.e (x.l.push x.x) q)),Value.int .u64 (ZLnk.ver (ZLn.e (x.l.push x.x) q)),Value.int .i64 (ZLnk.line (ZLn.e (x.l.push x.x) q)),Value.int .i64 (ZLnk.cls (ZLn.e (x.l.push x.x) q))]=Cs.eff (λ(p:Nat)=>cond (Nat.ble (0+(0+(x.l.len-x.l.at_))) p&&Nat.blt p (0+(0+(x.l.len-x.l.at_))+(x.l.at_-0))) [Value.string (ZLnk.key (x.l.e (0+(p-(0+(0+(x.l.len-x.l.at_))))))),Value.int .u64 (ZLnk.id (x.l.e (0+(p-(0+(0+(x.l.len-x.l.at_))))))),Value.int .u64 (ZLnk.ver (x.l.e (0+(p-(0+(0+(x.l.len-x.l.at_))))))),Value.int .i64 (ZLnk.line (x.l.e (0+(p-(0+(0+(x.l.len-x.l.at_))))))),Value.int .i64 (ZLnk.cls (x.l.e (0+(p-(0+(0+(x.l.len-x.l.at_)))))))] (Cs.eff (λ(p_1:Nat)=>cond (Nat.ble 0 p_1&&Nat.blt p_1 (0+(x.l.len-x.l.at_))) [Value.string (ZLnk.key (x.l.e (0+x.l.at_+(p_1-0)))),Value.int .u64 (ZLnk.id (x.l.e (0+x.l.at_+(p_1-0)))),Value.int .u64 (ZLnk.ver (x.l.e (0+x.l.at_+(p_1-0)))),Value.int .i64 (ZLnk.line (x.l.e (0+x.l.at_+(p_1-0)))),Value.int .i64 (ZLnk.cls (x.l.e (0+x.l.at_+(p_1-0))))] [Value.string (ByteArray.mk #[]),Value.int .u64 0,Value.int .u64 0,Value.int .i64 0,Value.int .i64 0]) [] p)) [(0+(0+(x.l.len-x.l.at_)+(x.l.at_-0)),List.take 5 [Value.string x.x.key,Value.int .u64 x.x.id,Value.int .u64 x.x.ver,Value.int .i64 x.x.line,Value.int .i64 x.x.cls])] q)/\True) (afu x)) (afv x))) ((2*(0+(x.l.len-x.l.at_))+1000)*48<=281474976710656/\True/\True/\0<=(x.l.at_:Int)/\YN x.l/\0+(x.l.len-x.l.at_)=0+(x.l.len-x.l.at_)/\0+(x.l.at_-0)<=x.l.cap/\YK x.l/\
 afv x))) (I64 ((x.l.at_:Int)+(x.l.n:Int))/\((x.l.len:Int)=0->False)/\(0<=Int.tmod ((x.l.at_:Int)+(x.l.n:Int)) (x.l.len:Int)/\Int.tmod ((x.l.at_:Int)+(x.l.n:Int)) (x.l.len:Int)<(x.l.len:Int))/\0+Int.toNat (Int.tmod ((x.l.at_:Int)+(x.l.n:Int)) (x.l.len:Int))<x.l.cap/\True/\I64 ((x.l.n:Int)+1)/\True/\ ∃y:Unit,True/\True/\((0=0/\ZLn.len (x.l.push x.x)=x.l.len/\ZLn.cap (x.l.push x.x)=x.l.cap)/\((ZLn.at_ (x.l.push x.x):Nat):Int)=(x.l.at_:Int)/\((ZLn.n (x.l.push x.x):Nat):Int)=(x.l.n:Int)+1/\True)/\(ZLn.cap (x.l.push x.x)=x.l.cap/\ ∀q:Nat,q<ZLn.cap (x.l.push x.x)->[Value.string (ZLnk.key (ZLn.e (x.l.push x.x) q)),Value.int .u64 (ZLnk.id (ZLn.e (x.l.push x.x) q)),Value.int .u64 (ZLnk.ver (ZLn.e (x.l.push x.x) q)),Value.int .i64 (ZLnk.line (ZLn.e (x.l.push x.x) q)),Value.int .i64 (ZLnk.cls (ZLn.e (x.l.push x.x) q))]=Cs.eff (λ(i:Nat)=>ZLnk.cs (x.l.e i)) [(0+Int.toNat (Int.tmod ((x.l.at_:Int)+(x.l.n:Int)) (x.l.len:Int)),[Value.string x.x.key,Value.int .u64 x.x.id,Value.int .u64 x.x.ver,Value.int .i64 x.x.line,Value.int .i64 x.x.cls])] q)/\True)
theorem F5(x:aiS):uU x=wpF Tryz.prog pI tt (noA x) 200 5 254 (xM.args x) (hO 2 (flatP 1 (xM.l x))) (λv h'=>endsPK 1 x v h' xM.outs):=by kernel_rfl
def yR(x:Unit):Prop:=
 amR
theorem Jy(x:Unit):yR x=wpF Tryz.prog pI tt (noA x) 200 5 255 (BO.args x) (hO 1 (flatP 1 (BO.l x))) (λv h'=>endsPK 1 x v h' BO.outs):=by kernel_rfl
def yS(x:ZLn):Prop:=
 cP (BEq.beq (x.n:Int) (0:Int)) (∃y:Unit,True/\amS x/\((0=0/\x.pop.len=x.len/\x.pop.cap=x.cap)/\(x.pop.at_:Int)=(x.at_:Int)/\(x.pop.n:Int)=(x.n:Int)/\True)/\(x.pop.cap=x.cap/\ ∀q:Nat,q<x.pop.cap->[Value.string (ZLnk.key (x.pop.e q)),Value.int .u64 (ZLnk.id (x.pop.e q)),Value.int .u64 (ZLnk.ver (x.pop.e q)),Value.int .i64 (ZLnk.line (x.pop.e q)),Value.int .i64 (ZLnk.cls (x.pop.e q))]=[Value.string (ZLnk.key (x.e q)),Value.int .u64 (ZLnk.id (x.e q)),Value.int .u64 (ZLnk.ver (x.e q)),Value.int .i64 (ZLnk.line (x.e q)),Value.int .i64 (ZLnk.cls (x.e q))])/\True) (afx x/\0+x.at_<x.cap/\True/\afx x/\0+x.at_<x.cap/\True/\I64 ((x.at_:Int)+1)/\((x.len:Int)=0->False)/\True/\I64 ((x.n:Int)-1)/\ ∃y:Unit,True/\amQ x/\((0=0/\x.pop.len=x.len/\x.pop.cap=x.cap)/\(x.pop.at_:Int)=Int.tmod ((x.at_:Int)+1) (x.len:Int)/\(x.pop.n:Int)=(x.n:Int)-1/\True)/\(x.pop.cap=x.cap/\ ∀q:Nat,q<x.pop.cap->[Value.string (ZLnk.key (x.pop.e q)),Value.int .u64 (ZLnk.id (x.pop.e q)),Value.int .u64 (ZLnk.ver (x.pop.e q)),Value.int .i64 (ZLnk.line (x.pop.e q)),Value.int .i64 (ZLnk.cls (x.pop.e q))]=Cs.eff (λ(i:Nat)=>ZLnk.cs (x.e i)) [(0+x.at_,[Value.string (ByteArray.mk #[]),Value.int .u64 0,Value.int .u64 0,Value.int .i64 0,Value.int .i64 0])] q)/\True)
theorem Jz(x:ZLn):yS x=wpF Tryz.prog pI tt (noA x) 200 5 255 (BP.args x) (hO 2 (flatP 1 (BP.l x))) (λv h'=>endsPK 1 x v h' BP.outs):=by kernel_rfl
def yT(x:Unit):Prop:=
 ∃y:Unit,True/\uj/\YL
theorem JA(x:Unit):yT x=wpF Tryz.prog pI tt (noA x) 200 5 70 (BQ.args x) (hO 1 (flatP 1 (BQ.l x))) (λv h'=>endsPK 1 x v h' BQ.outs):=by kernel_rfl
def yU(x:ZLn):Prop:=
 (∃s:Unit,Hd True/\True/\((0:Int)=0/\uj/\True)/\aaN x/\Hy x/\True)/\(∀s:Unit,Hd True->cP (decide (0<(x.n:Int))) (I64 ((x.at_:Int)+0)/\((x.len:Int)=0->False)/\(0<=Int.tmod ((x.at_:Int)+0) (x.len:Int)/\Int.tmod ((x.at_:Int)+0) (x.len:Int)<(x.len:Int))/\0+Int.toNat (Int.tmod ((x.at_:Int)+0) (x.len:Int))<x.cap/\True/\(2*(0+1)+1000)*48<=281474976710656/\True/\True/\I64 (1:Int)/\ ∃s_1:Nat,Hd (1<=s_1/\s_1<=x.n)/\x.n-s_1<x.n+1/\((s_1:Int)=1/\(0=0/\s_1=1)/\True)/\(s_1=0+List.length [List.take 5 [Value.string (ZLnk.key (x.e (0+Int.toNat (Int.tmod ((x.at_:Int)+0) (x.len:Int))))),Value.int .u64 (ZLnk.id (x.e (0+Int.toNat (Int.tmod ((x.at_:Int)+0) (x.len:Int))))),Value.int .u64 (ZLnk.ver (x.e (0+Int.toNat (Int.tmod ((x.at_:Int)+0) (x.len:Int))))),Value.int .i64 (ZLnk.line (x.e (0+Int.toNat (Int.tmod ((x.at_:Int)+0) (x.len:Int))))),Value.int .i64 (ZLnk.cls (x.e (0+Int.toNat (Int.tmod ((x.at_:Int)+0) (x.len:Int)))))]]/\
 ∀q:Nat,q<s_1->[Value.string (ZLnk.key (x.get q)),Value.int .u64 (ZLnk.id (x.get q)),Value.int .u64 (ZLnk.ver (x.get q)),Value.int .i64 (ZLnk.line (x.get q)),Value.int .i64 (ZLnk.cls (x.get q))]=Cs.eff (λ(x_1:Nat)=>[]) [(0,List.take 5 [Value.string (ZLnk.key (x.e (0+Int.toNat (Int.tmod ((x.at_:Int)+0) (x.len:Int))))),Value.int .u64 (ZLnk.id (x.e (0+Int.toNat (Int.tmod ((x.at_:Int)+0) (x.len:Int))))),Value.int .u64 (ZLnk.ver (x.e (0+Int.toNat (Int.tmod ((x.at_:Int)+0) (x.len:Int))))),Value.int .i64 (ZLnk.line (x.e (0+Int.toNat (Int.tmod ((x.at_:Int)+0) (x.len:Int))))),Value.int .i64 (ZLnk.cls (x.e (0+Int.toNat (Int.tmod ((x.at_:Int)+0) (x.len:Int)))))])] q)/\aaN x/\Hy x/\True) ((∃y:Unit,Hd (x.n=0)/\uj/\afy x)\/ ∃y:Unit,Hd (x.n≠0)/\False))/\(∀s:Nat,Hd (1<=s/\s<=x.n)->cP (decide ((s:Int)<(x.n:Int))) (I64 ((x.at_:Int)+(s:Int))/\((x.len:Int)=0->False)/\(0<=Int.tmod ((x.at_:Int)+(s:Int)) (x.len:Int)/\Int.tmod ((x.at_:Int)+(s:Int)) (x.len:Int)<(x.len:Int))/\0+Int.toNat (Int.tmod ((x.at_:Int)+(s:Int)) (x.len:Int))<x.cap/\True/\s=s/\
 List.all [List.take 5 [Value.string (ZLnk.key (x.e (0+Int.toNat (Int.tmod ((x.at_:Int)+(s:Int)) (x.len:Int))))),Value.int .u64 (ZLnk.id (x.e (0+Int.toNat (Int.tmod ((x.at_:Int)+(s:Int)) (x.len:Int))))),Value.int .u64 (ZLnk.ver (x.e (0+Int.toNat (Int.tmod ((x.at_:Int)+(s:Int)) (x.len:Int))))),Value.int .i64 (ZLnk.line (x.e (0+Int.toNat (Int.tmod ((x.at_:Int)+(s:Int)) (x.len:Int))))),Value.int .i64 (ZLnk.cls (x.e (0+Int.toNat (Int.tmod ((x.at_:Int)+(s:Int)) (x.len:Int)))))]] (λ(l:List Value)=>Nat.beq (List.length l) 5&&List.all l Value.oneCell')=true/\(2*(s+1)+1000)*48<=281474976710656/\True/\True/\I64 ((s:Int)+1)/\ ∃s_1:Nat,Hd (1<=s_1/\s_1<=x.n)/\x.n-s_1<x.n-s/\((s_1:Int)=(s:Int)+1/\(0=0/\s_1=s+1)/\True)/\(s_1=s+List.length [List.take 5 [Value.string (ZLnk.key (x.e (0+Int.toNat (Int.tmod ((x.at_:Int)+(s:Int)) (x.len:Int))))),Value.int .u64 (ZLnk.id (x.e (0+Int.toNat (Int.tmod ((x.at_:Int)+(s:Int)) (x.len:Int))))),Value.int .u64 (ZLnk.ver (x.e (0+Int.toNat (Int.tmod ((x.at_:Int)+(s:Int)) (x.len:Int))))),Value.int .i64 (ZLnk.line (x.e (0+Int.toNat (Int.tmod ((x.at_:Int)+(s:Int)) (x.len:Int))))),Value.int .i64 (ZLnk.cls (x.e (0+Int.toNat (Int.tmod ((x.at_:Int)+(s:Int)) (x.len:Int)))))]]/\
 ∀q:Nat,q<s_1->[Value.string (ZLnk.key (x.get q)),Value.int .u64 (ZLnk.id (x.get q)),Value.int .u64 (ZLnk.ver (x.get q)),Value.int .i64 (ZLnk.line (x.get q)),Value.int .i64 (ZLnk.cls (x.get q))]=Cs.eff (λ(j:Nat)=>ZLnk.cs (x.get j)) [(s,List.take 5 [Value.string (ZLnk.key (x.e (0+Int.toNat (Int.tmod ((x.at_:Int)+(s:Int)) (x.len:Int))))),Value.int .u64 (ZLnk.id (x.e (0+Int.toNat (Int.tmod ((x.at_:Int)+(s:Int)) (x.len:Int))))),Value.int .u64 (ZLnk.ver (x.e (0+Int.toNat (Int.tmod ((x.at_:Int)+(s:Int)) (x.len:Int))))),Value.int .i64 (ZLnk.line (x.e (0+Int.toNat (Int.tmod ((x.at_:Int)+(s:Int)) (x.len:Int))))),Value.int .i64 (ZLnk.cls (x.e (0+Int.toNat (Int.tmod ((x.at_:Int)+(s:Int)) (x.len:Int)))))])] q)/\aaN x/\Hy x/\True) ((∃y:Unit,Hd (x.n=0)/\False/\afy x)\/ ∃y:Unit,Hd (x.n≠0)/\(0=0/\x.n=s)/\Hy x/\(x.n=s/\ ∀q:Nat,q<x.n->[Value.string (ZLnk.key (x.get q)),Value.int .u64 (ZLnk.id (x.get q)),Value.int .u64 (ZLnk.ver (x.get q)),Value.int .i64 (ZLnk.line (x.get q)),Value.int .i64 (ZLnk.cls (x.get q))]=[Value.string (ZLnk.key (x.get q)),Value.int .u64 (ZLnk.id (x.get q)),Value.int .u64 (ZLnk.ver (x.get q)),Value.int .i64 (ZLnk.line (x.get q)),Value.int .i64 (ZLnk.cls (x.get q))])/\aaN x/\True))/\True
theorem JB(x:ZLn):yU x=wpF Tryz.prog pI tt (arb x) 200 5 70 (BR.args x) (hO 2 (flatP 1 (BR.l x))) (λv h'=>endsPK 1 x v h' BR.outs):=by kernel_rfl
theorem Us{c:Int}(h:0<=c/\c<=3):0<spn c:=by
 unfold spn;split
 ·omega
 ·split
  ·omega
  ·split
   ·omega
   ·split<;>omega
theorem DX{g:Nat->List Value}{k q:Nat}{c:List Value}:Cs.eff g [(k,c)] q=if q=k then c else g q:=by
 simp only[Cs.eff,bQ,dw,dA,dI,<-Bool.decide_and]
theorem aoM(f:Nat->gX)(k:Nat)(x:gX)(q:Nat)(e:gX)(he:e=if q=k then x else f q):[Value.int .i64 e.line,Value.int .i64 e.cls,Value.int .u64 e.r,Value.int .u64 e.d,Value.int .i64 e.anti]=Cs.eff (λi=>(f i).cs) [(k,List.take 5 [Value.int .i64 x.line,Value.int .i64 x.cls,Value.int .u64 x.r,Value.int .u64 x.d,Value.int .i64 x.anti])] q:=by
 subst he;rw[DX];split<;>rfl
theorem Ut(f:Nat->ZLnk)(k:Nat)(x:ZLnk)(q:Nat)(e:ZLnk)(he:e=if q=k then x else f q):[Value.string e.key,Value.int .u64 e.id,Value.int .u64 e.ver,Value.int .i64 e.line,Value.int .i64 e.cls]=Cs.eff (λi=>(f i).cs) [(k,[Value.string x.key,Value.int .u64 x.id,Value.int .u64 x.ver,Value.int .i64 x.line,Value.int .i64 x.cls])] q:=by
 subst he;rw[DX];split<;>rfl
theorem F6(x:Bh)(hx:x.b.ok/\x.x.may/\x.b.z=true):DT x:=by
 obtain⟨⟨h1,h2⟩,⟨m1,m2,m3,m4,m5,m6⟩,hz⟩:=hx;have hn:=h2 hz;have hs:=Us (c:=x.x.cls) ⟨m3,m4⟩;have e1:decide (x.x.line>=2)=true:=decide_eq_true m1;have e2:decide (x.x.line<258)=true:=decide_eq_true m2;have e3:decide (spn x.x.cls>0)=true:=decide_eq_true hs;have e4:decide (x.x.anti>= -1)=true:=decide_eq_true m5;have e5:decide (x.x.anti<258)=true:=decide_eq_true m6;unfold DT;simp only[Hu];simp only[aZ,aV,aU,aA,aI,bT,bF,aO,aK,ay,aX,aW,bU,bH,bI,bJ,bV,bD,bK,bC,eY,aH,aN,ah,ak,aB,aF,aC,aG,e1,e2,e3,e4,e5,kM,ig,Bool.not_true];have e:x.b.put x.x=⟨false,1,λi=>if i=0 then x.x else x.b.e i⟩:=by unfold iw.put;rw[hn];rfl
 rw[e,hn];refine⟨by decide,rfl,rfl,rfl,λq hq=> ?_⟩;have:q=0:=by have:q<1:=hq;omega
 subst this;rfl
theorem F7(x:Bh)(hx:x.b.ok/\x.x.may/\x.b.z=false):DU x:=by
 obtain⟨⟨h1,h2⟩,⟨m1,m2,m3,m4,m5,m6⟩,hz⟩:=hx;have hs:=Us (c:=x.x.cls) ⟨m3,m4⟩;have e1:decide (x.x.line>=2)=true:=decide_eq_true m1;have e2:decide (x.x.line<258)=true:=decide_eq_true m2;have e3:decide (spn x.x.cls>0)=true:=decide_eq_true hs;have e4:decide (x.x.anti>= -1)=true:=decide_eq_true m5;have e5:decide (x.x.anti<258)=true:=decide_eq_true m6;unfold DU;simp only[Hw,aoL];simp only[aZ,aV,aU,aA,aI,bT,bF,aO,aK,ay,aX,aW,bU,bH,bI,bJ,bV,bD,bK,bC,eY,aH,aN,ah,ak,aB,aF,aC,aG,e1,e2,e3,e4,e5,kM,ig,Bool.not_true];unfold iw.put;refine bf (λh=> ?_) λh=> ?_
 ·have hge: ¬x.b.n<258:=by have:=aS h;omega
  simp only[if_neg hge];exact⟨trivial,trivial,trivial,λq _=>trivial⟩
 ·have hlt:x.b.n<258:=by have:=aT h;omega
  simp only[if_pos hlt];exact⟨rfl,by omega,trivial,trivial,rfl,λq hq=>aoM _ _ _ _ _ rfl⟩
theorem F8(x:Unit):DV x:=by
 unfold DV;simp only[uj];simp only[aZ,aV,aU,aA,aI,bT,bF,aO,aK,ay,aX,aW,bU,bH,bI,bJ,bV,bD,bK,bC,eY,aH,aN,ah,ak,aB,aF,aC,aG]
theorem F9(x:iw)(hx:x.ok/\x.z=false):DW x:=by
 have:=hx.1.1;unfold DW;simp only[afw];simp only[aZ,aV,aU,aA,aI,bT,bF,aO,aK,ay,aX,aW,bU,bH,bI,bJ,bV,bD,bK,bC,eY,aH,aN,ah,ak,aB,aF,aC,aG];refine⟨aY _,bf (λh=> ?_) λ_=>by omega⟩;have h0:x.n=0:=au h;exact⟨h0,by omega,λq hq=>by omega⟩
theorem DY(x:Unit):yR x:=by
 unfold yR;simp only[amR,YL,uj];simp only[aZ,aV,aU,aA,aI,bT,bF,aO,aK,ay,aX,aW,bU,bH,bI,bJ,bV,bD,bK,bC,eY,aH,aN,ah,ak,aB,aF,aC,aG]
theorem DZ(x:Unit):yT x:=by
 unfold yT;simp only[uj,YL];simp only[aZ,aV,aU,aA,aI,bT,bF,aO,aK,ay,aX,aW,bU,bH,bI,bJ,bV,bD,bK,bC,eY,aH,aN,ah,ak,aB,aF,aC,aG]
theorem aki{x:ZLn}(h:x.at_<x.len):x.get 0=x.e x.at_:=by
 unfold ZLn.get;rw[aI,Nat.mod_eq_of_lt h]
theorem D5(x:ZLn)(hx:x.ok/\x.len≠0):yS x:=by
 obtain⟨⟨o1,o2,o3,o4,o5⟩,hl⟩:=hx;have:=o5 hl;unfold yS;simp only[amS,afx,amQ];simp only[aZ,aV,aU,aA,aI,bT,bF,aO,aK,ay,aX,aW,bU,bH,bI,bJ,bV,bD,bK,bC,eY,aH,aN,ah,ak,aB,aF,aC,aG];refine bf (λh=> ?_) λh=> ?_
 ·have h0:x.n=0:=by have:=beq_iff_eq.1 h;omega
  rw[show x.head=iI from if_pos h0,show x.pop=x from if_pos h0,h0];exact⟨⟨⟨rfl,rfl,rfl,rfl,rfl⟩,rfl⟩,⟨⟨rfl,rfl⟩,rfl,rfl⟩,rfl,λq _=>rfl⟩
 ·have h0:x.n≠0:=λe=>by rw[e]at h;exact absurd h (by decide)
  rw[show x.head=x.e x.at_ from (if_neg h0).trans (aki this),show x.pop=⟨x.len,x.cap,(x.at_+1)%x.len,x.n-1,λi=>if i=x.at_ then iI else x.e i⟩ from if_neg h0];exact⟨⟨by omega,by omega⟩,by omega,⟨by omega,by omega⟩,by omega,⟨by unfold I64;omega,by omega,by unfold I64;omega,⟨⟨rfl,rfl,rfl,rfl,rfl⟩,decide_eq_true h0⟩,⟨⟨rfl,rfl⟩,(Int.ofNat_tmod (x.at_+1) x.len),by show((x.n-1:Nat):Int)=_;omega⟩,rfl,λq _=>Ut _ _ iI _ _ rfl⟩⟩
theorem Bj(x:ZLnk):uT x:=by
 unfold uT;simp only[xO];simp only[aZ,aV,aU,aA,aI,bT,bF,aO,aK,ay,aX,aW,bU,bH,bI,bJ,bV,bD,bK,bC,eY,aH,aN,ah,ak,aB,aF,aC,aG];refine⟨by unfold I64;omega,by unfold I64;omega,by decide,by decide,by decide,by decide,by decide,by decide,by decide,by decide,rfl,by decide,by unfold I64;omega,⟨rfl,rfl⟩,λq hq=> ?_⟩;have:q=0:=by omega
 subst this;rfl
theorem IK(a b:Nat):((a:Int)+(b:Int))=((a+b:Nat):Int):=by omega
theorem aoN{x:ZLn}(s:Nat):x.e ((x.at_+s)%x.len)=x.get s:=rfl
theorem D6(x:ZLn)(hx:x.ok/\x.len≠0):yU x:=by
 obtain⟨⟨o1,o2,o3,o4,o5⟩,hl⟩:=hx;have:=o5 hl;have ht: ∀s:Nat,((x.at_:Int)+(s:Int)).tmod (x.len:Int)=(((x.at_+s)%x.len:Nat):Int):=λs=>by rw[IK];exact(Int.ofNat_tmod _ _).symm
 have hm: ∀s:Nat,(x.at_+s)%x.len<x.len:=λs=>Nat.mod_lt _ (by omega)
 have hm0:=hm 0;have ht0:=ht 0;have hg0:x.e (x.at_%x.len)=x.get 0:=rfl;unfold yU;simp only[uj,aaN,Hy,afy];simp only[Int.natCast_zero,Int.add_zero,aI]at ht0 hm0;simp only[aZ,aV,aU,aA,aI,bT,bF,aO,aK,ay,aX,aW,bU,bH,bI,bJ,bV,bD,bK,bC,eY,aH,aN,ah,ak,aB,aF,aC,aG,Int.add_zero,ht,ht0,hg0,aoN];refine⟨bf (λh=> ?_) λh=> ?_,λs hs=>bf (λh=> ?_) λh=> ?_⟩
 ·have hn:0<x.n:=by have:=aS h;omega
  refine⟨by unfold I64;omega,by omega,⟨by omega,by omega⟩,by omega,by omega,by unfold I64;omega,1,by omega,by omega,by omega,rfl,λq hq=> ?_⟩;have:q=0:=by omega
  subst this;rfl
 ·exact .inl (by have:=aT h;omega)
 ·have hn:s<x.n:=by have:=aS h;omega
  have:=hm s;refine⟨by unfold I64;omega,by omega,⟨by omega,by omega⟩,by omega,rfl,by omega,by unfold I64;omega,s+1,by omega,by omega,by omega,rfl,λq hq=>Ut _ _ (x.get s) _ _ ?_⟩;split
  ·rename_i e;rw[e]
  ·rfl
 ·exact .inr (by have:=aT h;omega)
theorem Bl(x:aiS)(hx:x.l.ok/\x.l.len≠0):uU x:=by
 obtain⟨⟨o1,o2,o3,o4,o5⟩,hl⟩:=hx;have hat:=o5 hl;have e1:Nat.beq (x.l.len-x.l.at_) 0=false:=by rw[dA];exact decide_eq_false (by omega)
 have g1: ∀q,q<x.l.len-x.l.at_->x.l.get q=x.l.e (x.l.at_+q):=λq h=>by unfold ZLn.get;rw[Nat.mod_eq_of_lt (by omega)]
 have g2: ∀q,x.l.len-x.l.at_<=q->q<x.l.len->x.l.get q=x.l.e (q-(x.l.len-x.l.at_)):=λq h1 h2=>by
  unfold ZLn.get;rw[show x.l.at_+q=(q-(x.l.len-x.l.at_))+x.l.len by omega,Nat.add_mod_right,Nat.mod_eq_of_lt (by omega)]
 have hz:iI=⟨⟨#[]⟩,0,0,0,0⟩:=rfl;unfold uU;simp only[YN,xO,xP,Ht,YK,aft,YM,afu,afv];simp only[aZ,aV,aU,aA,aI,bT,bF,aO,aK,ay,aX,aW,bU,bH,bI,bJ,bV,bD,bK,bC,eY,aH,aN,ah,ak,aB,aF,aC,aG,e1,ig];refine bf (λh=> ?_) λh=> ?_
 ·have hn:x.l.n=x.l.len:=by have:=beq_iff_eq.1 h;omega
  have e2:(2*(x.l.n:Int)+1).toNat=2*x.l.len+1:=by omega
  have e3:Nat.ble (x.l.len-x.l.at_) (2*x.l.len+1)=true:=by rw[Nat.ble_eq];omega
  have e4:x.l.push x.x=⟨x.l.len+1,2*x.l.len+1,0,x.l.len+1,λi=>if i<x.l.len then x.l.get i else if i=x.l.len then x.x else iI⟩:=by rw[<-hn];exact if_pos hn
  simp only[e2,e3,e4,kM];by_cases ha:x.l.at_=0
  ·have e5:Nat.beq x.l.at_ 0=true:=by rw[ha];rfl
   have e6:Nat.ble (x.l.len-x.l.at_+1) (2*x.l.len+1)=true:=by rw[Nat.ble_eq];omega
   simp only[e5,e6,kM];refine⟨by unfold I64;omega,by unfold I64;omega,by omega,by omega,by omega,by omega,by omega,λk _=>rfl,by omega,by omega,by omega,by omega,by omega,by omega,rfl,by omega,by unfold I64;omega,⟨⟨by omega,trivial⟩,by omega,by omega⟩,trivial,λq hq=> ?_⟩;rw[DX];simp only[Cs.eff,bQ,dw,dA,dI,<-Bool.decide_and];grind
  ·have e5:Nat.beq x.l.at_ 0=false:=by rw[dA];exact decide_eq_false ha
   have e6:Nat.ble (x.l.len-x.l.at_+x.l.at_) (2*x.l.len+1)=true:=by rw[Nat.ble_eq];omega
   have e7:Nat.ble (x.l.len-x.l.at_+x.l.at_+1) (2*x.l.len+1)=true:=by rw[Nat.ble_eq];omega
   simp only[e5,e6,e7,kM,ig];refine⟨by unfold I64;omega,by unfold I64;omega,by omega,by omega,by omega,by omega,by omega,λk _=>rfl,by omega,by omega,by omega,by omega,by omega,λk _=>rfl,by omega,by omega,rfl,by omega,by unfold I64;omega,⟨⟨by omega,trivial⟩,by omega,by omega⟩,trivial,λq hq=> ?_⟩;rw[DX];simp only[Cs.eff,bQ,dw,dA,dI,<-Bool.decide_and];grind
 ·have hn:x.l.n≠x.l.len:=λe=>by rw[e]at h;simp at h
  have ht:((x.l.at_:Int)+(x.l.n:Int)).tmod (x.l.len:Int)=(((x.l.at_+x.l.n)%x.l.len:Nat):Int):=by rw[IK];exact(Int.ofNat_tmod _ _).symm
  have hm:(x.l.at_+x.l.n)%x.l.len<x.l.len:=Nat.mod_lt _ (by omega);rw[show x.l.push x.x=⟨x.l.len,x.l.cap,x.l.at_,x.l.n+1,λi=>if i=(x.l.at_+x.l.n)%x.l.len then x.x else x.l.e i⟩ from if_neg hn];simp only[ht,ay];exact⟨by unfold I64;omega,by omega,⟨by omega,by omega⟩,by omega,by unfold I64;omega,⟨⟨trivial,trivial⟩,trivial,by omega⟩,trivial,λq _=>Ut _ _ x.x _ _ rfl⟩
theorem aaO:bZ Tryz.prog 66 (qF true).ctr:=cO dF mixed (.cons (bP mO) .nil) 1 noA 200 5 (λ_=>⟨rfl,rfl,rfl,rfl⟩) λx hx=>Eq.mp (Pg x) (F6 x (aZ.1 hx))
theorem aaP:bZ Tryz.prog 66 (qF false).ctr:=cO dF mixed (.cons (bP mO) .nil) 2 noA 200 5 (λ_=>⟨rfl,rfl,rfl,rfl⟩) λx hx=>Eq.mp (Ph x) (F7 x (aZ.1 hx))
theorem aaQ:bZ Tryz.prog 278 Jv.ctr:=cO dF mixed dS 1 noA 200 5 (λ_=>⟨rfl,rfl,rfl,rfl⟩) λx _=>Eq.mp (Pj x) (F8 x)
theorem aaR:bZ Tryz.prog 278 Jw.ctr:=cO dF mixed dS 2 noA 200 5 (λ_=>⟨rfl,rfl,rfl,rfl⟩) λx hx=>Eq.mp (Pm x) (F9 x (aZ.1 hx))
theorem Pn:bZ Tryz.prog 254 xK.ctr:=cO dF mixed dS 1 noA 200 5 (λ_=>⟨rfl,rfl,rfl,rfl⟩) λx _=>Eq.mp (FZ x) (Bj x)
theorem Po:bZ Tryz.prog 254 xM.ctr:=cO dF mixed dS 2 noA 200 5 (λ_=>⟨rfl,rfl,rfl,rfl⟩) λx hx=>Eq.mp (F5 x) (Bl x (aZ.1 hx))
theorem Uu:bZ Tryz.prog 255 BO.ctr:=cO dF mixed dS 1 noA 200 5 (λ_=>⟨rfl,rfl,rfl,rfl⟩) λx _=>Eq.mp (Jy x) (DY x)
theorem Uw:bZ Tryz.prog 255 BP.ctr:=cO dF mixed dS 2 noA 200 5 (λ_=>⟨rfl,rfl,rfl,rfl⟩) λx hx=>Eq.mp (Jz x) (D5 x (aZ.1 hx))
theorem Ux:bZ Tryz.prog 70 BQ.ctr:=cO dF mixed dS 1 noA 200 5 (λ_=>⟨rfl,rfl,rfl,rfl⟩) λx _=>Eq.mp (JA x) (DZ x)
theorem Uy:bZ Tryz.prog 70 BR.ctr:=cO dF mixed dS 2 arb 200 5 (λ_=>⟨rfl,rfl,rfl,rfl⟩) λx hx=>Eq.mp (JB x) (D6 x (aZ.1 hx))
theorem xQ{X:Type}(x:X)(v:AV)(h':Heap):lK x v h' []=False:=by with_unfolding_all rfl
theorem dU{X:Type}(x:X)(v:AV)(h':Heap)(o:Out X)(r:List (Out X)):lK x v h' (o::r)=((∃y,o.post x y/\v=o.ret x y/\h'=hO o.m (o.os x y))\/lK x v h' r):=by with_unfolding_all rfl
theorem jT{X:Type}{x:X}{v:AV}{h':Heap}{o:Out X}(h:lK x v h' [o]): ∃y,o.post x y/\v=o.ret x y/\h'=hO o.m (o.os x y):=by
 rw[dU,xQ,or_false]at h;exact h
theorem qG{X:Type}{x:X}{v:AV}{h':Heap}{o p:Out X}(h:lK x v h' [o,p]):(∃y,o.post x y/\v=o.ret x y/\h'=hO o.m (o.os x y))\/ ∃y,p.post x y/\v=p.ret x y/\h'=hO p.m (p.os x y):=by
 rw[dU,dU,xQ,or_false]at h;exact h
theorem fE{X:Type}{x:X}{v:AV}{h':Heap}{o:Out X}{r:List (Out X)}(h: ∃y,o.post x y/\v=o.ret x y/\h'=hO o.m (o.os x y)):lK x v h' (o::r):=by
 rw[dU];exact .inl h
theorem D7{X:Type}{x:X}{v:AV}{h':Heap}{o p:Out X}{r:List (Out X)}(h: ∃y,p.post x y/\v=p.ret x y/\h'=hO p.m (p.os x y)):lK x v h' (o::p::r):=by
 rw[dU,dU];exact .inr (.inl h)
theorem Uz{P:Program}{f:FuncId}{X:Type}{args:X->List AV}{k:Nat}{l:X->List PO}{pre:X->Prop}{ret:X->AV}{m:Nat}{l':X->List PO}
  (h: ∀x,pre x-> ∃(Y:Type) (a2:Y->List AV) (l2:Y->List PO) (p2:Y->Prop) (r2:Y->AV) (l2':Y->List PO) (y:Y),bZ P f (qE Y a2 k l2 p2 r2 m l2').ctr/\p2 y/\a2 y=args x/\l2 y=l x/\r2 y=ret x/\l2' y=l' x):
  bZ P f (qE X args k l pre ret m l').ctr:=by
 refine jS λx hx=> ?_
 obtain⟨Y,a2,l2,p2,r2,l2',y,h1,h2,h3,h4,h5,h6⟩:=h x hx;refine⟨_,h1,rfl,y,h2,h3,by simp only[qE,jE.ctr,h4],λv h' hh=> ?_⟩;obtain⟨u,e1,e2,e3⟩:=jT hh;exact fE ⟨u,trivial,by rw[e2];exact h5,by rw[e3];show hO m ((l2' y).map PO.ab)=hO m ((l' x).map PO.ab);rw[h6]⟩
def afz:jE:=qE Bh (λx=>[.ptr 0 0,x.x.av]) 1 (λx=>[.m x.b.os]) (λx=>Hd (x.b.ok/\x.x.may)) (λx=>i64 (if x.b.n<258 then 0 else 11)) 1 (λx=>[.m (x.b.put x.x).os])
def afA:jE:={X:=iw,args:=λ_=>[.ptr 0 0],k:=1,l:=λb=>[.m b.os],pre:=λb=>Hd b.ok,outs:=[
 {Y:=Unit,post:=λb _=>Hd (b.n=0),ret:=λ_ _=>gY,m:=1,l:=λb _=>[.m b.os]},
 {Y:=Unit,post:=λ_ _=>Hd True,ret:=λb _=> .slW 1 0 5 b.n,m:=2,l:=λb _=>[.m b.os,.o (.room 70 b.row)]}]}
def Pq:jE:=qE aiS (λx=>[.ptr 0 0,x.x.av]) 1 (λx=>[.m x.l.os]) (λx=>Hd x.l.ok) (λ_=> .tup []) 1 (λx=>[.m (x.l.push x.x).os])
def YO:jE:=qE ZLn (λ_=>[.ptr 0 0]) 1 (λl=>[.m l.os]) (λl=>Hd l.ok) (λl=> .tup [l.head.av,boo (decide (l.n≠0))]) 1 (λl=>[.m l.pop.os])
def YP:jE:={X:=ZLn,args:=λ_=>[.ptr 0 0],k:=1,l:=λl=>[.m l.os],pre:=λl=>Hd l.ok,outs:=[
 {Y:=Unit,post:=λl _=>Hd (l.n=0),ret:=λ_ _=>gY,m:=1,l:=λl _=>[.m l.os]},
 {Y:=Unit,post:=λl _=>Hd (l.n≠0),ret:=λl _=> .slW 1 0 5 l.n,m:=2,l:=λl _=>[.m l.os,.o (.room 41 (l.all l.n))]}]}
theorem aaS{b:iw}{x:gX}(h:b.ok):(b.put x).os=(b.put x).osP\/b.z=false/\(b.put x).os=(b.put x).osP:=by
 left;unfold iw.put;split
 ·rfl
 ·cases hz:b.z with
  |false=>unfold iw.os;rw[hz];rfl
  |true=>have:=h.2 hz;omega
theorem Hz{b:iw}(z:Bool)(h:b.z=z):b.os=bif z then iw.osN else b.osP:=by
 unfold iw.os;rw[h]
theorem afB:bZ Tryz.prog 66 afz.ctr:=Uz λx hx=>by
 have hx:=aZ.1 hx;have e:(x.b.put x.x).os=(x.b.put x.x).osP:=(aaS hx.1).elim id And.right;cases hz:x.b.z with
 |true=>exact⟨_,_,_,_,_,_,x,aaO,aZ.2 ⟨hx.1,hx.2,hz⟩,rfl,by rw[Hz true hz],rfl,by rw[e]⟩
 |false=>exact⟨_,_,_,_,_,_,x,aaP,aZ.2 ⟨hx.1,hx.2,hz⟩,rfl,by rw[Hz false hz],rfl,by rw[e]⟩
theorem afC:bZ Tryz.prog 278 afA.ctr:=jS λx hx=>by
 have hx:=aZ.1 hx;cases hz:x.z with
 |true=>
  refine⟨_,aaQ,rfl,(),aZ.2 trivial,rfl,by show [_]=[_];rw[Hz true hz];rfl,λv h' hh=> ?_⟩;obtain⟨y,_,h1,h2⟩:=jT hh;exact fE ⟨(),aZ.2 (hx.2 hz),h1,by rw[h2];show hO 1 [_]=hO 1 [_];rw[Hz true hz];rfl⟩
 |false=>
  refine⟨_,aaR,rfl,x,aZ.2 ⟨hx,hz⟩,rfl,by show [_]=[_];rw[Hz false hz];rfl,λv h' hh=> ?_⟩;obtain⟨y,_,h1,h2⟩:=jT hh;exact D7 ⟨(),aZ.2 trivial,h1,by rw[h2];show hO 2 [_,_]=hO 2 [_,_];rw[Hz false hz];rfl⟩
theorem Pv{l:ZLn}(h:l.len=0):l.os=ZLn.osN:=by unfold ZLn.os;rw[h];rfl
theorem D8{l:ZLn}(h:l.len≠0):l.os=l.osP:=by unfold ZLn.os;rw[dA,decide_eq_false h];rfl
theorem ln_n{l:ZLn}(h:l.ok)(h0:l.len=0):l.n=0:=by have:=h.2.2.1;omega
theorem UA:bZ Tryz.prog 254 Pq.ctr:=Uz λx hx=>by
 have hx:=aZ.1 hx;by_cases hz:x.l.len=0
 ·have hn:=ln_n hx hz
  have e:x.l.push x.x=⟨1,1,0,1,λi=>if i=0 then x.x else iI⟩:=by
   unfold ZLn.push;rw[hn,hz,if_pos rfl];simp only[Nat.not_lt_zero,if_false,Nat.mul_zero,aA]
  exact⟨_,_,_,_,_,_,x.x,Pn,aZ.2 trivial,rfl,by rw[Pv hz],rfl,by rw[e];rfl⟩
 ·have e:(x.l.push x.x).len≠0:=by unfold ZLn.push;split<;>simp_all
  exact⟨_,_,_,_,_,_,x,Po,aZ.2 ⟨hx,hz⟩,rfl,by rw[D8 hz],rfl,by rw[D8 e]⟩
theorem akj{l:ZLn}(h:l.n=0):l.head=iI:=if_pos h
theorem aaT:bZ Tryz.prog 255 YO.ctr:=Uz λx hx=>by
 have hx:=aZ.1 hx;by_cases hz:x.len=0
 ·have hn:=ln_n hx hz
  exact⟨_,_,_,_,_,_,(),Uu,aZ.2 trivial,rfl,by rw[Pv hz],by rw[akj hn,hn];rfl,by rw[show x.pop=x from if_pos hn,Pv hz]⟩
 ·have e:x.pop.len≠0:=by unfold ZLn.pop;split<;>exact hz
  exact⟨_,_,_,_,_,_,x,Uw,aZ.2 ⟨hx,hz⟩,rfl,by rw[D8 hz],rfl,by rw[D8 e]⟩
theorem aaU:bZ Tryz.prog 70 YP.ctr:=jS λx hx=>by
 have hx:=aZ.1 hx;by_cases hz:x.len=0
 ·refine⟨_,Ux,rfl,(),aZ.2 trivial,rfl,by show [_]=[_];rw[Pv hz],λv h' hh=> ?_⟩
  obtain⟨y,_,h1,h2⟩:=jT hh;exact fE ⟨(),aZ.2 (ln_n hx hz),h1,by rw[h2];show hO 1 [_]=hO 1 [_];rw[Pv hz]⟩
 ·refine⟨_,Uy,rfl,x,aZ.2 ⟨hx,hz⟩,rfl,by show [_]=[_];rw[D8 hz],λv h' hh=> ?_⟩
  rcases qG hh with ⟨y,h0,h1,h2⟩|⟨y,h0,h1,h2⟩
  ·exact fE ⟨(),h0,h1,by rw[h2];show hO 1 [_]=hO 1 [_];rw[D8 hz]⟩
  ·exact D7 ⟨(),h0,h1,by rw[h2];show hO 2 [_,_]=hO 2 [_,_];rw[D8 hz]⟩
structure ZBlk where
 cls:Int
 kind:Int
 id:Int
 ver:Int
 epoch:Int
 key:ByteArray
 value:ByteArray
namespace ZBlk
def av(b:ZBlk):AV:= .agg [i64 b.cls,i64 b.kind,u64 b.id,u64 b.ver,u64 b.epoch,.lit (.string b.key),.lit (.string b.value)]
def num(v:Int):Prop:=1<=v/\v<=2305843009213693952
def nums(b:ZBlk):Prop:=num b.id/\num b.ver/\num b.epoch
def may(b:ZBlk):Prop:=spn b.cls≠0/\(
 b.kind=0/\b.id=0/\b.ver=0/\b.epoch=0/\b.key=⟨#[]⟩/\b.value=⟨#[]⟩\/
 b.kind=1/\1<=b.key.size/\b.key.size<=16/\b.value.size<=400/\ned (b.key.size+b.value.size:Nat)=b.cls/\b.nums\/
 b.kind=2/\b.key=⟨#[]⟩/\b.value.size<=400/\ned (b.key.size+b.value.size:Nat)=b.cls/\b.nums\/
 b.kind=3/\b.key.size+b.value.size=0/\b.cls=0/\b.nums)
def dat(b:ZBlk)(i:Nat):Int:=if i<(b.key++b.value).size then dY (b.key++b.value) i else 0
def h32(b:ZBlk)(k:Nat):Int:=if k=0 then 1 else if k=1 then b.cls else if k=2 then b.kind else if k=3 then b.key.size else if k<6 then(b.value.size:Int)/256^(k-4)%256 else if k<8 then 0 else
 if k<16 then b.id/256^(k-8)%256 else if k<24 then b.ver/256^(k-16)%256 else if k<32 then b.epoch/256^(k-24)%256 else 0
noncomputable def jF(b:ZBlk)(g:Nat->Int)(n:Nat)(k:Nat):Int:=if k<32 then b.h32 k else if k<36 then ny (ny 0 b.h32 32) g n/256^(k-32)%256 else g (k-36)
def iD(b:ZBlk):Nat:=(cpc b.cls).toNat
def dK(b:ZBlk):Nat:=(spn b.cls).toNat
noncomputable def enc(b:ZBlk)(k:Nat):Int:=if k<64 then b.jF b.dat b.iD k else if k%64=0 then 2 else b.dat (28+(k/64-1)*63+(k%64-1))
end ZBlk
noncomputable def ZBlk.Nl(b:ZBlk):Bool:=hide (@decide b.may (Classical.propDecidable _))
theorem xR{b:ZBlk}:b.Nl=true↔b.may:=by unfold ZBlk.Nl;rw[iG];exact @decide_eq_true_iff _ (Classical.propDecidable _)
noncomputable def amT:Ctr:=det ZBlk (λb=>[b.av]) 0 (λ_=>[]) (λb=>Hd (b.key.size<1099511627776/\b.value.size<1099511627776)) (λb=>boo b.Nl) 0 (λ_=>[])
def vO(g:Nat->Int)(a:Nat):Nat->Int
 |0=>0
 |w+1=>vO g a w+g (a+w)*256^w
structure D9 where
 b:Bys
 at_:Nat
 w:Nat
def aoO:Ctr:=det D9 (λx=>[x.b.av 0,i64 x.at_,i64 x.w]) 1 (λx=>[x.b.ro]) (λx=>Hd (x.b.ok/\x.at_+x.w<=x.b.n/\1<=x.w/\x.w<=8)) (λx=> .tup [u64 (vO (λk=>x.b.g (x.b.q+k)) x.at_ x.w),i64 0]) 1 (λx=>[x.b.ro])
def ard(x:D9):FuncId->qA:=λf=>bif Nat.beq f 228 then(λb _ _=>bif Nat.beq b 0 then [
 {σ:=Nat,fr:=λk=>[(19,i64 k),(9,u64 (vO (λk=>x.b.g (x.b.q+k)) x.at_ k))],ob:=λ_=>[],inv:=λk=>Hd (k<=x.w),meas:=λk=>x.w-k}]else [])elseλ_ _ _=>[]
structure Bo where
 g:Nat->Int
 at_:Nat
 w:Nat
 v:Int
def UC:Ctr:=det Bo (λx=>[.slE 0 0 1 64 64,i64 x.at_,i64 x.w,u64 x.v]) 1 (λx=>[.cells 5 (rowB x.g 64)]) (λx=>Hd (x.at_+x.w<=64/\1<=x.w/\x.w<=8/\0<=x.v/\x.v<256^x.w/\ ∀k,0<=x.g k/\x.g k<256)) (λ_=> .tup []) 1 (λx=>[.cells 5 (rowB (oN x.g x.at_ x.w x.v) 64)])
structure yV where
 b:ZBlk
 d:Bys
def yV.ok(x:yV):Prop:=x.d.ok/\28<=x.d.n/\x.b.key.size<256/\x.b.value.size<65536/\0<=x.b.cls/\x.b.cls<256/\0<=x.b.kind/\x.b.kind<256/\0<=x.b.id/\x.b.id<18446744073709551616/\0<=x.b.ver/\x.b.ver<18446744073709551616/\0<=x.b.epoch/\x.b.epoch<18446744073709551616
noncomputable def Dw:Ctr:=det yV (λx=>[x.b.av,x.d.av 0]) 1 (λx=>[x.d.ro]) (λx=>Hd x.ok) (λ_=> .slE 1 0 1 64 64) 2 (λx=>[x.d.ro,.cells 5 (rowB (x.b.jF (λk=>x.d.g (x.d.q+k)) x.d.n) 64)])
noncomputable def arf:jf:=[(171,ajQ),(170,ctrT amE),(169,ctrT UC)]
noncomputable def tblB0:jf:=[(215,ctrT amF)]
def Px(a:ZBlk):Prop:=True/\a.Nl=false/\True
def YQ(a:Int):Prop:=AV.lit (Value.int .i64 a)=AV.lit (Value.int .i64 a)
def Py(a:Int):Prop:=YQ a/\True
def aoP(a:ZBlk)(b:Int):Prop:=True/\ ∀y_1:Unit,True->Py a.cls/\cP (bne (ned b) a.cls) (∃y_2:Unit,Px a) (cP (decide (a.id>=(1:Int))) (cP (decide (a.id<=2305843009213693952)) (cP (decide (a.ver>=(1:Int))) (cP (decide (a.ver<=2305843009213693952)) (cP (decide (a.epoch>=(1:Int))) (∃y_2:Unit,True/\a.Nl=decide (a.epoch<=2305843009213693952)/\True) (∃y_2:Unit,Px a)) (∃y_2:Unit,Px a)) (∃y_2:Unit,Px a)) (∃y_2:Unit,Px a)) (∃y_2:Unit,Px a))
def oO(a:ZBlk):Prop:= ∃y_1:Unit,Px a
def Pz(a:ZBlk):Prop:=(AV.lit (Value.tuple (@List.toArray Value (@List.nil Value)))=AV.lit (Value.tuple (@List.toArray Value (@List.nil Value)))/\True)/\oO a
def aoQ(a:ZBlk):Prop:=cP (decide ((a.key.size:Int)+(a.value.size:Int)-(a.key.size:Int)>(400:Int))) (Pz a) (I64 ((a.key.size:Int)+((a.key.size:Int)+(a.value.size:Int)-(a.key.size:Int)))/\ ∃x_1:Int,True/\(x_1=(a.key.size:Int)+((a.key.size:Int)+(a.value.size:Int)-(a.key.size:Int))/\True)/\aoP a x_1)
def aoR(a:ZBlk):Prop:=cP (decide ((a.key.size:Int)+(a.value.size:Int)>(400:Int))) (Pz a) (I64 ((a.key.size:Int)+((a.key.size:Int)+(a.value.size:Int)))/\ ∃x_1:Int,True/\(x_1=(a.key.size:Int)+((a.key.size:Int)+(a.value.size:Int))/\True)/\aoP a x_1)
def aaV(a:Bo):Prop:=Hd (a.at_+a.w<=64/\1<=a.w/\a.w<=8/\0<=a.v/\a.v< @HPow.hPow Int Nat Int (@instHPow Int Nat (@instPowNat Int @Int.instNatPow)) (256:Int) a.w/\ ∀k:Nat,0<=a.g k/\a.g k<256)
def PD(a:Bo)(b:Bo):Prop:=(64=64/\ ∀q:Nat,q<64->[Value.int .u8 (a.g q)]=[Value.int .u8 (oN b.g b.at_ b.w b.v q)])/\True
def xU(a:Bys):Prop:=rowB a.g a.N=rowB a.g a.N/\true=true
def Az:Prop:=0=0/\64=64/\64=64
def afD(a:D9):Prop:= ∃y:Unit,True/\(vO (λ(k:Nat)=>a.b.g (a.b.q+k)) a.at_ a.w=0/\(0:Int)=1/\True)/\xU a.b/\True
def afE(a:Bys)(b:Nat):Prop:=(Nat.beq (List.length [Value.int .u8 (a.g (a.q+b))]) 1&&List.all [Value.int .u8 (a.g (a.q+b))] Value.oneCell')=true
def afF(a:tH)(b:Nat):Prop:=(Nat.beq (List.length [Value.int .u8 (a.res (0+b))]) 1&&List.all [Value.int .u8 (a.res (0+b))] Value.oneCell')=true
def YR(a:ByteArray):Prop:=AV.lit (Value.string a)=AV.lit (Value.string a)
def aoS(b:ZBlk):Prop:=
 ∃x:Int,True/\(x=b.cls/\True)/\True/\ ∀y:Unit,True->cP (BEq.beq (spn x) (0:Int)) (oO b) (I64 ((b.key.size:Int)+(b.value.size:Int))/\cP (BEq.beq b.kind (0:Int)) (∃y_1:Unit,True/\b.Nl=(BEq.beq b.cls b.cls&&(BEq.beq b.kind (0:Int)&&(BEq.beq b.id (0:Int)&&(BEq.beq b.ver (0:Int)&&(BEq.beq b.epoch (0:Int)&&(BEq.beq (ByteArray.toList b.key) (ByteArray.toList (ByteArray.mk #[]))&&(BEq.beq (ByteArray.toList b.value) (ByteArray.toList (ByteArray.mk #[]))&&true)))))))/\True) (cP (BEq.beq b.kind (1:Int)) (cP (decide ((b.key.size:Int)<1)) (oO b) (cP (decide ((b.key.size:Int)>(16:Int))) (oO b) (I64 ((b.key.size:Int)+(b.value.size:Int)-(b.key.size:Int))/\cP (BEq.beq b.kind (2:Int)) (cP (Bool.not (BEq.beq (ByteArray.toList b.key) (ByteArray.toList (ByteArray.mk #[])))) (Pz b) (aoQ b)) (aoQ b)))) (cP (BEq.beq b.kind (2:Int)) (cP (BEq.beq b.kind (2:Int)) (cP (Bool.not (BEq.beq (ByteArray.toList b.key) (ByteArray.toList (ByteArray.mk #[])))) (Pz b) (aoR b)) (aoR b)) (cP (BEq.beq b.kind (3:Int)) (cP (bne ((b.key.size:Int)+(b.value.size:Int)) (0:Int)) (oO b) (cP (bne b.cls (0:Int)) (oO b) (cP (decide (b.id>=(1:Int))) (cP (decide (b.id<=2305843009213693952)) (cP (decide (b.ver>=(1:Int))) (cP (decide (b.ver<=2305843009213693952)) (cP (decide (b.epoch>=(1:Int))) (∃y_1:Unit,True/\b.Nl=decide (b.epoch<=2305843009213693952)/\True) (oO b)) (oO b)) (oO b)) (oO b)) (oO b)))) (oO b)))))
theorem akk(b:ZBlk):aoS b=wpF Tryz.prog [(113,ctrT yQ),(201,ctrT TM)] tt (noA b) 200 5 229 (amT.args b) (hO amT.k (amT.os b)) (λv h'=>eX amT.k b v h' amT.outs):=by kernel_rfl
def aoT(x:D9):Prop:=
 cP (decide ((x.w:Int)<1)) (afD x) (cP (decide ((x.w:Int)>(8:Int))) (afD x) (I64 ((x.b.n:Int)-(x.w:Int))/\cP (decide ((x.at_:Int)>(x.b.n:Int)-(x.w:Int))) (∃y:Unit,True/\(vO (λ(k:Nat)=>x.b.g (x.b.q+k)) x.at_ x.w=0/\(0:Int)=2/\True)/\xU x.b/\True) ((∃s:Nat,Hd (s<=x.w)/\True/\((s:Int)=0/\vO (λ(k:Nat)=>x.b.g (x.b.q+k)) x.at_ s=0/\True)/\xU x.b/\True)/\(∀s:Nat,Hd (s<=x.w)->cP (decide ((s:Int)<(x.w:Int))) (I64 ((x.at_:Int)+(s:Int))/\(0<=(x.at_:Int)+(s:Int)/\(x.at_:Int)+(s:Int)<(x.b.n:Int))/\x.b.q+Int.toNat ((x.at_:Int)+(s:Int))<x.b.N/\I64 (8*(s:Int))/\0<=8*(s:Int)/\I64 ((s:Int)+1)/\ ∃s_1:Nat,Hd (s_1<=x.w)/\x.w-s_1<x.w-s/\((s_1:Int)=(s:Int)+1/\vO (λ(k:Nat)=>x.b.g (x.b.q+k)) x.at_ s_1=IntKind.wrap .u64 ((@BitVec.toNat 64 (@HOr.hOr (@BitVec 64) (@BitVec 64) (@BitVec 64) (@instHOrOfOrOp (@BitVec 64) (@BitVec.instOrOp 64)) (@BitVec.ofInt 64 (vO (λ(k:Nat)=>x.b.g (x.b.q+k)) x.at_ s)) (@BitVec.ofInt 64 (IntKind.wrap .u64 (IntKind.wrap .u64 (x.b.g (x.b.q+Int.toNat ((x.at_:Int)+(s:Int))))* @HPow.hPow Int Nat Int (@instHPow Int Nat (@instPowNat Int @Int.instNatPow)) (2:Int) (@Min.min Nat @instMinNat (Int.toNat (8*(s:Int))) 64))))):Nat):Int)/\True)/\xU x.b/\True) (∃y:Unit,True/\(vO (λ(k:Nat)=>x.b.g (x.b.q+k)) x.at_ x.w=vO (λ(k:Nat)=>x.b.g (x.b.q+k)) x.at_ s/\(0:Int)=0/\True)/\xU x.b/\True))/\True)))
theorem akl(x:D9):aoT x=wpF Tryz.prog [] tt (ard x) 200 5 228 (aoO.args x) (hO aoO.k (aoO.os x)) (λv h'=>eX aoO.k x v h' aoO.outs):=by kernel_rfl
def afG(x:yV):Prop:=
 ((0:Int)<=64/\(0:Int)<=0/\(0:Int)<=281474976710592/\(0:Int)<=4611686018427387839)/\((0:Int)<=0/\(0:Int)<=63)/\0<64/\(YR x.b.key/\YQ x.b.kind/\Py x.b.cls)/\((0:Int)<=1/\(0:Int)<=62)/\1<64/\(YR x.b.key/\Py x.b.kind)/\((0:Int)<=2/\(0:Int)<=61)/\2<64/\(YR x.b.key/\True)/\((0:Int)<=3/\(0:Int)<=60)/\3<64/\True/\ ∃x_1:Bo,aaV x_1/\(Az/\(x_1.at_:Int)=4/\(x_1.w:Int)=2/\x_1.v=IntKind.wrap .u64 (x.b.value.size:Int)/\True)/\((64=64/\ ∀q:Nat,q<64->[Value.int .u8 (x_1.g q)]=Cs.eff (λ(x_2:Nat)=>[Value.int .u8 0]) [(3,[Value.int .u8 (IntKind.wrap .u8 (x.b.key.size:Int))]),(2,[Value.int .u8 (IntKind.wrap .u8 x.b.kind)]),(1,[Value.int .u8 (IntKind.wrap .u8 x.b.cls)]),(0,[Value.int .u8 1])] q)/\True)/\ ∀y:Unit,True-> ∃x_2:Bo,aaV x_2/\(Az/\(x_2.at_:Int)=8/\(x_2.w:Int)=8/\x_2.v=x.b.id/\True)/\PD x_2 x_1/\ ∀y_1:Unit,True-> ∃x_3:Bo,aaV x_3/\(Az/\(x_3.at_:Int)=16/\(x_3.w:Int)=8/\x_3.v=x.b.ver/\True)/\PD x_3 x_2/\ ∀y_2:Unit,True-> ∃x_4:Bo,aaV x_4/\(Az/\(x_4.at_:Int)=24/\(x_4.w:Int)=8/\x_4.v=x.b.epoch/\True)/\PD x_4 x_3/\ ∀y_3:Unit,True->(0:Int)<=32/\(0<=32/\32<=64/\64<=64)/\32<=64/\ ∃n:Nat,∃g: ∀a:Nat,Int,32=n/\n<1099511627776/\(∀k:Nat,k<n->[Value.int .u8 (oN x_4.g x_4.at_ x_4.w x_4.v (0+k))]=[Value.int .u8 (g k)])/\(∀k:Nat,0<=g k/\g k<256)/\ ∃x_5:aoo,Hd (U32 x_5.c/\x_5.b.ok)/\(x_5.c=ny (0:Int) g n/\(x_5.b.q=x.d.q/\x_5.b.n=x.d.n)/\True)/\((x_5.b.N=x.d.N/\ ∀q:Nat,q<x_5.b.N->[Value.int .u8 (x_5.b.g q)]=[Value.int .u8 (x.d.g q)])/\True)/\
 ∀y_4:Unit,True-> ∃x_6:Bo,aaV x_6/\(Az/\(x_6.at_:Int)=32/\(x_6.w:Int)=4/\x_6.v=IntKind.wrap .u64 (ny x_5.c (λ(k:Nat)=>x_5.b.g (x_5.b.q+k)) x_5.b.n)/\True)/\PD x_6 x_4/\ ∀y_5:Unit,True->(0:Int)<=36/\(36<=64/\64<=64/\64<=64)/\64<=64/\cP (Nat.ble x.d.n 28) (x.d.q+x.d.n<=x.d.N/\(∀k:Nat,k<x.d.n->afE x.d k)/\ ∃y_6:Unit,True/\Az/\xU x.d/\(64=64/\ ∀q:Nat,q<64->[Value.int .u8 (x.b.jF (λ(k:Nat)=>x.d.g (x.d.q+k)) x.d.n q)]=Cs.eff (λ(p:Nat)=>cond (Nat.ble 36 p&&Nat.blt p (36+x.d.n)) [Value.int .u8 (x.d.g (x.d.q+(p-36)))] [Value.int .u8 (oN x_6.g x_6.at_ x_6.w x_6.v p)]) [] q)/\True) (x.d.q+28<=x.d.N/\(∀k:Nat,k<28->afE x.d k)/\ ∃y_6:Unit,True/\Az/\xU x.d/\(64=64/\ ∀q:Nat,q<64->[Value.int .u8 (x.b.jF (λ(k:Nat)=>x.d.g (x.d.q+k)) x.d.n q)]=Cs.eff (λ(p:Nat)=>cond (Nat.ble 36 p&&Nat.blt p 64) [Value.int .u8 (x.d.g (x.d.q+(p-36)))] [Value.int .u8 (oN x_6.g x_6.at_ x_6.w x_6.v p)]) [] q)/\True)
theorem afH(x:yV):afG x=wpF Tryz.prog arf tt (noA x) 200 5 114 (Dw.args x) (hO Dw.k (Dw.os x)) (λv h'=>eX Dw.k x v h' Dw.outs):=by kernel_rfl
def afI(x:Bo):Prop:=
 ∃x_1:tH,Hd x_1.ok/\((x_1.b.q=0/\x_1.b.n=64/\x_1.c=64)/\(x_1.at_:Int)=(x.at_:Int)/\(x_1.w:Int)=(x.w:Int)/\x_1.v=x.v/\True)/\((x_1.b.N=64/\ ∀q:Nat,q<x_1.b.N->[Value.int .u8 (x_1.b.g q)]=[Value.int .u8 (x.g q)])/\True)/\ ∀y:Unit,True->64<=64/\cP (Nat.ble x_1.b.n 64) (0+x_1.b.n<=x_1.b.n/\(∀k:Nat,k<x_1.b.n->afF x_1 k)/\ ∃y_1:Unit,True/\True/\(64=64/\ ∀q:Nat,q<64->[Value.int .u8 (oN x.g x.at_ x.w x.v q)]=Cs.eff (λ(p:Nat)=>cond (Nat.ble 0 p&&Nat.blt p (0+x_1.b.n)) [Value.int .u8 (x_1.res (0+(p-0)))] [Value.int .u8 (x.g p)]) [] q)/\True) (64<=x_1.b.n/\(∀k:Nat,k<64->afF x_1 k)/\ ∃y_1:Unit,True/\True/\(64=64/\ ∀q:Nat,q<64->[Value.int .u8 (oN x.g x.at_ x.w x.v q)]=Cs.eff (λ(p:Nat)=>cond (Nat.ble 0 p&&Nat.blt p 64) [Value.int .u8 (x_1.res (0+(p-0)))] [Value.int .u8 (x.g p)]) [] q)/\True)
theorem afJ(x:Bo):afI x=wpF Tryz.prog tblB0 tt (noA x) 200 5 169 (UC.args x) (hO UC.k (UC.os x)) (λv h'=>eX UC.k x v h' UC.outs):=by kernel_rfl
theorem pY{b:Bool}{x y:Prop}:cP b x y↔(b=true->x)/\(b=false->y):=⟨λh=>by cases b with
 |true=>exact⟨λ_=>h,λe=>nomatch e⟩
 |false=>exact⟨λe=>(nomatch e),λ_=>h⟩,λh=>bf h.1 h.2⟩
theorem UD(x:Bo)(hx:x.at_+x.w<=64/\1<=x.w/\x.w<=8/\0<=x.v/\x.v<256^x.w/\ ∀k,0<=x.g k/\x.g k<256):afI x:=by
 obtain⟨h1,h2,h3,h4,h5,h6⟩:=hx;have e1:Nat.ble 64 64=true:=rfl;unfold afI;simp only[afF];simp only[aZ,aV,aU,aA,aI,bT,bF,aO,aK,ay,aX,aW,bU,bH,bI,bJ,bV,bD,bK,bC,eY,aH,aN,ah,ak,aB,aF,aC,aG];simp only[pY];refine⟨⟨⟨x.g,0,64,64⟩,x.at_,x.w,x.v,64⟩,⟨⟨by simp,by simp,h6⟩,h1,h2,h3,h4,h5⟩,⟨⟨rfl,rfl,rfl⟩,rfl,rfl,rfl⟩,⟨rfl,λq _=>rfl⟩,?_⟩;have key: ∀q,q<64->oN x.g x.at_ x.w x.v q=bif Nat.blt q 64 then(tH.mk ⟨x.g,0,64,64⟩ x.at_ x.w x.v 64).res q else x.g q:=λq hq=>by
  rw[bg.2 hq,aP];simp only[tH.res,aA]
 exact⟨aY _,λ_=>⟨aY _,λq hq=>key q hq⟩,λh=>absurd (show Nat.ble 64 64=false from h) (by decide)⟩
theorem afK{g:Nat->Int}(hg: ∀k,0<=g k/\g k<256)(a:Nat): ∀w,0<=vO g a w/\vO g a w<256^w
 |0=>⟨Int.le_refl _,by show(0:Int)<256^0;decide⟩
 |w+1=>by
  have ih:=afK hg a w;have h:=hg (a+w);have hp:(0:Int)<256^w:=Int.pow_pos (by omega);simp only[vO];have h1:0<=g (a+w)*256^w:=Int.mul_nonneg h.1 (Int.le_of_lt hp);have h2:g (a+w)*256^w<=255*256^w:=Int.mul_le_mul_of_nonneg_right (by omega) (Int.le_of_lt hp);rw[Int.pow_succ];omega
theorem or64{a b:Int}{s:Nat}(ha:0<=a)(ha2:a<256^s)(hb:0<=b)(hb2:b<256)(hs:s<8):IntKind.u64.wrap (((BitVec.ofInt 64 a|||BitVec.ofInt 64 (IntKind.u64.wrap (b*256^s))).toNat:Nat):Int)=a+b*256^s:=by
 obtain⟨x,rfl⟩:=Int.eq_ofNat_of_zero_le ha;obtain⟨y,rfl⟩:=Int.eq_ofNat_of_zero_le hb;have hx:x<2^(8*s):=by
  rw[Nat.pow_mul];have:((256:Nat):Int)^s=((256^s:Nat):Int):=(Int.natCast_pow 256 s).symm;have h2:(x:Int)<((256^s:Nat):Int):=by rw[<-this];exact ha2
  exact Int.ofNat_lt.1 h2
 have hy:y<256:=by omega
 have e1:(y:Int)*256^s=((y*2^(8*s):Nat):Int):=by rw[Nat.pow_mul,show(2:Nat)^8=256 from rfl,Int.natCast_mul,Int.natCast_pow];rfl
 have hp:2^(8*s)<=2^56:=Nat.pow_le_pow_right (by decide) (by omega);have hlt:y*2^(8*s)<2^64:=by
  have:y*2^(8*s)<=255*2^56:=Nat.mul_le_mul (by omega) hp;omega
 have hor:x|||y*2^(8*s)=x+y*2^(8*s):=by
  rw[Nat.or_comm,Nat.add_comm,<-Nat.shiftLeft_eq,Nat.shiftLeft_add_eq_or_of_lt hx]
 have hx64:x<2^64:=by omega
 have hsum:x+y*2^(8*s)<2^64:=by
  have:y*2^(8*s)<=255*2^(8*s):=Nat.mul_le_mul_right _ (by omega);omega
 have hw: ∀n:Nat,n<2^64->IntKind.u64.wrap (n:Int)=(n:Int):=λn hn=>by
  unfold IntKind.wrap;simp only[IntKind.bits,IntKind.signed];have:(n:Int)%(2^64)=n:=Int.emod_eq_of_lt (by omega) (by omega);simpa using this
 rw[e1,hw _ hlt,show BitVec.ofInt 64 ((x:Nat):Int)=BitVec.ofNat 64 x from BitVec.ofInt_natCast ..,show BitVec.ofInt 64 ((y*2^(8*s):Nat):Int)=BitVec.ofNat 64 (y*2^(8*s)) from BitVec.ofInt_natCast ..,BitVec.toNat_or,BitVec.toNat_ofNat,BitVec.toNat_ofNat,Nat.mod_eq_of_lt hx64,Nat.mod_eq_of_lt hlt,hor,hw _ hsum];omega
theorem akm{z:Int}(h:0<=z/\z<256):IntKind.u64.wrap z=z:=by
 unfold IntKind.wrap;simp only[IntKind.bits,IntKind.signed];have:z%(2^64)=z:=Int.emod_eq_of_lt (by omega) (by omega);simpa using this
theorem aaW(x:D9)(hx:x.b.ok/\x.at_+x.w<=x.b.n/\1<=x.w/\x.w<=8):aoT x:=by
 obtain⟨⟨h1,h2,h3⟩,h4,h5,h6⟩:=hx;unfold aoT;simp only[afD,xU];simp only[aZ,aV,aU,aA,aI,bT,bF,aO,aK,ay,aX,aW,bU,bH,bI,bJ,bV,bD,bK,bC,eY,aH,aN,ah,ak,aB,aF,aC,aG];refine bf (λh=>absurd (aS h) (by omega)) λ_=>bf (λh=>absurd (aS h) (by omega)) λ_=>⟨by unfold I64;omega,bf (λh=>absurd (aS h) (by omega)) λ_=>⟨⟨0,by omega,rfl,rfl⟩,λs hs=>bf (λh=> ?_) λh=> ?_⟩⟩
 ·have hs':s<x.w:=by have:=aS h;omega
  refine⟨by unfold I64;omega,⟨by omega,by omega⟩,by omega,by unfold I64;omega,by omega,by unfold I64;omega,s+1,by omega,by omega,by omega,?_⟩;have hb:=afK (g:=λk=>x.b.g (x.b.q+k)) (λk=>h3 _) x.at_ s;rw[show((x.at_:Int)+(s:Int)).toNat=x.at_+s by omega,akm (h3 _),Tc (by omega),or64 hb.1 hb.2 (h3 _).1 (h3 _).2 (by omega)];rfl
 ·rw[show x.w=s by have:=aT h;omega]
theorem afL(a b:ByteArray):(a.toList==b.toList)=true↔a=b:=by
 rw[beq_iff_eq];exact⟨λh=>by rw[toList_data,toList_data]at h;cases a;cases b;simp at h;simp[h],λh=>by rw[h]⟩
theorem aaX(b:ZBlk)(hb:b.key.size<1099511627776/\b.value.size<1099511627776):aoS b:=by
 unfold aoS;simp only[oO,Pz,aoQ,aoR,aoP,Py,Px,YQ];simp only[aZ,aV,aU,aA,aI,bT,bF,aO,aK,ay,aX,aW,bU,bH,bI,bJ,bV,bD,bK,bC,eY,aH,aN,ah,ak,aB,aF,aC,aG];have hF: ¬b.may->b.Nl=false:=λh=>by
  cases hm:b.Nl with
  |true=>exact absurd (xR.1 hm) h
  |false=>rfl
 have hT:b.may->b.Nl=true:=xR.2;have hB: ∀x:Bool,(x=true↔b.may)->b.Nl=x:=λx h=>by
  cases hx:x with
  |true=>exact hT (h.1 hx)
  |false=>exact hF λhm=>by rw[h.2 hm]at hx;cases hx
 have n1:((b.key.size:Int)+((b.key.size:Int)+(b.value.size:Int)-(b.key.size:Int)))=((b.key.size+b.value.size:Nat):Int):=by omega
 have n2:((b.key.size:Int)+(b.value.size:Int)-(b.key.size:Int))=(b.value.size:Int):=by omega
 have kz:b.key=⟨#[]⟩->b.key.size=0:=λh=>by rw[h];rfl
 have vz:b.value=⟨#[]⟩->b.value.size=0:=λh=>by rw[h];rfl
 obtain⟨b1,b2⟩:=hb;have ek:=afL b.key ⟨#[]⟩;have ev:=afL b.value ⟨#[]⟩;generalize hek:(b.key.toList==ByteArray.toList ⟨#[]⟩)=kk at ek ⊢;generalize hev:(b.value.toList==ByteArray.toList ⟨#[]⟩)=vv at ev ⊢;simp only[n1,n2,I64,beq_self_eq_true,aH,Bool.and_true];unfold ZBlk.may ZBlk.nums ZBlk.num at hB hF hT;clear hek hev;generalize b.Nl=m at hB hF hT ⊢;by_cases s0:spn b.cls=0
 ·rw[show(spn b.cls==0)=true from beq_iff_eq.2 s0]
  exact hF λh=>h.1 s0
 rw[show(spn b.cls==0)=false from beq_eq_false_iff_ne.2 s0];refine⟨by omega,?_⟩;by_cases k0:b.kind=0
 ·simp only[k0,beq_self_eq_true,kM]
  exact hB _ (by grind)
 by_cases k1:b.kind=1
 ·simp only[k1,pY]
  simp only[k1]at hT hF;clear hB ek ev kz vz;grind (splits:=30)
 by_cases k2:b.kind=2
 ·by_cases hk:b.key=⟨#[]⟩
  ·have k0':=kz hk
   have n3:((0:Nat):Int)+(((0:Nat):Int)+(b.value.size:Int))=((0+b.value.size:Nat):Int):=by omega
   have hkk:=ek.2 hk;simp only[k2,k0',hkk,hk,n3,pY]at hF hT ⊢;clear hB ek ev kz vz;grind (splits:=30)
  ·have hkk:kk=false:=by
    cases h:kk with
    |false=>rfl
    |true=>exact absurd (ek.1 h) hk
   simp only[k2,hkk,pY]at hT hF ⊢;clear hB ek ev kz vz;grind
 by_cases k3:b.kind=3
 ·simp only[k3,pY]
  simp only[k3]at hT hF;clear hB ek ev kz vz;grind (splits:=30)
 ·rw[show(b.kind==0)=false from beq_eq_false_iff_ne.2 k0,show(b.kind==1)=false from beq_eq_false_iff_ne.2 k1,show(b.kind==2)=false from beq_eq_false_iff_ne.2 k2,show(b.kind==3)=false from beq_eq_false_iff_ne.2 k3]
  exact hF (by grind)
theorem iV{z:Int}(h:0<=z)(h2:z<18446744073709551616):IntKind.u64.wrap z=z:=by
 unfold IntKind.wrap;simp only[IntKind.bits,IntKind.signed];have:z%(2^64)=z:=Int.emod_eq_of_lt h (by omega);simpa using this
theorem aoU(b:ZBlk)(q:Nat):oN (oN (oN (oN (λq=>if q=0 then 1 else if q=1 then b.cls else if q=2 then b.kind else if q=3 then(b.key.size:Int)else 0) 4 2 b.value.size) 8 8 b.id) 16 8 b.ver) 24 8 b.epoch q=b.h32 q:=by
 unfold oN ZBlk.h32;grind (splits:=30)
theorem UE(x:yV)(hx:x.ok):afG x:=by
 obtain⟨⟨d1,d2,d3⟩,dn,h1,h2,h3,h4,h5,h6,h7,h8,h9,h10,h11,h12⟩:=hx;let g0:Nat->Int:=λq=>if q=0 then 1 else if q=1 then x.b.cls else if q=2 then x.b.kind else if q=3 then(x.b.key.size:Int)else 0
 have hg0: ∀k,0<=g0 k/\g0 k<256:=λk=>by simp only[g0];grind
 let g1:=oN g0 4 2 x.b.value.size
 have hg1: ∀k,0<=g1 k/\g1 k<256:=yP hg0 _ _ _;let g2:=oN g1 8 8 x.b.id
 have hg2: ∀k,0<=g2 k/\g2 k<256:=yP hg1 _ _ _;let g3:=oN g2 16 8 x.b.ver
 have hg3: ∀k,0<=g3 k/\g3 k<256:=yP hg2 _ _ _;let g4:=oN g3 24 8 x.b.epoch
 have hg4: ∀k,0<=g4 k/\g4 k<256:=yP hg3 _ _ _;have e4: ∀q,g4 q=x.b.h32 q:=λq=>aoU x.b q
 have hU1:=Yp 0 g4 32;have hU:=Yp (ny 0 g4 32) (λk=>x.d.g (x.d.q+k)) x.d.n;have w1:IntKind.u64.wrap (x.b.value.size:Int)=x.b.value.size:=iV (by omega) (by omega);have w2:IntKind.u64.wrap (ny (ny 0 g4 32) (λk=>x.d.g (x.d.q+k)) x.d.n)=ny (ny 0 g4 32) (λk=>x.d.g (x.d.q+k)) x.d.n:=iV hU.1 (by have:=hU.2;omega);have ub: ∀z:Int,0<=z->z<256->IntKind.u8.wrap z=z:=λz a b=>by rw[amH];exact Int.emod_eq_of_lt a b
 have fin: ∀q,q<64->x.b.jF (λk=>x.d.g (x.d.q+k)) x.d.n q=if 36<=q then x.d.g (x.d.q+(q-36))else oN g4 32 4 (ny (ny 0 g4 32) (λk=>x.d.g (x.d.q+k)) x.d.n) q:=λq hq=>by
  unfold ZBlk.jF;have ea:ny 0 g4 32=ny 0 x.b.h32 32:=yO λk _=>e4 k
  rw[ea];unfold oN;by_cases q1:q<32
  ·rw[if_pos q1,if_neg (by omega),if_neg (by omega),e4]
  ·rw[if_neg q1]
   by_cases q2:q<36
   ·rw[if_pos q2,if_neg (by omega),if_pos (by omega)]
   ·rw[if_neg q2,if_pos (by omega)]
 unfold afG;simp only[YR,YQ,Py,aaV,Az,PD,afE,xU];simp only[aZ,aV,aU,aA,aI,bT,bF,aO,aK,ay,aX,aW,bU,bH,bI,bJ,bV,bD,bK,bC,eY,aH,aN,ah,ak,aB,aF,aC,aG,w1,ub _ h3 h4,ub _ h5 h6,ub _ (show(0:Int)<=x.b.key.size by omega) (show(x.b.key.size:Int)<256 by omega)]
 refine⟨by decide,by decide,by decide,by decide,by decide,by decide,by decide,by decide,by decide,
  ⟨g0,4,2,x.b.value.size⟩,⟨show 4+2<=64 by decide,show 1<=2 by decide,show 2<=8 by decide,show(0:Int)<=x.b.value.size by omega,show(x.b.value.size:Int)<256^2 by omega,hg0⟩,⟨rfl,rfl,rfl⟩,λq _=> ?_,
  ⟨g1,8,8,x.b.id⟩,⟨show 8+8<=64 by decide,show 1<=8 by decide,show 8<=8 by decide,h7,h8,hg1⟩,⟨rfl,rfl,rfl⟩,λq _=>rfl,
  ⟨g2,16,8,x.b.ver⟩,⟨show 16+8<=64 by decide,show 1<=8 by decide,show 8<=8 by decide,h9,h10,hg2⟩,⟨rfl,rfl,rfl⟩,λq _=>rfl,
  ⟨g3,24,8,x.b.epoch⟩,⟨show 24+8<=64 by decide,show 1<=8 by decide,show 8<=8 by decide,h11,h12,hg3⟩,⟨rfl,rfl,rfl⟩,λq _=>rfl,
  by decide,by decide,by decide,32,g4,rfl,by decide,λk _=>rfl,hg4,⟨ny 0 g4 32,x.d⟩,⟨hU1,d1,d2,d3⟩,⟨rfl,rfl,rfl⟩,⟨rfl,λq _=>rfl⟩,
  ⟨g4,32,4,ny (ny 0 g4 32) (λk=>x.d.g (x.d.q+k)) x.d.n⟩,⟨show 32+4<=64 by decide,show 1<=4 by decide,show 4<=8 by decide,hU.1,hU.2,hg4⟩,⟨rfl,rfl,w2.symm⟩,λq _=>rfl,?_⟩
 ·simp only[Cs.eff,bQ,dw,dA,dI,<-Bool.decide_and,g0]
  split
  ·grind
  ·grind
 ·simp only[pY]
  refine⟨by decide,by decide,by decide,λhb=>⟨d1,λq hq=> ?_⟩,λhb=>⟨by omega,λq hq=> ?_⟩⟩
  ·rw[fin q hq]
   have hn:x.d.n=28:=by have:=Nat.le_of_ble_eq_true hb;omega
   simp only[Cs.eff,bQ,dw,dA,dI,<-Bool.decide_and,hn];grind
  ·rw[fin q hq]
   simp only[Cs.eff,bQ,dw,dA,dI,<-Bool.decide_and];grind
theorem afM:bZ Tryz.prog 229 amT:=dR dF mixed (.cons (bP mO) (.cons (bP aeX) .nil)) noA 200 5 (λ_=>rfl) (λ_=>rfl) λx hx=>Eq.mp (akk x) (aaX x (aZ.1 hx))
theorem arh:bZ Tryz.prog 228 aoO:=dR dF mixed .nil ard 200 5 (λ_=>rfl) (λ_=>rfl) λx hx=>Eq.mp (akl x) (aaW x (aZ.1 hx))
theorem aoV:bZ Tryz.prog 169 UC:=dR dF mixed (.cons (bP amI) .nil) noA 200 5 (λ_=>rfl) (λ_=>rfl) λx hx=>Eq.mp (afJ x) (UD x (aZ.1 hx))
theorem akn:dX Tryz.prog arf:= .cons Yq (.cons (bP amG) (.cons (bP aoV) .nil))
theorem aoW:bZ Tryz.prog 114 Dw:=dR dF mixed akn noA 200 5 (λ_=>rfl) (λ_=>rfl) λx hx=>Eq.mp (afH x) (UE x (aZ.1 hx))
noncomputable def amU:Ctr:={X:=ZBlk,args:=λb=>[b.av],k:=0,os:=λ_=>[],pre:=λb=>Hd (b.may/\b.key.size<1099511627776/\b.value.size<1099511627776),outs:=[
 {Y:=Unit,post:=λb _=>Hd (b.cls=0),ret:=λ_ _=> .tup [.slE 0 0 1 64 64,i64 0],m:=1,os:=λb _=>[.cells 5 (rowB b.enc 64)]},
 {Y:=Unit,post:=λb _=>Hd (b.cls≠0),ret:=λb _=> .tup [.slW 0 0 1 (64*b.dK),i64 0],m:=1,os:=λb _=>[.room 5 (rowB b.enc (64*b.dK))]}]}
noncomputable def ari(x:ZBlk):FuncId->qA:=λf=>bif Nat.beq f 180 then(λb _ _=>bif Nat.beq b 0 then [
 {σ:=Unit,fr:=λ_=>[(31,i64 0),(4,.slE 1 28 1 (x.iD-28) (x.iD-28)),(5,.slE 2 0 1 64 64)],ob:=λ_=>[],inv:=λ_=>Hd True,meas:=λ_=>x.dK+1,test:=λfr _=>(match SE.look fr 5 with| .slE .. =>true|_=>false)},
 {σ:=Nat,fr:=λi=>[(31,i64 i),(4,.slE 1 (28+63*i) 1 (x.iD-28-63*i) (x.iD-28-63*i)),(5,.slW 3 0 1 (64*(i+1)))],ob:=λi=>[(3,some (.room 5 (rowB x.enc (64*(i+1)))))],inv:=λi=>Hd (1<=i/\i+1<=x.dK),meas:=λi=>x.dK-i,nx:=1,test:=λfr _=>(match SE.look fr 5 with| .slE .. =>false|_=>true)}]else [])elseλ_ _ _=>[]
noncomputable def Ea:Ctr:=det Int (λc=>[i64 c]) 0 (λ_=>[]) (λc=>Hd (0<=c/\c<=3)) (λ_=> .slE 0 0 1 64 64) 1 (λc=>[.cells 5 (rowB ((ZBlk.mk c 0 0 0 0 ⟨#[]⟩ ⟨#[]⟩).jF (λ_=>0) (cpc c).toNat) 64)])
structure AA where
 b:Bys
 s:Nat
def AA.at_(x:AA)(i:Nat):Int:=if i<28 then x.b.g (x.b.q+(36+i))else x.b.g (x.b.q+(64*((i-28)/63+1)+1+(i-28)%63))
def AA.str(x:AA):ByteArray:=mkStr (28+63*(x.s-1)) (λi=>UInt8.ofNat (x.at_ i).toNat)
def UF:Ctr:=det AA (λx=>[x.b.av 0]) 1 (λx=>[x.b.ro]) (λx=>Hd (x.b.ok/\x.b.n=64*x.s/\1<=x.s/\x.s<=8)) (λx=> .lit (.string x.str)) 1 (λx=>[x.b.ro])
def amV(x:AA):FuncId->qA:=λf=>bif Nat.beq f 179 then(λb _ h=>bif Nat.beq b 0 then [
 {σ:=Unit,fr:=λ_=>[(4,i64 64),(3,.slW 2 0 1 28)],ob:=λ_=>[(2,some (.room 5 (rowB x.at_ 28)))],inv:=λ_=>Hd True,meas:=λ_=>x.s+1,test:=λfr _=>(match SE.look fr 3 with| .slW i _ _ _=>Nat.beq i 2|_=>false)},
 {σ:=Nat,fr:=λi=>[(4,i64 (64+64*i:Nat)),(3,.slW 3 0 1 (28+63*i))],ob:=λi=>[(2,none),(3,some (.room 5 (rowB x.at_ (28+63*i))))],inv:=λi=>Hd (1<=i/\i+1<=x.s),meas:=λi=>x.s-i,nx:=1,test:=λfr _=>(match SE.look fr 3 with| .slW i _ _ _=> !Nat.beq i 2|_=>false)}]else [])elseλ_ _ _=>[]
structure afN where
 b:ZBlk
 g:Nat->Int
noncomputable def aoX:Ctr:=det afN (λx=>[.slW 0 0 1 (64*x.b.dK)]) 1 (λx=>[.room 5 (rowB x.g (64*x.b.dK))]) (λx=>Hd (x.b.may/\x.b.key.size<1099511627776/\x.b.value.size<1099511627776/\ ∀k,k<64*x.b.dK->x.g k=x.b.enc k)) (λx=> .tup [x.b.av,boo true]) 1 (λx=>[.room 5 (rowB x.g (64*x.b.dK))])
noncomputable def aoY:jf:=[(113,ctrT yQ),(115,ctrT amL),(229,ctrT amT),(114,ctrT Dw)]
noncomputable def arj:jf:=[(113,ctrT yQ),(228,ctrT aoO),(179,ctrT UF),(180,ctrT amU)]
end Go.Proofs.YtenfleoejgjklaaGreat
end
