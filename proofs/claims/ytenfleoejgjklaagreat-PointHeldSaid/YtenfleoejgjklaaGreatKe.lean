import Derived.Test.YtenfleoejgjklaaGreatKa
import Derived.Test.YtenfleoejgjklaaGreatKb
import Derived.Test.YtenfleoejgjklaaGreatKc
import Derived.Test.YtenfleoejgjklaaGreatKd
import Derived.Test.YtenfleoejgjklaaGreatRows
import Derived.KernelRfl
set_option linter.unusedVariables false
set_option linter.unusedSimpArgs false
set_option linter.unnecessarySimpa false
section
namespace Go.Proofs.YtenfleoejgjklaaGreat
open Go SE
noncomputable def tt:TT:=atD Tryz.prog
theorem dG:tt.ok Tryz.prog:=λ_ _ h=>h
set_option maxRecDepth 20000
theorem mixed:Tryz.prog.follows .mixedOrders=true:=by kernel_rfl
def i64(n:Int):AV:= .lit (.int .i64 n)
end Go.Proofs.YtenfleoejgjklaaGreat
end
section
namespace Go.Proofs.YtenfleoejgjklaaGreat
open Go SE
def x32(a b:Int):Int:=IntKind.u32.wrap ((BitVec.ofInt 32 a^^^BitVec.ofInt 32 b).toNat:Nat)
def aul(c:Int):Int:=bif decide (c%2=0)then c/2 else x32 (c/2) 3988292384
def vV(c:Int):Nat->Int
 |0=>c
 |k+1=>aul (vV c k)
def stepM(c x:Int):Int:=vV (x32 c x) 8
def Eo(s:ByteArray):Nat->Int
 |0=>4294967295
 |i+1=>stepM (Eo s i) (eG s i)
noncomputable def oH(s:ByteArray):Int:=hide (x32 (Eo s s.size) 4294967295)
theorem ZW(s:ByteArray):oH s=x32 (Eo s s.size) 4294967295:=iK _
def U32(c:Int):Prop:=0<=c/\c<4294967296
theorem wrap_u32(z:Int):U32 (IntKind.u32.wrap z):=by
 unfold IntKind.wrap U32;simp[IntKind.bits,IntKind.signed];omega
theorem Ep{z:Int}(h:U32 z):IntKind.u32.wrap z=z:=by
 unfold IntKind.wrap U32 at*
 simp[IntKind.bits,IntKind.signed];omega
theorem U2(a b:Int):U32 (x32 a b):=wrap_u32 _
theorem aum{c:Int}(h:U32 c):U32 (aul c):=by
 unfold aul;cases decide (c%2=0)
 ·exact U2 _ _
 ·unfold U32 at*;simp only[aP];omega
theorem Ky{c:Int}(h:U32 c): ∀k,U32 (vV c k)
 |0=>h
 |k+1=>aum (Ky h k)
theorem aq3(s:ByteArray): ∀i,U32 (Eo s i)
 |0=>by unfold Eo U32;omega
 |i+1=>Ky (U2 _ _) 8
theorem aq4(s:ByteArray):U32 (oH s):=by rw[ZW];exact U2 _ _
theorem amf(s:ByteArray)(k:Nat):0<=eG s k/\eG s k<256:=by
 unfold eG;have:=(s.data.toList.getD k 0).toNat_lt;omega
def u32(c:Int):AV:= .lit (.int .u32 c)
def P8:Ctr:=det (Int×Int) (λp=>[u32 p.1,.lit (.int .u8 p.2)]) 0 (λ_=>[]) (λp=>U32 p.1/\0<=p.2/\p.2<256) (λp=>u32 (stepM p.1 p.2)) 0 (λ_=>[])
def apl(p:Int×Int):FuncId->qL:=λf=>
 bif Nat.beq f 216 then(λb fr h=>bif Nat.beq b 0 then [{σ:=Nat,fr:=λk=>[(5,i64 k),(0,u32 (vV (x32 p.1 p.2) k))],ob:=λ_=>[],inv:=λk=>k<=8,meas:=λk=>8-k}]else [])else
 λ_ _ _=>[]
def strV(s:ByteArray):AV:= .lit (.string s)
noncomputable def U3:Ctr:=det ByteArray (λs=>[strV s]) 0 (λ_=>[]) (λs=>s.size<1099511627776) (λs=>u32 (oH s)) 0 (λ_=>[])
def apm(s:ByteArray):FuncId->qL:=λf=>
 bif Nat.beq f 232 then(λb fr h=>bif Nat.beq b 0 then [{σ:=Nat,fr:=λi=>[(7,i64 i),(3,u32 (Eo s i))],ob:=λ_=>[],inv:=λi=>i<=s.size,meas:=λi=>s.size-i}]else [])else
 λ_ _ _=>[]
def agH(p:Int×Int):Prop:=
 (∃s:Nat,s<=8/\True/\((s:Int)=0/\vV (x32 p.1 p.2) s=IntKind.wrap .u32 ((@BitVec.toNat 32 (@HXor.hXor (@BitVec 32) (@BitVec 32) (@BitVec 32) (@instHXorOfXorOp (@BitVec 32) (@BitVec.instXorOp 32)) (@BitVec.ofInt 32 p.1) (@BitVec.ofInt 32 (IntKind.wrap .u32 p.2))):Nat):Int)/\True)/\True)/\(∀s:Nat,s<=8->cP (decide ((s:Int)<8)) (I64 ((s:Int)+1)/\((2:Int)=0->False)/\cP (BEq.beq (Int.tmod (vV (x32 p.1 p.2) s) (2:Int)) (0:Int)) (((2:Int)=0->False)/\ ∃s_1:Nat,s_1<=8/\8-s_1<8-s/\((s_1:Int)=(s:Int)+1/\vV (x32 p.1 p.2) s_1=IntKind.wrap .u32 (Int.tdiv (vV (x32 p.1 p.2) s) (2:Int))/\True)/\True) (((2:Int)=0->False)/\ ∃s_1:Nat,s_1<=8/\8-s_1<8-s/\((s_1:Int)=(s:Int)+1/\vV (x32 p.1 p.2) s_1=IntKind.wrap .u32 ((@BitVec.toNat 32 (@HXor.hXor (@BitVec 32) (@BitVec 32) (@BitVec 32) (@instHXorOfXorOp (@BitVec 32) (@BitVec.instXorOp 32)) (@BitVec.ofInt 32 (IntKind.wrap .u32 (Int.tdiv (vV (x32 p.1 p.2) s) (2:Int)))) (@BitVec.ofInt 32 (3988292384:Int))):Nat):Int)/\True)/\True)) (∃y:Unit,True/\stepM p.1 p.2=vV (x32 p.1 p.2) s/\True))/\True
theorem agJ(p:Int×Int):agH p=wpF Tryz.prog [] tt (apl p) 200 5 216 (P8.args p) (hO P8.k (P8.os p)) (λv h'=>eX P8.k p v h' P8.outs):=by kernel_rfl
def agK(s:ByteArray):Prop:=
 (∃s_1:Nat,s_1<=s.size/\True/\((s_1:Int)=0/\Eo s s_1=4294967295/\True)/\True)/\(∀s_1:Nat,s_1<=s.size->cP (decide ((s_1:Int)<(s.size:Int))) ((0<=(s_1:Int)/\(s_1:Int)<(s.size:Int))/\ ∃x:Prod Int Int,((0<=x.1/\x.1<4294967296)/\0<=x.2/\x.2<256)/\(x.1=Eo s s_1/\x.2=eG s s_1/\True)/\True/\ ∀y:Unit,True->I64 ((s_1:Int)+1)/\ ∃s_2:Nat,s_2<=s.size/\s.size-s_2<s.size-s_1/\((s_2:Int)=(s_1:Int)+1/\Eo s s_2=stepM x.1 x.2/\True)/\True) (∃y:Unit,True/\oH s=IntKind.wrap .u32 ((@BitVec.toNat 32 (@HXor.hXor (@BitVec 32) (@BitVec 32) (@BitVec 32) (@instHXorOfXorOp (@BitVec 32) (@BitVec.instXorOp 32)) (@BitVec.ofInt 32 (Eo s s_1)) (@BitVec.ofInt 32 (4294967295:Int))):Nat):Int)/\True))/\True
theorem agL(s:ByteArray):agK s=wpF Tryz.prog [(216,ctrT P8)] tt (apm s) 200 5 232 (U3.args s) (hO U3.k (U3.os s)) (λv h'=>eX U3.k s v h' U3.outs):=by kernel_rfl
theorem half{c:Int}(h:U32 c):Int.tmod c 2=c%2/\IntKind.u32.wrap (Int.tdiv c 2)=c/2:=by
 have e:Int.tdiv c 2=c/2:=Int.tdiv_eq_ediv_of_nonneg h.1;refine⟨Int.tmod_eq_emod_of_nonneg h.1,?_⟩;rw[e];exact Ep (by unfold U32 at*;omega)
theorem U4(p:Int×Int)(hp:U32 p.1/\0<=p.2/\p.2<256):agH p:=by
 unfold agH;have hw:IntKind.u32.wrap p.2=p.2:=Ep (by unfold U32;omega);have hx: ∀a b,IntKind.u32.wrap ((BitVec.ofInt 32 a^^^BitVec.ofInt 32 b).toNat:Nat)=x32 a b:=λ_ _=>rfl
 simp only[aV,aU,hw,hx];refine⟨⟨0,by omega,rfl,rfl⟩,λs hs=>bf (λhb=> ?_) (λhb=> ?_)⟩
 ·have hb:=aS hb
  obtain⟨h1,h2⟩:=half (Ky (U2 p.1 p.2) s);rw[h1,h2];refine⟨by unfold I64;omega,by omega,bf (λhc=> ?_) (λhc=> ?_)⟩
  ·have hc:vV (x32 p.1 p.2) s%2=0:=by simpa using hc
   exact⟨by omega,s+1,by omega,by omega,rfl,by simp[vV,aul,hc]⟩
  ·have hc:vV (x32 p.1 p.2) s%2≠0:=by simpa using hc
   exact⟨by omega,s+1,by omega,by omega,rfl,by simp only[vV,aul,hc,decide_false,aQ]⟩
 ·have:s=8:=by have:=aT hb;omega
  subst this;exact⟨(),rfl⟩
theorem step_ok:cO Tryz.prog 216 P8:=dM dG mixed dZ.nil apl 200 5 (λ_=>rfl) (λ_=>rfl) λx hx=>Eq.mp (agJ x) (U4 x hx)
theorem U5(s:ByteArray)(hs:s.size<1099511627776):agK s:=by
 unfold agK;simp only[aV,aU];refine⟨⟨0,by omega,rfl,rfl⟩,λi hi=>bf (λhb=> ?_) (λhb=> ?_)⟩
 ·have hb:=aS hb
  refine⟨⟨by omega,by omega⟩,(Eo s i,eG s i),⟨aq3 s i,amf s i⟩,⟨rfl,rfl⟩,λ_ _=>⟨by unfold I64;omega,i+1,by omega,by omega,rfl,rfl⟩⟩
 ·have:i=s.size:=by have:=aT hb;omega
  subst this;exact⟨(),ZW s⟩
theorem aq5:cO Tryz.prog 232 U3:=dM dG mixed (.cons (bP step_ok) .nil) apm 200 5 (λ_=>rfl) (λ_=>rfl) λx hx=>Eq.mp (agL x) (U5 x hx)
theorem bV(g:Nat->List Value)(q:Nat):Cs.eff g [] q=g q:=rfl
theorem eY(q:Nat):Nat.ble 0 q=true:=by simp
theorem bY(a b:Nat):Nat.blt a b=decide (a<b):=by
 by_cases h:a<b
 ·rw[bg.2 h];simp[h]
 ·have:Nat.blt a b=false:=by
   cases hb:Nat.blt a b with
   |false=>rfl
   |true=>exact absurd (bg.1 hb) h
  rw[this];simp[h]
theorem dA(a b:Nat):Nat.ble a b=decide (a<=b):=by
 by_cases h:a<=b
 ·rw[show Nat.ble a b=true by simpa using h];simp[h]
 ·have:Nat.ble a b=false:=by
   cases hb:Nat.ble a b with
   |false=>rfl
   |true=>exact absurd (by simpa using hb) h
  rw[this];simp[h]
theorem dK{α:Type}{p:Prop} [Decidable p]{x y:α}:(bif decide p then x else y)=if p then x else y:=by by_cases h:p<;>simp[h]
theorem dD(a b:Nat):Nat.beq a b=decide (a=b):=by
 by_cases h:a=b
 ·subst h;simp
 ·rw[fC h];simp[h]
theorem bH{b:Bool}{x y:Value}:(bif b then [x]else [y])=[bif b then x else y]:=by cases b<;>rfl
theorem bJ{b:Bool}{k:IntKind}{x y:Int}:(bif b then Value.int k x else Value.int k y)= .int k (bif b then x else y):=by cases b<;>rfl
theorem bn{b:Bool}{x y:Bool}:(bif b then Value.bool x else Value.bool y)= .bool (bif b then x else y):=by cases b<;>rfl
theorem bK{k:IntKind}{x:Int}:([Value.int k x].length.beq 1&&[Value.int k x].all Value.oneCell')=true:=rfl
theorem bC{x:Bool}:([Value.bool x].length.beq 1&&[Value.bool x].all Value.oneCell')=true:=rfl
theorem bW{k:IntKind}{x y:Int}:([Value.int k x]=[Value.int k y])=(x=y):=by simp
theorem bM{x y:Bool}:([Value.bool x]=[Value.bool y])=(x=y):=by simp
def u64(n:Int):AV:= .lit (.int .u64 n)
def rowB(g:Nat->Int)(n:Nat):Cs:= .row 1 n (λk=>[.int .u8 (g k)]) []
structure Bys where
 g:Nat->Int
 q:Nat
 n:Nat
 N:Nat
namespace Bys
def ok(b:Bys):Prop:=b.q+b.n<=b.N/\b.n<1099511627776/\ ∀k,0<=b.g k/\b.g k<256
def ro(b:Bys):dF:= .ro (rowB b.g b.N)
def av(b:Bys)(i:Nat):AV:= .slR i b.q 1 b.n
end Bys
def Ci(c:Int)(g:Nat->Int):Nat->Int
 |0=>c
 |i+1=>stepM (Ci c g i) (g i)
noncomputable def nI(c:Int)(g:Nat->Int)(n:Nat):Int:=hide (x32 (Ci (x32 c 4294967295) g n) 4294967295)
theorem aq6{c:Int}(h:U32 c)(g:Nat->Int): ∀n,U32 (Ci c g n)
 |0=>h
 |n+1=>Ky (U2 _ _) 8
theorem ZX(c:Int)(g:Nat->Int)(n:Nat):U32 (nI c g n):=by unfold nI;rw[iK];exact U2 _ _
structure aq7 where
 c:Int
 b:Bys
noncomputable def apn:Ctr:=det aq7 (λx=>[u32 x.c,x.b.av 0]) 1 (λx=>[x.b.ro]) (λx=>Hd (U32 x.c/\x.b.ok)) (λx=>u32 (nI x.c (λk=>x.b.g (x.b.q+k)) x.b.n)) 1 (λx=>[x.b.ro])
def aun(x:aq7):FuncId->qL:=λf=>
 bif Nat.beq f 170 then(λb fr h=>bif Nat.beq b 0 then [{σ:=Nat,fr:=λk=>[(11,i64 k),(0,u32 (Ci (x32 x.c 4294967295) (λk=>x.b.g (x.b.q+k)) k))],ob:=λ_=>[],inv:=λk=>k<=x.b.n,meas:=λk=>x.b.n-k}]else [])else
 λ_ _ _=>[]
def pG(g:Nat->Int)(at_ w:Nat)(v:Int)(k:Nat):Int:=if at_<=k/\k<at_+w then v/256^(k-at_)%256 else g k
structure uS where
 b:Bys
 at_:Nat
 w:Nat
 v:Int
 c:Nat
def uS.ok(x:uS):Prop:=x.b.ok/\x.at_+x.w<=x.b.n/\1<=x.w/\x.w<=8/\0<=x.v/\x.v<256^x.w
def uS.res(x:uS):Nat->Int:=pG (λk=>x.b.g (x.b.q+k)) x.at_ x.w x.v
noncomputable def apo:Ctr:=det uS (λx=>[.slE 0 x.b.q 1 x.b.n x.c,i64 x.at_,i64 x.w,u64 x.v]) 1 (λx=>[x.b.ro]) (λx=>Hd x.ok) (λx=> .tup [.slW 1 0 1 x.b.n,i64 0]) 2 (λx=>[x.b.ro,.room 5 (rowB x.res x.b.n)])
def auo(x:uS):FuncId->qL:=λf=>
 bif Nat.beq f 215 then(λb fr h=>bif Nat.beq b 0 then [{σ:=Nat,fr:=λk=>[(32,i64 k)],ob:=λk=>[(1,none),(2,some (.room 5 (rowB (pG (λk=>x.b.g (x.b.q+k)) x.at_ k x.v) x.b.n)))],inv:=λk=>k<=x.w,meas:=λk=>x.w-k,nx:=0}]else [])else
 λ_ _ _=>[]
def yw(a:Bys):Prop:=rowB a.g a.N=rowB a.g a.N/\true=true
def aq8(a:uS):Prop:=a.b.q+a.b.n<=a.b.N/\cP (Nat.beq a.b.n 0) ((∃s:Nat,s<=a.w/\True/\((s:Int)=0/\True)/\yw a.b/\True)/\(∀s:Nat,s<=a.w->cP (decide ((s:Int)<(a.w:Int))) (I64 ((a.at_:Int)+(s:Int))/\I64 (8*(s:Int))/\0<=8*(s:Int)/\(0<=(a.at_:Int)+(s:Int)/\(a.at_:Int)+(s:Int)<0)/\False) (∃y:Unit,True/\((a.b.n=0/\0=0/\0=0)/\(0:Int)=0/\True)/\yw a.b/\False/\True))/\True) ((2*(0+a.b.n)+1000)*1<=281474976710656/\(∃s:Nat,s<=a.w/\True/\((s:Int)=0/\True)/\(a.b.n=0+a.b.n/\ ∀q:Nat,q<a.b.n->[Value.int .u8 (pG (λ(k:Nat)=>a.b.g (a.b.q+k)) a.at_ s a.v q)]=[Value.int .u8 (a.b.g (a.b.q+(q-0)))])/\yw a.b/\True)/\(∀s:Nat,s<=a.w->cP (decide ((s:Int)<(a.w:Int))) (I64 ((a.at_:Int)+(s:Int))/\I64 (8*(s:Int))/\0<=8*(s:Int)/\(0<=(a.at_:Int)+(s:Int)/\(a.at_:Int)+(s:Int)<((0+a.b.n:Nat):Int))/\0+Int.toNat ((a.at_:Int)+(s:Int))<a.b.n/\I64 ((s:Int)+1)/\ ∃s_1:Nat,s_1<=a.w/\a.w-s_1<a.w-s/\((s_1:Int)=(s:Int)+1/\True)/\(a.b.n=a.b.n/\ ∀q:Nat,q<a.b.n->[Value.int .u8 (pG (λ(k:Nat)=>a.b.g (a.b.q+k)) a.at_ s_1 a.v q)]=Cs.eff (λ(k:Nat)=>[Value.int .u8 (pG (λ(k_1:Nat)=>a.b.g (a.b.q+k_1)) a.at_ s a.v k)]) [(0+Int.toNat ((a.at_:Int)+(s:Int)),[Value.int .u8 (IntKind.wrap .u8 (Int.fdiv a.v (@HPow.hPow Int Nat Int (@instHPow Int Nat (@instPowNat Int @Int.instNatPow)) (2:Int) (@Min.min Nat @instMinNat (Int.toNat (8*(s:Int))) 64))))])] q)/\yw a.b/\True) (∃y:Unit,True/\((0=0/\a.b.n=0+a.b.n)/\(0:Int)=0/\True)/\yw a.b/\(a.b.n=a.b.n/\
 ∀q:Nat,q<a.b.n->[Value.int .u8 (a.res q)]=[Value.int .u8 (pG (λ(k:Nat)=>a.b.g (a.b.q+k)) a.at_ s a.v q)])/\True))/\True)
def aq9(x:aq7):Prop:=
 (∃s:Nat,s<=x.b.n/\True/\((s:Int)=0/\Ci (x32 x.c (4294967295:Int)) (λ(k:Nat)=>x.b.g (x.b.q+k)) s=IntKind.wrap .u32 ((@BitVec.toNat 32 (@HXor.hXor (@BitVec 32) (@BitVec 32) (@BitVec 32) (@instHXorOfXorOp (@BitVec 32) (@BitVec.instXorOp 32)) (@BitVec.ofInt 32 x.c) (@BitVec.ofInt 32 (4294967295:Int))):Nat):Int)/\True)/\yw x.b/\True)/\(∀s:Nat,s<=x.b.n->cP (decide ((s:Int)<(x.b.n:Int))) ((0<=(s:Int)/\(s:Int)<(x.b.n:Int))/\x.b.q+s<x.b.N/\ ∃x_1:Prod Int Int,((0<=x_1.1/\x_1.1<4294967296)/\0<=x_1.2/\x_1.2<256)/\(x_1.1=Ci (x32 x.c (4294967295:Int)) (λ(k:Nat)=>x.b.g (x.b.q+k)) s/\x_1.2=x.b.g (x.b.q+s)/\True)/\True/\ ∀y:Unit,True->I64 ((s:Int)+1)/\ ∃s_1:Nat,s_1<=x.b.n/\x.b.n-s_1<x.b.n-s/\((s_1:Int)=(s:Int)+1/\Ci (x32 x.c (4294967295:Int)) (λ(k:Nat)=>x.b.g (x.b.q+k)) s_1=stepM x_1.1 x_1.2/\True)/\yw x.b/\True) (∃y:Unit,True/\nI x.c (λ(k:Nat)=>x.b.g (x.b.q+k)) x.b.n=IntKind.wrap .u32 ((@BitVec.toNat 32 (@HXor.hXor (@BitVec 32) (@BitVec 32) (@BitVec 32) (@instHXorOfXorOp (@BitVec 32) (@BitVec.instXorOp 32)) (@BitVec.ofInt 32 (Ci (x32 x.c (4294967295:Int)) (λ(k:Nat)=>x.b.g (x.b.q+k)) s)) (@BitVec.ofInt 32 (4294967295:Int))):Nat):Int)/\yw x.b/\True))/\True
theorem amg(x:aq7):aq9 x=wpF Tryz.prog [(216,ctrT P8)] tt (aun x) 200 5 170 (apn.args x) (hO apn.k (apn.os x)) (λv h'=>eX apn.k x v h' apn.outs):=by kernel_rfl
def ara(x:uS):Prop:=
 cP (decide ((x.w:Int)<1)) (∃y:Unit,True/\(False/\(0:Int)=1/\True)/\yw x.b/\False/\True) (cP (decide ((x.w:Int)>(8:Int))) (∃y:Unit,True/\(False/\(0:Int)=1/\True)/\yw x.b/\False/\True) (I64 ((x.b.n:Int)-(x.w:Int))/\cP (decide ((x.at_:Int)>(x.b.n:Int)-(x.w:Int))) (∃y:Unit,True/\(False/\(0:Int)=2/\True)/\yw x.b/\False/\True) (cP (decide ((x.w:Int)<8)) (I64 (8*(x.w:Int))/\0<=8*(x.w:Int)/\cP (bne (Int.fdiv x.v (@HPow.hPow Int Nat Int (@instHPow Int Nat (@instPowNat Int @Int.instNatPow)) (2:Int) (@Min.min Nat @instMinNat (Int.toNat (8*(x.w:Int))) 64))) (0:Int)) (∃y:Unit,True/\(False/\(0:Int)=11/\True)/\yw x.b/\False/\True) (aq8 x)) (aq8 x))))
theorem amh(x:uS):ara x=wpF Tryz.prog [] tt (auo x) 200 5 215 (apo.args x) (hO apo.k (apo.os x)) (λv h'=>eX apo.k x v h' apo.outs):=by kernel_rfl
theorem acu(x:aq7)(hx:U32 x.c/\x.b.ok):aq9 x:=by
 obtain⟨hc,h1,h2,h3⟩:=hx;unfold aq9;simp only[yw];have hw: ∀a b,IntKind.u32.wrap ((BitVec.ofInt 32 a^^^BitVec.ofInt 32 b).toNat:Nat)=x32 a b:=λ_ _=>rfl
 simp only[aZ,aV,aU,aA,aI,bU,bG,aO,aK,ay,aX,aW,hw];refine⟨⟨0,by omega,rfl,rfl⟩,λs hs=>bf (λhb=> ?_) (λhb=> ?_)⟩
 ·have hb:=aS hb
  refine⟨⟨by omega,by omega⟩,by omega,(Ci (x32 x.c 4294967295) (λk=>x.b.g (x.b.q+k)) s,x.b.g (x.b.q+s)),⟨aq6 (U2 _ _) _ s,h3 _⟩,⟨rfl,rfl⟩,by unfold I64;omega,s+1,by omega,by omega,by omega,rfl⟩
 ·have:s=x.b.n:=by have:=aT hb;omega
  subst this;unfold nI;rw[iK]
theorem Es{c:Int}{g g':Nat->Int}: ∀{n:Nat},(∀k,k<n->g k=g' k)->Ci c g n=Ci c g' n
 |0,_=>rfl
 |n+1,h=>by simp only[Ci];rw[Es (n:=n) λk hk=>h k (by omega),h n (by omega)]
theorem zF{c:Int}{g g':Nat->Int}{n:Nat}(h: ∀k,k<n->g k=g' k):nI c g n=nI c g' n:=by unfold nI;rw[iK,iK,Es h]
theorem apq:cO Tryz.prog 170 apn:=dM dG mixed (.cons (bP step_ok) .nil) aun 200 5 (λ_=>rfl) (λ_=>rfl) λx hx=>Eq.mp (amg x) (acu x (aZ.1 hx))
theorem U6{s:Nat}(h:s<=8):(2:Int)^(min (((8:Int)*(s:Nat)).toNat) 64)=256^s:=by
 have e:((8:Int)*(s:Nat)).toNat=8*s:=by omega
 rw[e,Nat.min_eq_left (by omega)];rw[show(256:Int)=2^8 by rfl,<-Int.pow_mul]
theorem apr(z:Int):IntKind.u8.wrap z=z%256:=by
 unfold IntKind.wrap;simp[IntKind.bits,IntKind.signed]
theorem agM(g:Nat->Int)(a s:Nat)(v:Int)(q:Nat):pG g a (s+1) v q=if q=a+s then v/256^s%256 else pG g a s v q:=by
 unfold pG;by_cases h:q=a+s
 ·subst h;simp
 ·rw[if_neg h]
  by_cases h2:a<=q/\q<a+s
  ·rw[if_pos h2,if_pos (by omega)]
  ·rw[if_neg h2,if_neg (by omega)]
theorem acv(x:uS)(hx:x.ok):ara x:=by
 obtain⟨⟨h1,h2,h3⟩,h4,h5,h6,h7,h8⟩:=hx;have z0: ∀(g:Nat->Int) a v q,pG g a 0 v q=g q:=λg a v q=>by unfold pG;rw[if_neg (by omega)]
 have key: ∀s:Nat,s<x.w-> ∀q,[Value.int .u8 (pG (λk=>x.b.g (x.b.q+k)) x.at_ (s+1) x.v q)]=Cs.eff (λk=>[Value.int .u8 (pG (λk=>x.b.g (x.b.q+k)) x.at_ s x.v k)]) [((((x.at_:Int)+(s:Int)).toNat),[Value.int .u8 (IntKind.u8.wrap (Int.fdiv x.v (2^(min ((8*(s:Int)).toNat) 64))))])] q:=λs hs q=>by
  rw[U6 (by omega),apr,show((x.at_:Int)+(s:Int)).toNat=x.at_+s by omega,agM];simp only[Cs.eff];by_cases h:q=x.at_+s
  ·subst h
   have:Int.fdiv x.v (256^s)=x.v/256^s:=Int.fdiv_eq_ediv_of_nonneg _ (Int.le_of_lt (Int.pow_pos (by omega)));simp[this]
  ·simp[h,fC h]
 unfold ara;simp only[yw,aq8];have hn:x.b.n≠0:=by omega
 simp only[aZ,aV,aU,aA,aI,bU,bG,aO,aK,ay,aX,aW,z0];have i64: ∀z:Int,-9223372036854775808<=z->z<=9223372036854775807->I64 z:=λz a b=>⟨a,b⟩
 refine bf (λh=>absurd (aS h) (by omega)) λ_=>bf (λh=>absurd (aS h) (by omega)) λ_=>⟨i64 _ (by omega) (by omega),bf (λh=>absurd (aS h) (by omega)) λ_=>
  bf (λhb=>⟨i64 _ (by omega) (by omega),by omega,bf (λh=> ?_) (λ_=> ?_)⟩) (λ_=> ?_)⟩
 ·rw[U6 h6,show Int.fdiv x.v (256^x.w)=0 by rw[Int.fdiv_eq_ediv_of_nonneg _ (Int.le_of_lt (Int.pow_pos (by omega)))];exact Int.ediv_eq_zero_of_lt h7 h8]at h
  cases h
 all_goals
  refine⟨h1,bf (λh=>absurd (au h) hn) λ_=>⟨by omega,⟨0,by omega,rfl,λq _=>by rw[z0];rfl⟩,λs hs=>bf (λh=> ?_) (λh=> ?_)⟩⟩
  ·have h:=aS h
   exact⟨i64 _ (by omega) (by omega),i64 _ (by omega) (by omega),by omega,⟨by omega,by omega⟩,by omega,i64 _ (by omega) (by omega),s+1,by omega,by omega,by omega,λq _=>key s (by omega) q⟩
  ·have:s=x.w:=by have:=aT h;omega
   subst this;exactλq _=>rfl
theorem aps:cO Tryz.prog 215 apo:=dM dG mixed dZ.nil auo 200 5 (λ_=>rfl) (λ_=>rfl) λx hx=>Eq.mp (amh x) (acv x (aZ.1 hx))
noncomputable def acw:Ctr:=det Bys (λb=>[b.av 0]) 1 (λb=>[b.ro]) (λb=>Hd b.ok) (λb=>u32 (nI 0 (λk=>b.g (b.q+k)) b.n)) 1 (λb=>[b.ro])
noncomputable def ami:WTr:=λargs h K=>match args with
 |[x]=>aco h x 1 λe=> ∃(n:Nat) (g:Nat->Int),e.len=n/\n<1099511627776/\(∀k,k<n->e.el k=[.int .u8 (g k)])/\(∀k,0<=g k/\g k<256)/\K (u32 (nI 0 g n)) h
 |_=>False
def isE:List AV->Bool
 | .slE .. ::_=>true
 |_=>false
def acy(v:Int)(k:Nat):Int:=if k=0 then 3 else v/256^(k-1)%256
noncomputable def iG(v:Int)(k:Nat):Int:=if k<9 then acy v k else if k<13 then nI 0 (acy v) 9/256^(k-9)%256 else 0
noncomputable def Bq:Ctr:=det Int (λv=>[u64 v]) 0 (λ_=>[]) (λv=>Hd (0<=v/\v<18446744073709551616)) (λ_=> .slE 0 0 1 64 64) 1 (λv=>[.cells 312 (rowB (iG v) 64)])
noncomputable def tblK:je:=[(171,ami),(215,orT isE (ctrT apo) (λargs h K=>wpF Tryz.prog [] tt (λ_ _ _ _=>[]) 200 5 215 args h K))]
def arb(a:uS)(b:Nat):Prop:=(Nat.beq (List.length [Value.int .u8 (a.res (0+b))]) 1&&List.all [Value.int .u8 (a.res (0+b))] Value.oneCell')=true
def amj(a:uS):Prop:= ∀k:Nat,k<a.b.n->arb a k
def amk(a:uS):Prop:= ∀k:Nat,k<64->arb a k
def GZ:Prop:=0<=64/\64<=64/\64<=64
def ard(a:uS)(b: ∀a:Nat,Int)(c:Nat):Prop:=(a.b.q=0/\a.b.n=64/\a.c=64)/\(a.at_:Int)=9/\(a.w:Int)=4/\a.v=IntKind.wrap .u64 (nI (0:Int) b c)/\True
def agN:Prop:=0=0/\64=64/\64=64
def agO(b:Bys):Prop:=
 ∃x:aq7,Hd (U32 x.c/\x.b.ok)/\(x.c=0/\(x.b.q=b.q/\x.b.n=b.n)/\True)/\((x.b.N=b.N/\ ∀q:Nat,q<x.b.N->[Value.int .u8 (x.b.g q)]=[Value.int .u8 (b.g q)])/\True)/\ ∀y:Unit,True-> ∃y_1:Unit,True/\nI (0:Int) (λ(k:Nat)=>b.g (b.q+k)) b.n=nI x.c (λ(k:Nat)=>x.b.g (x.b.q+k)) x.b.n/\(rowB b.g b.N=rowB b.g b.N/\true=true)/\True
theorem agP(b:Bys):agO b=wpF Tryz.prog [(170,ctrT apn)] tt (λ_ _ _ _=>[]) 200 5 171 (acw.args b) (hO acw.k (acw.os b)) (λv h'=>eX acw.k b v h' acw.outs):=by kernel_rfl
def U7(x:Int):Prop:=
 ∃x_1:uS,Hd x_1.ok/\((x_1.b.q=0/\x_1.b.n=9/\x_1.c=9)/\(x_1.at_:Int)=1/\(x_1.w:Int)=8/\x_1.v=x/\True)/\((x_1.b.N=9/\ ∀q:Nat,q<x_1.b.N->[Value.int .u8 (x_1.b.g q)]=[List.getD [Value.int .u8 3,Value.int .u8 0,Value.int .u8 0,Value.int .u8 0,Value.int .u8 0,Value.int .u8 0,Value.int .u8 0,Value.int .u8 0,Value.int .u8 0] q (@Inhabited.default Value @instInhabitedValue)])/\True)/\ ∀y:Unit,True->GZ/\64<=64/\cP (Nat.ble x_1.b.n 64) (0+x_1.b.n<=x_1.b.n/\amj x_1/\GZ/\0+x_1.b.n<=x_1.b.n/\ ∃n:Nat,∃g: ∀a:Nat,Int,x_1.b.n=n/\n<1099511627776/\(∀k:Nat,k<n->[Value.int .u8 (x_1.res (0+k))]=[Value.int .u8 (g k)])/\(∀k:Nat,0<=g k/\g k<256)/\True/\ ∃x_2:uS,Hd x_2.ok/\ard x_2 g n/\((x_2.b.N=64/\ ∀q:Nat,q<x_2.b.N->[Value.int .u8 (x_2.b.g q)]=Cs.eff (λ(p:Nat)=>cond (Nat.ble 0 p&&Nat.blt p (0+x_1.b.n)) [Value.int .u8 (x_1.res (0+(p-0)))] [Value.int .u8 0]) [] q)/\True)/\ ∀y_1:Unit,True->True/\GZ/\64<=64/\cP (Nat.ble x_2.b.n 64) (0+x_2.b.n<=x_2.b.n/\amj x_2/\(∀k:Nat,k<64->(Nat.beq (List.length (Cs.eff (λ(p:Nat)=>cond (Nat.ble 0 p&&Nat.blt p (0+x_2.b.n)) [Value.int .u8 (x_2.res (0+(p-0)))] (Cs.eff (λ(p_1:Nat)=>cond (Nat.ble 0 p_1&&Nat.blt p_1 (0+x_1.b.n)) [Value.int .u8 (x_1.res (0+(p_1-0)))] [Value.int .u8 0]) [] p)) [] k)) 1&&List.all (Cs.eff (λ(p:Nat)=>cond (Nat.ble 0 p&&Nat.blt p (0+x_2.b.n)) [Value.int .u8 (x_2.res (0+(p-0)))] (Cs.eff (λ(p_1:Nat)=>cond (Nat.ble 0 p_1&&Nat.blt p_1 (0+x_1.b.n)) [Value.int .u8 (x_1.res (0+(p_1-0)))] [Value.int .u8 0]) [] p)) [] k) Value.oneCell')=true)/\
 (∀k:Nat,k<64->(Nat.beq (List.length (Cs.eff (Cs.eff (λ(p:Nat)=>cond (Nat.ble 0 p&&Nat.blt p (0+x_2.b.n)) [Value.int .u8 (x_2.res (0+(p-0)))] (Cs.eff (λ(p_1:Nat)=>cond (Nat.ble 0 p_1&&Nat.blt p_1 (0+x_1.b.n)) [Value.int .u8 (x_1.res (0+(p_1-0)))] [Value.int .u8 0]) [] p)) []) [] k)) 1&&List.all (Cs.eff (Cs.eff (λ(p:Nat)=>cond (Nat.ble 0 p&&Nat.blt p (0+x_2.b.n)) [Value.int .u8 (x_2.res (0+(p-0)))] (Cs.eff (λ(p_1:Nat)=>cond (Nat.ble 0 p_1&&Nat.blt p_1 (0+x_1.b.n)) [Value.int .u8 (x_1.res (0+(p_1-0)))] [Value.int .u8 0]) [] p)) []) [] k) Value.oneCell')=true)/\(∀k:Nat,k<64->(Nat.beq (List.length (Cs.eff (Cs.eff (Cs.eff (λ(p:Nat)=>cond (Nat.ble 0 p&&Nat.blt p (0+x_2.b.n)) [Value.int .u8 (x_2.res (0+(p-0)))] (Cs.eff (λ(p_1:Nat)=>cond (Nat.ble 0 p_1&&Nat.blt p_1 (0+x_1.b.n)) [Value.int .u8 (x_1.res (0+(p_1-0)))] [Value.int .u8 0]) [] p)) []) []) [] k)) 1&&List.all (Cs.eff (Cs.eff (Cs.eff (λ(p:Nat)=>cond (Nat.ble 0 p&&Nat.blt p (0+x_2.b.n)) [Value.int .u8 (x_2.res (0+(p-0)))] (Cs.eff (λ(p_1:Nat)=>cond (Nat.ble 0 p_1&&Nat.blt p_1 (0+x_1.b.n)) [Value.int .u8 (x_1.res (0+(p_1-0)))] [Value.int .u8 0]) [] p)) []) []) [] k) Value.oneCell')=true)/\GZ/\ ∃y_2:Unit,True/\agN/\(64=64/\ ∀q:Nat,q<64->[Value.int .u8 (iG x q)]=Cs.eff (Cs.eff (Cs.eff (Cs.eff (λ(p:Nat)=>cond (Nat.ble 0 p&&Nat.blt p (0+x_2.b.n)) [Value.int .u8 (x_2.res (0+(p-0)))] (Cs.eff (λ(p_1:Nat)=>cond (Nat.ble 0 p_1&&Nat.blt p_1 (0+x_1.b.n)) [Value.int .u8 (x_1.res (0+(p_1-0)))] [Value.int .u8 0]) [] p)) []) []) []) [] q)/\True) (64<=x_2.b.n/\amk x_2/\
 (∀k:Nat,k<64->(Nat.beq (List.length (Cs.eff (λ(p:Nat)=>cond (Nat.ble 0 p&&Nat.blt p 64) [Value.int .u8 (x_2.res (0+(p-0)))] (Cs.eff (λ(p_1:Nat)=>cond (Nat.ble 0 p_1&&Nat.blt p_1 (0+x_1.b.n)) [Value.int .u8 (x_1.res (0+(p_1-0)))] [Value.int .u8 0]) [] p)) [] k)) 1&&List.all (Cs.eff (λ(p:Nat)=>cond (Nat.ble 0 p&&Nat.blt p 64) [Value.int .u8 (x_2.res (0+(p-0)))] (Cs.eff (λ(p_1:Nat)=>cond (Nat.ble 0 p_1&&Nat.blt p_1 (0+x_1.b.n)) [Value.int .u8 (x_1.res (0+(p_1-0)))] [Value.int .u8 0]) [] p)) [] k) Value.oneCell')=true)/\(∀k:Nat,k<64->(Nat.beq (List.length (Cs.eff (Cs.eff (λ(p:Nat)=>cond (Nat.ble 0 p&&Nat.blt p 64) [Value.int .u8 (x_2.res (0+(p-0)))] (Cs.eff (λ(p_1:Nat)=>cond (Nat.ble 0 p_1&&Nat.blt p_1 (0+x_1.b.n)) [Value.int .u8 (x_1.res (0+(p_1-0)))] [Value.int .u8 0]) [] p)) []) [] k)) 1&&List.all (Cs.eff (Cs.eff (λ(p:Nat)=>cond (Nat.ble 0 p&&Nat.blt p 64) [Value.int .u8 (x_2.res (0+(p-0)))] (Cs.eff (λ(p_1:Nat)=>cond (Nat.ble 0 p_1&&Nat.blt p_1 (0+x_1.b.n)) [Value.int .u8 (x_1.res (0+(p_1-0)))] [Value.int .u8 0]) [] p)) []) [] k) Value.oneCell')=true)/\
 (∀k:Nat,k<64->(Nat.beq (List.length (Cs.eff (Cs.eff (Cs.eff (λ(p:Nat)=>cond (Nat.ble 0 p&&Nat.blt p 64) [Value.int .u8 (x_2.res (0+(p-0)))] (Cs.eff (λ(p_1:Nat)=>cond (Nat.ble 0 p_1&&Nat.blt p_1 (0+x_1.b.n)) [Value.int .u8 (x_1.res (0+(p_1-0)))] [Value.int .u8 0]) [] p)) []) []) [] k)) 1&&List.all (Cs.eff (Cs.eff (Cs.eff (λ(p:Nat)=>cond (Nat.ble 0 p&&Nat.blt p 64) [Value.int .u8 (x_2.res (0+(p-0)))] (Cs.eff (λ(p_1:Nat)=>cond (Nat.ble 0 p_1&&Nat.blt p_1 (0+x_1.b.n)) [Value.int .u8 (x_1.res (0+(p_1-0)))] [Value.int .u8 0]) [] p)) []) []) [] k) Value.oneCell')=true)/\GZ/\ ∃y_2:Unit,True/\agN/\(64=64/\ ∀q:Nat,q<64->[Value.int .u8 (iG x q)]=Cs.eff (Cs.eff (Cs.eff (Cs.eff (λ(p:Nat)=>cond (Nat.ble 0 p&&Nat.blt p 64) [Value.int .u8 (x_2.res (0+(p-0)))] (Cs.eff (λ(p_1:Nat)=>cond (Nat.ble 0 p_1&&Nat.blt p_1 (0+x_1.b.n)) [Value.int .u8 (x_1.res (0+(p_1-0)))] [Value.int .u8 0]) [] p)) []) []) []) [] q)/\True)) (64<=x_1.b.n/\amk x_1/\GZ/\0+x_1.b.n<=x_1.b.n/\ ∃n:Nat,∃g: ∀a:Nat,Int,x_1.b.n=n/\n<1099511627776/\(∀k:Nat,k<n->[Value.int .u8 (x_1.res (0+k))]=[Value.int .u8 (g k)])/\(∀k:Nat,0<=g k/\g k<256)/\True/\ ∃x_2:uS,Hd x_2.ok/\ard x_2 g n/\((x_2.b.N=64/\ ∀q:Nat,q<x_2.b.N->[Value.int .u8 (x_2.b.g q)]=Cs.eff (λ(p:Nat)=>cond (Nat.ble 0 p&&Nat.blt p 64) [Value.int .u8 (x_1.res (0+(p-0)))] [Value.int .u8 0]) [] q)/\True)/\ ∀y_1:Unit,True->True/\GZ/\64<=64/\cP (Nat.ble x_2.b.n 64) (0+x_2.b.n<=x_2.b.n/\amj x_2/\
 (∀k:Nat,k<64->(Nat.beq (List.length (Cs.eff (λ(p:Nat)=>cond (Nat.ble 0 p&&Nat.blt p (0+x_2.b.n)) [Value.int .u8 (x_2.res (0+(p-0)))] (Cs.eff (λ(p_1:Nat)=>cond (Nat.ble 0 p_1&&Nat.blt p_1 64) [Value.int .u8 (x_1.res (0+(p_1-0)))] [Value.int .u8 0]) [] p)) [] k)) 1&&List.all (Cs.eff (λ(p:Nat)=>cond (Nat.ble 0 p&&Nat.blt p (0+x_2.b.n)) [Value.int .u8 (x_2.res (0+(p-0)))] (Cs.eff (λ(p_1:Nat)=>cond (Nat.ble 0 p_1&&Nat.blt p_1 64) [Value.int .u8 (x_1.res (0+(p_1-0)))] [Value.int .u8 0]) [] p)) [] k) Value.oneCell')=true)/\(∀k:Nat,k<64->(Nat.beq (List.length (Cs.eff (Cs.eff (λ(p:Nat)=>cond (Nat.ble 0 p&&Nat.blt p (0+x_2.b.n)) [Value.int .u8 (x_2.res (0+(p-0)))] (Cs.eff (λ(p_1:Nat)=>cond (Nat.ble 0 p_1&&Nat.blt p_1 64) [Value.int .u8 (x_1.res (0+(p_1-0)))] [Value.int .u8 0]) [] p)) []) [] k)) 1&&List.all (Cs.eff (Cs.eff (λ(p:Nat)=>cond (Nat.ble 0 p&&Nat.blt p (0+x_2.b.n)) [Value.int .u8 (x_2.res (0+(p-0)))] (Cs.eff (λ(p_1:Nat)=>cond (Nat.ble 0 p_1&&Nat.blt p_1 64) [Value.int .u8 (x_1.res (0+(p_1-0)))] [Value.int .u8 0]) [] p)) []) [] k) Value.oneCell')=true)/\
 (∀k:Nat,k<64->(Nat.beq (List.length (Cs.eff (Cs.eff (Cs.eff (λ(p:Nat)=>cond (Nat.ble 0 p&&Nat.blt p (0+x_2.b.n)) [Value.int .u8 (x_2.res (0+(p-0)))] (Cs.eff (λ(p_1:Nat)=>cond (Nat.ble 0 p_1&&Nat.blt p_1 64) [Value.int .u8 (x_1.res (0+(p_1-0)))] [Value.int .u8 0]) [] p)) []) []) [] k)) 1&&List.all (Cs.eff (Cs.eff (Cs.eff (λ(p:Nat)=>cond (Nat.ble 0 p&&Nat.blt p (0+x_2.b.n)) [Value.int .u8 (x_2.res (0+(p-0)))] (Cs.eff (λ(p_1:Nat)=>cond (Nat.ble 0 p_1&&Nat.blt p_1 64) [Value.int .u8 (x_1.res (0+(p_1-0)))] [Value.int .u8 0]) [] p)) []) []) [] k) Value.oneCell')=true)/\GZ/\ ∃y_2:Unit,True/\agN/\(64=64/\ ∀q:Nat,q<64->[Value.int .u8 (iG x q)]=Cs.eff (Cs.eff (Cs.eff (Cs.eff (λ(p:Nat)=>cond (Nat.ble 0 p&&Nat.blt p (0+x_2.b.n)) [Value.int .u8 (x_2.res (0+(p-0)))] (Cs.eff (λ(p_1:Nat)=>cond (Nat.ble 0 p_1&&Nat.blt p_1 64) [Value.int .u8 (x_1.res (0+(p_1-0)))] [Value.int .u8 0]) [] p)) []) []) []) [] q)/\True) (64<=x_2.b.n/\amk x_2/\(∀k:Nat,k<64->(Nat.beq (List.length (Cs.eff (λ(p:Nat)=>cond (Nat.ble 0 p&&Nat.blt p 64) [Value.int .u8 (x_2.res (0+(p-0)))] (Cs.eff (λ(p_1:Nat)=>cond (Nat.ble 0 p_1&&Nat.blt p_1 64) [Value.int .u8 (x_1.res (0+(p_1-0)))] [Value.int .u8 0]) [] p)) [] k)) 1&&List.all (Cs.eff (λ(p:Nat)=>cond (Nat.ble 0 p&&Nat.blt p 64) [Value.int .u8 (x_2.res (0+(p-0)))] (Cs.eff (λ(p_1:Nat)=>cond (Nat.ble 0 p_1&&Nat.blt p_1 64) [Value.int .u8 (x_1.res (0+(p_1-0)))] [Value.int .u8 0]) [] p)) [] k) Value.oneCell')=true)/\
 (∀k:Nat,k<64->(Nat.beq (List.length (Cs.eff (Cs.eff (λ(p:Nat)=>cond (Nat.ble 0 p&&Nat.blt p 64) [Value.int .u8 (x_2.res (0+(p-0)))] (Cs.eff (λ(p_1:Nat)=>cond (Nat.ble 0 p_1&&Nat.blt p_1 64) [Value.int .u8 (x_1.res (0+(p_1-0)))] [Value.int .u8 0]) [] p)) []) [] k)) 1&&List.all (Cs.eff (Cs.eff (λ(p:Nat)=>cond (Nat.ble 0 p&&Nat.blt p 64) [Value.int .u8 (x_2.res (0+(p-0)))] (Cs.eff (λ(p_1:Nat)=>cond (Nat.ble 0 p_1&&Nat.blt p_1 64) [Value.int .u8 (x_1.res (0+(p_1-0)))] [Value.int .u8 0]) [] p)) []) [] k) Value.oneCell')=true)/\(∀k:Nat,k<64->(Nat.beq (List.length (Cs.eff (Cs.eff (Cs.eff (λ(p:Nat)=>cond (Nat.ble 0 p&&Nat.blt p 64) [Value.int .u8 (x_2.res (0+(p-0)))] (Cs.eff (λ(p_1:Nat)=>cond (Nat.ble 0 p_1&&Nat.blt p_1 64) [Value.int .u8 (x_1.res (0+(p_1-0)))] [Value.int .u8 0]) [] p)) []) []) [] k)) 1&&List.all (Cs.eff (Cs.eff (Cs.eff (λ(p:Nat)=>cond (Nat.ble 0 p&&Nat.blt p 64) [Value.int .u8 (x_2.res (0+(p-0)))] (Cs.eff (λ(p_1:Nat)=>cond (Nat.ble 0 p_1&&Nat.blt p_1 64) [Value.int .u8 (x_1.res (0+(p_1-0)))] [Value.int .u8 0]) [] p)) []) []) [] k) Value.oneCell')=true)/\GZ/\ ∃y_2:Unit,True/\agN/\(64=64/\ ∀q:Nat,q<64->[Value.int .u8 (iG x q)]=Cs.eff (Cs.eff (Cs.eff (Cs.eff (λ(p:Nat)=>cond (Nat.ble 0 p&&Nat.blt p 64) [Value.int .u8 (x_2.res (0+(p-0)))] (Cs.eff (λ(p_1:Nat)=>cond (Nat.ble 0 p_1&&Nat.blt p_1 64) [Value.int .u8 (x_1.res (0+(p_1-0)))] [Value.int .u8 0]) [] p)) []) []) []) [] q)/\True))
theorem acz(x:Int):U7 x=wpF Tryz.prog tblK tt (λ_ _ _ _=>[]) 200 5 150 (Bq.args x) (hO Bq.k (Bq.os x)) (λv h'=>eX Bq.k x v h' Bq.outs):=by kernel_rfl
theorem U8(b:Bys)(hb:b.ok):agO b:=by
 unfold agO;simp only[aZ,aV,aU,aA,aI,bU,bG,aO,aK,ay,aX,aW];exact⟨⟨0,b⟩,⟨(show U32 0 from ⟨by omega,by omega⟩),hb⟩,⟨rfl,rfl,rfl⟩,⟨rfl,λ_ _=>rfl⟩,rfl⟩
theorem lX(v:Int)(k:Nat):0<=v/256^k%256/\v/256^k%256<256:=⟨Int.emod_nonneg _ (by omega),Int.emod_lt_of_pos _ (by omega)⟩
theorem zG{g:Nat->Int}(h: ∀k,0<=g k/\g k<256)(a w:Nat)(v:Int)(k:Nat):0<=pG g a w v k/\pG g a w v k<256:=by
 unfold pG;split
 ·exact lX _ _
 ·exact h k
theorem P9(v:Int)(hv:0<=v/\v<18446744073709551616):U7 v:=by
 unfold U7;simp only[GZ,amj,ard,agN,amk,arb];simp only[aZ,aV,aU,aA,aI,bU,bG,aO,aK,ay,aX,aW];let b0:Bys:=⟨λk=>if k=0 then 3 else 0,0,9,9⟩
 let x1:uS:=⟨b0,1,8,v,9⟩
 have ok1:x1.ok:=⟨⟨by simp[x1,b0],by simp[x1,b0],λk=>by simp only[x1,b0];split<;>omega⟩,by simp[x1,b0],by simp[x1],by simp[x1],hv.1,hv.2⟩;have r1: ∀k,k<9->x1.res k=acy v k:=λk hk=>by
  simp only[uS.res,pG,acy,x1,b0];by_cases h:k=0
  ·subst h;simp
  ·rw[if_pos (by omega),if_neg h]
 have u1: ∀k,0<=x1.res k/\x1.res k<256:=zG (λk=>ok1.1.2.2 _) _ _ _;let b1:Bys:=⟨λk=>if k<9 then x1.res k else 0,0,64,64⟩
 let x2:uS:=⟨b1,9,4,nI 0 x1.res 9,64⟩
 have c1:nI 0 x1.res 9=nI 0 (acy v) 9:=zF r1;have hU:=ZX 0 x1.res 9
 have ok2:x2.ok:=⟨⟨by simp[x2,b1],by simp[x2,b1],λk=>by
  show 0<=(if k<9 then x1.res k else 0)/\(if k<9 then x1.res k else 0)<256;split
  ·exact u1 k
  ·exact⟨by omega,by omega⟩⟩,by simp[x2,b1],by simp[x2],by simp[x2],hU.1,hU.2⟩
 have w64:IntKind.u64.wrap (nI 0 x1.res 9)=nI 0 x1.res 9:=by
  have:=hU.1;have:=hU.2;unfold IntKind.wrap;simp[IntKind.bits,IntKind.signed];omega
 have nb:x1.b.n=9:=rfl;have nb2:x2.b.n=64:=rfl;have ble9:Nat.ble 9 64=true:=rfl;have arf:Nat.ble 64 64=true:=rfl;refine⟨x1,ok1,⟨⟨rfl,rfl,rfl⟩,rfl,rfl,rfl⟩,⟨rfl,λq hq=> ?_⟩,by omega,by omega,?_⟩
 ·have hq:q<9:=hq
  match q,hq with
  |0,_|1,_|2,_|3,_|4,_|5,_|6,_|7,_|8,_=>rfl
 simp only[nb,ble9,cP,bV,bH,bJ,bK,bW,bC,bM,bn,eY,aH,aN,ah,ak,aB,aF,aC,aG,aK,aU];refine⟨by omega,by omega,by omega,9,x1.res,rfl,by omega,λ_ _=>rfl,u1,x2,ok2,⟨⟨rfl,rfl,rfl⟩,rfl,rfl,w64.symm⟩,⟨rfl,λq hq=> ?_⟩,by omega,by omega,?_⟩
 ·show(if q<9 then x1.res q else 0)=_
  rw[bY,dK]
 simp only[nb2,arf,cP,bV,bH,bJ,bK,bW,bC,bM,bn,eY,aH,aN,ah,ak,aB,aF,aC,aG,aK,aU];refine⟨by omega,by omega,λq hq=> ?_⟩;simp[bg.2 hq];show iG v q=pG (λk=>if 0+k<9 then x1.res (0+k)else 0) 9 4 (nI 0 x1.res 9) q;simp only[iG,pG,c1,aA];by_cases h:q<9
 ·rw[if_pos h,if_neg (by omega),if_pos h,r1 q h]
 ·by_cases h2:q<13
  ·rw[if_neg h,if_pos h2,if_pos (by omega)]
  ·rw[if_neg h,if_neg h2,if_neg (by omega),if_neg h]
theorem U9{P:Program}{f:FuncId}{X:Type}{args:X->List AV}{k m:Nat}{os os':X->List dF}{pre:X->Prop}{ret:X->AV}(hC:cO P f (det X args k os pre ret m os'))(x:X)(hp:pre x):Sp P f (args x) (hO k (os x)) (λv _=>v=ret x):=
 (hC x hp).2.mono λ_ _ hh=>by
  have ha:Kr x (λv _=>v=ret x) (det X args k os pre ret m os').outs:=λ_ _=>rfl
  exact zB ha hh
theorem agQ:cO Tryz.prog 171 acw:=dM dG mixed (.cons (bP apq) .nil) (λ_ _ _ _ _=>[]) 200 5 (λ_=>rfl) (λ_=>rfl) λx hx=>Eq.mp (agP x) (U8 x (aZ.1 hx))
theorem ZY(args:List AV)(h:Heap)(K:AV->Heap->Prop)(hq:ami args h K):Sp Tryz.prog 171 args h K:=by
 unfold ami at hq;split at hq
 ·refine al2 (agQ ⟨λ_=>0,0,0,0⟩ (aZ.2 ⟨by simp,by simp,λ_=>by simp⟩)).2.1 (by omega) hq λe he=> ?_
  obtain⟨n,g,h1,h2,h3,h4,hK⟩:=he;have hs:=U9 agQ ⟨g,0,n,n⟩ (aZ.2 ⟨by simp,h2,h4⟩);refine⟨n,λk=>[.int .u8 (g k)],u32 (nI 0 (λk=>g (0+k)) n),h1,h3,rfl,?_,hs⟩;simpa only[aA]using hK
 ·exact hq.elim
theorem agR:dZ Tryz.prog tblK:= .cons ZY (.cons (auj (bP aps) λ_ _ _ hq=>vC dG mixed dZ.nil _ _ _ _ _ _ _ hq) .nil)
theorem Z4:cO Tryz.prog 150 Bq:=dM dG mixed agR (λ_ _ _ _ _=>[]) 200 5 (λ_=>rfl) (λ_=>rfl) λx hx=>Eq.mp (acz x) (P9 x (aZ.1 hx))
theorem IJ:qM Tryz.prog 102 (Extern.Atomic.loadT (.int .u64)):=⟨Tryz.f102,by kernel_rfl,by kernel_rfl,by kernel_rfl,by kernel_rfl,by kernel_rfl⟩
def Z5:je:=[(102,al7 .u64)]
theorem Va:dZ Tryz.prog Z5:= .Ej (λ_ _ _ hq=>ZU _ _ _ IJ hq) .nil
theorem Vb:qM Tryz.prog 104 Extern.Atomic.storeT:=⟨Tryz.f104,by kernel_rfl,by kernel_rfl,by kernel_rfl,by kernel_rfl,by kernel_rfl⟩
def Qa:je:=[(104,ZT .u64)]
theorem Qb:dZ Tryz.prog Qa:= .Ej (λ_ _ _ hq=>PY _ _ _ Vb hq) .nil
theorem agS:qM Tryz.prog 103 (Extern.Atomic.casT (.int .u64)):=⟨Tryz.f103,by kernel_rfl,by kernel_rfl,by kernel_rfl,by kernel_rfl,by kernel_rfl⟩
def agT:je:=[(103,casX .u64)]
theorem acA:dZ Tryz.prog agT:= .Ej (λ_ _ _ hq=>aq0 _ _ _ agS hq) .nil
theorem agU:qM Tryz.prog 108 (Extern.Atomic.update (Op.intArith .add) .u64 true):=⟨Tryz.f108,by kernel_rfl,by kernel_rfl,by kernel_rfl,by kernel_rfl,by kernel_rfl⟩
def agV:je:=[(108,addX .u64)]
theorem acB:dZ Tryz.prog agV:= .Ej (λ_ _ _ hq=>agz _ _ _ agU hq) .nil
theorem acC:qM Tryz.prog 285 (Extern.Atomic.swapT (.int .u64)):=⟨Tryz.f285,by kernel_rfl,by kernel_rfl,by kernel_rfl,by kernel_rfl,by kernel_rfl⟩
def Z7:je:=[(285,aqY .u64)]
theorem Vd:dZ Tryz.prog Z7:= .Ej (λ_ _ _ hq=>al8 _ _ _ acC hq) .nil
theorem acD:qM Tryz.prog 168 (Extern.Atomic.update (Op.intArith .add) .i64 true):=⟨Tryz.f168,by kernel_rfl,by kernel_rfl,by kernel_rfl,by kernel_rfl,by kernel_rfl⟩
def Z8:je:=[(168,addX .i64)]
theorem Ve:dZ Tryz.prog Z8:= .Ej (λ_ _ _ hq=>agz _ _ _ acD hq) .nil
def Qc:je:=[]
theorem Qd:dZ Tryz.prog Qc:= .nil
theorem acE:qM Tryz.prog 193 (Extern.Atomic.loadT (.int .u32)):=⟨Tryz.f193,by kernel_rfl,by kernel_rfl,by kernel_rfl,by kernel_rfl,by kernel_rfl⟩
def Z9:je:=[(193,al7 .u32)]
theorem Vf:dZ Tryz.prog Z9:= .Ej (λ_ _ _ hq=>ZU _ _ _ acE hq) .nil
theorem Vg:qM Tryz.prog 239 Extern.Atomic.storeT:=⟨Tryz.f239,by kernel_rfl,by kernel_rfl,by kernel_rfl,by kernel_rfl,by kernel_rfl⟩
def Qe:je:=[(239,ZT .u32)]
theorem Qg:dZ Tryz.prog Qe:= .Ej (λ_ _ _ hq=>PY _ _ _ Vg hq) .nil
noncomputable def nU:je:=Z5++Qa++agT++agV++Z7++Z8++Qc++Z9++Qe
theorem dO:dZ Tryz.prog nU:= .append (.append (.append (.append (.append (.append (.append (.append (Va) Qb) acA) acB) Vd) Ve) Qd) Vf) Qg
structure DevM where
 n:Nat
 b:Nat->Int
 s:Nat->Bool
 st:Int
 fl:Int
 fe:Int
 ba:Int
 cu:Int
def small(z:Int):Prop:=0<=z/\z<1099511627776
noncomputable def gB(d:DevM)(p:Nat):List Value:=hide [if p%193=192 then .bool (d.s (p/193))else .int .u8 (d.b p)]
theorem oI(d:DevM)(p:Nat):gB d p=[if p%193=192 then .bool (d.s (p/193))else .int .u8 (d.b p)]:=iK _
namespace DevM
def ok(d:DevM):Prop:=d.n<=258/\(∀p,0<=d.b p/\d.b p<256)/\small d.st/\small d.fl/\small d.fe/\small d.ba/\small d.cu
def dev(i:Nat)(d:DevM):dF:= .cells 201 (.av [.slE i 0 193 d.n d.n,i64 d.st,i64 d.fl,i64 d.fe,i64 d.ba,i64 d.cu])
noncomputable def cells(d:DevM):dF:= .cells 229 (.row 1 (d.n*193) (gB d) [])
noncomputable def os(d:DevM):List dF:=[d.dev 1,d.cells]
def _root_.Go.Proofs.YtenfleoejgjklaaGreat.yx(n:Nat):DevM:=⟨n,λ_=>0,λ_=>false,0,0,0,0,0⟩
def flush(d:DevM)(k:Nat):DevM:={d with b:=λp=>if k*193+128<=p/\p<k*193+192 then d.b (p-128)else d.b p,s:=λq=>if q=k then true else d.s q,fl:=if k<d.n then d.fl+1 else d.fl}
def iL(d:DevM)(k:Nat):DevM:={d with b:=λp=>if p/193<k/\d.s (p/193)=true/\64<=p%193/\p%193<128 then d.b (p+64)else d.b p,s:=λq=>if q<k then false else d.s q}
def fence(d:DevM):DevM:={d.iL d.n with fe:=d.fe+1}
def store(d:DevM)(k a n:Nat)(g:Nat->Int):DevM:={d with b:=λp=>if k*193+a<=p/\p<k*193+a+n then g (p-(k*193+a))else d.b p,st:=d.st+1}
end DevM
structure Qh where
 d:DevM
 k:Nat
noncomputable def Bv:Ctr:=det Qh (λx=>[.ptr 0 0,i64 x.k]) 2 (λx=>x.d.os) (λx=>Hd (x.d.ok/\x.k<258)) (λx=>i64 (if x.k<x.d.n then 0 else 2)) 2 (λx=>(x.d.flush x.k).os)
noncomputable def Bz:Ctr:=det DevM (λ_=>[.ptr 0 0]) 2 (λd=>d.os) (λd=>Hd d.ok) (λ_=>i64 0) 2 (λd=>d.fence.os)
noncomputable def agW(d:DevM):FuncId->qL:=λf=>
 bif Nat.beq f 106 then(λb fr h=>bif Nat.beq b 0 then [{σ:=Nat,fr:=λk=>[(12,i64 k)],ob:=λk=>[(1,some (d.iL k).cells)],inv:=λk=>k<=d.n,meas:=λk=>d.n-k}]else [])else
 λ_ _ _=>[]
structure lD where
 d:DevM
 k:Nat
 a:Nat
 b:Bys
noncomputable def BA:Ctr:=det lD (λx=>[.ptr 0 0,i64 x.k,i64 x.a,x.b.av 2]) 3 (λx=>x.d.os++[x.b.ro]) (λx=>Hd (x.d.ok/\x.k<x.d.n/\x.b.ok/\x.a+x.b.n<=64)) (λ_=>i64 0) 3 (λx=>(x.d.store x.k x.a x.b.n (λq=>x.b.g (x.b.q+q))).os++[x.b.ro])
def acF(a:DevM):Prop:=a.ba=a.ba/\a.cu=a.cu/\True
def Vh(a:DevM):Prop:=a.fe=a.fe/\acF a
def lF(a:Nat):Prop:=a*193=a*193
def nV(a:Nat):Prop:=0=0/\a=a/\a=a
def Qi(a:Bys):Prop:=(rowB a.g a.N=rowB a.g a.N/\true=true)/\True
def Vj(a:DevM):Prop:=a.fl=a.fl/\Vh a
def aml(a:lD):Prop:= ∃y:Unit,True/\(0:Int)=2/\(nV a.d.n/\a.d.st+1=a.d.st/\Vj a.d)/\(lF a.d.n/\ ∀q:Nat,q<a.d.n*193->Cs.eff (gB (a.d.store a.k a.a a.b.n (λ(q_1:Nat)=>a.b.g (a.b.q+q_1)))) [] q=Cs.eff (gB a.d) [] q)/\Qi a.b
def amm(a:DevM):Prop:=(nV a.n/\a.st=a.st/\Vj a)/\True
def aac(a:Bys)(b:Nat):Prop:=(Nat.beq (List.length [Value.int .u8 (a.g (a.q+b))]) 1&&List.all [Value.int .u8 (a.g (a.q+b))] Value.oneCell')=true
def aad:Prop:= ∃y:Unit,True/\(False/\(0:Int)=2/\True)/\False/\False/\True
def agX(n:Nat):Prop:=
 cP (decide ((n:Int)<1)) aad (cP (decide ((n:Int)>(258:Int))) aad ((0<=(n:Int)/\(n:Int)<=(n:Int)/\193*(n:Int)<=281474976710656/\(n:Int)<4611686018427387904)/\ ∃y:Unit,True/\(0=0/\(0:Int)=0/\True)/\(nV n/\(0:Int)=0/\(0:Int)=0/\(0:Int)=0/\(0:Int)=0/\(0:Int)=0/\True)/\(lF n/\ ∀q:Nat,∀j:Nat,q<n->j<193-> ∃v:Value,getElem? (List.replicate 192 (Value.int .u8 0)++[Value.bool false]) j=some v/\Cs.eff (gB (yx n)) [] (q*193+j)=[v])/\True))
def Vk(x:Qh):Prop:=
 cP (decide ((x.k:Int)>=(x.d.n:Int))) (∃y:Unit,True/\ite (x.k<x.d.n) (0:Int) (2:Int)=2/\(nV x.d.n/\x.d.st=x.d.st/\ite (x.k<x.d.n) (x.d.fl+1) x.d.fl=x.d.fl/\Vh x.d)/\(lF x.d.n/\ ∀q:Nat,q<x.d.n*193->Cs.eff (gB (x.d.flush x.k)) [] q=Cs.eff (gB x.d) [] q)/\True) (I64 (64:Int)/\(0<=(x.k:Int)/\(x.k:Int)<(x.d.n:Int))/\(0+x.k)*193+0+64<=x.d.n*193/\(0+x.k)*193+128+64<=x.d.n*193/\(∀k:Nat,k<64->(Nat.beq (List.length (Cs.eff (gB x.d) [] ((0+x.k)*193+0+k))) 1&&List.all (Cs.eff (gB x.d) [] ((0+x.k)*193+0+k)) Value.oneCell')=true)/\(0+x.k)*193+192<x.d.n*193/\I64 (x.d.fl+1)/\ ∃y:Unit,True/\ite (x.k<x.d.n) (0:Int) (2:Int)=0/\(nV x.d.n/\x.d.st=x.d.st/\ite (x.k<x.d.n) (x.d.fl+1) x.d.fl=x.d.fl+1/\Vh x.d)/\(lF x.d.n/\ ∀q:Nat,q<x.d.n*193->Cs.eff (gB (x.d.flush x.k)) [] q=Cs.eff (λ(p:Nat)=>cond (Nat.ble ((0+x.k)*193+128) p&&Nat.blt p ((0+x.k)*193+128+64)) (Cs.eff (gB x.d) [] ((0+x.k)*193+0+(p-((0+x.k)*193+128)))) (Cs.eff (gB x.d) [] p)) [((0+x.k)*193+192,[Value.bool true])] q)/\True)
theorem acG(x:Qh):Vk x=wpF Tryz.prog nU tt (λ_ _ _ _=>[]) 200 5 105 (Bv.args x) (hO Bv.k (Bv.os x)) (λv h'=>eX Bv.k x v h' Bv.outs):=by kernel_rfl
def Vl(d:DevM):Prop:=
 (∃s:Nat,s<=d.n/\True/\((s:Int)=0/\True)/\(lF d.n/\ ∀q:Nat,q<d.n*193->Cs.eff (gB (d.iL s)) [] q=Cs.eff (gB d) [] q)/\amm d)/\(∀s:Nat,s<=d.n->cP (decide ((s:Int)<(d.n:Int))) ((0<=(s:Int)/\(s:Int)<(d.n:Int))/\(0+s)*193+192<d.n*193/\ ∃b:Bool,getElem? (gB (d.iL s) ((0+s)*193+192)) 0=some (Value.bool b)/\cP b ((0+s)*193+128+64<=d.n*193/\(0+s)*193+64+64<=d.n*193/\(∀k:Nat,k<64->(Nat.beq (List.length (Cs.eff (gB (d.iL s)) [] ((0+s)*193+128+k))) 1&&List.all (Cs.eff (gB (d.iL s)) [] ((0+s)*193+128+k)) Value.oneCell')=true)/\(0+s)*193+192<d.n*193/\I64 ((s:Int)+1)/\ ∃s_1:Nat,s_1<=d.n/\d.n-s_1<d.n-s/\((s_1:Int)=(s:Int)+1/\True)/\(lF d.n/\ ∀q:Nat,q<d.n*193->Cs.eff (gB (d.iL s_1)) [] q=Cs.eff (λ(p:Nat)=>cond (Nat.ble ((0+s)*193+64) p&&Nat.blt p ((0+s)*193+64+64)) (Cs.eff (gB (d.iL s)) [] ((0+s)*193+128+(p-((0+s)*193+64)))) (Cs.eff (gB (d.iL s)) [] p)) [((0+s)*193+192,[Value.bool false])] q)/\amm d) (I64 ((s:Int)+1)/\ ∃s_1:Nat,s_1<=d.n/\d.n-s_1<d.n-s/\((s_1:Int)=(s:Int)+1/\True)/\(lF d.n/\ ∀q:Nat,q<d.n*193->Cs.eff (gB (d.iL s_1)) [] q=Cs.eff (gB (d.iL s)) [] q)/\amm d)) (I64 (d.fe+1)/\ ∃y:Unit,True/\(0:Int)=0/\(nV d.n/\d.st=d.st/\d.fl=d.fl/\d.fe+1=d.fe+1/\acF d)/\(lF d.n/\ ∀q:Nat,q<d.n*193->Cs.eff (gB d.fence) [] q=Cs.eff (gB (d.iL s)) [] q)/\True))/\True
theorem acH(d:DevM):Vl d=wpF Tryz.prog nU tt (agW d) 200 5 106 (Bz.args d) (hO Bz.k (Bz.os d)) (λv h'=>eX Bz.k d v h' Bz.outs):=by kernel_rfl
def Kz(x:lD):Prop:=
 cP (decide ((x.k:Int)>=(x.d.n:Int))) (aml x) (I64 (64-(x.b.n:Int))/\cP (decide ((x.a:Int)>64-(x.b.n:Int))) (aml x) ((0<=(x.k:Int)/\(x.k:Int)<(x.d.n:Int))/\0<=(x.a:Int)/\(x.a<=64/\64<=64/\64<=64)/\(0+x.k)*193+0+x.a+(64-x.a)<=x.d.n*193/\cP (Nat.ble x.b.n (64-x.a)) (x.b.q+x.b.n<=x.b.N/\(∀k:Nat,k<x.b.n->aac x.b k)/\I64 (x.d.st+1)/\ ∃y:Unit,True/\(0:Int)=0/\(nV x.d.n/\x.d.st+1=x.d.st+1/\Vj x.d)/\(lF x.d.n/\ ∀q:Nat,q<x.d.n*193->Cs.eff (gB (x.d.store x.k x.a x.b.n (λ(q_1:Nat)=>x.b.g (x.b.q+q_1)))) [] q=Cs.eff (λ(p:Nat)=>cond (Nat.ble ((0+x.k)*193+0+x.a) p&&Nat.blt p ((0+x.k)*193+0+x.a+x.b.n)) [Value.int .u8 (x.b.g (x.b.q+(p-((0+x.k)*193+0+x.a))))] (Cs.eff (gB x.d) [] p)) [] q)/\Qi x.b) (x.b.q+(64-x.a)<=x.b.N/\(∀k:Nat,k<64-x.a->aac x.b k)/\I64 (x.d.st+1)/\ ∃y:Unit,True/\(0:Int)=0/\(nV x.d.n/\x.d.st+1=x.d.st+1/\Vj x.d)/\(lF x.d.n/\ ∀q:Nat,q<x.d.n*193->Cs.eff (gB (x.d.store x.k x.a x.b.n (λ(q_1:Nat)=>x.b.g (x.b.q+q_1)))) [] q=Cs.eff (λ(p:Nat)=>cond (Nat.ble ((0+x.k)*193+0+x.a) p&&Nat.blt p ((0+x.k)*193+0+x.a+(64-x.a))) [Value.int .u8 (x.b.g (x.b.q+(p-((0+x.k)*193+0+x.a))))] (Cs.eff (gB x.d) [] p)) [] q)/\Qi x.b)))
theorem acI(x:lD):Kz x=wpF Tryz.prog nU tt (λ_ _ _ _=>[]) 200 5 62 (BA.args x) (hO BA.k (BA.os x)) (λv h'=>eX BA.k x v h' BA.outs):=by kernel_rfl
theorem agY(d:DevM)(p:Nat):((gB d p).length.beq 1&&(gB d p).all Value.oneCell')=true:=by
 rw[oI];split<;>rfl
theorem Vm(n:Nat)(hn:1<=n/\n<=258):agX n:=by
 unfold agX;simp only[aad,nV,lF];simp only[aZ,aV,aU,aA,aI,bU,bG,aO,aK,ay,aX,aW,bV,bH,bJ,bK,bW,bC,bM,bn,eY,aH,aN,ah,ak,aB,aF,aC,aG];refine bf (λh=>absurd (aS h) (by omega)) λ_=>bf (λh=>absurd (aS h) (by omega)) λ_=>⟨by omega,λq j _ hj=> ?_⟩
 rw[oI,show(q*193+j)%193=j by omega];by_cases h:j=192
 ·subst h;exact⟨_,rfl,rfl⟩
 ·rw[if_neg h]
  refine⟨.int .u8 0,?_,rfl⟩;rw[List.getElem?_append_left (by rw[List.length_replicate];omega),List.getElem?_replicate,if_pos (by omega)]
theorem Qj(x:Qh)(hx:x.d.ok/\x.k<258):Vk x:=by
 obtain⟨⟨h1,h2,h3,h4,h5,h6⟩,hk⟩:=hx;unfold small at*
 unfold Vk;simp only[nV,Vh,lF,acF];simp only[aZ,aV,aU,aA,aI,bU,bG,aO,aK,ay,aX,aW,bV,bH,bJ,bK,bW,bC,bM,bn,eY,aH,aN,ah,ak,aB,aF,aC,aG];refine bf (λh=> ?_) λh=> ?_
 ·have h:=aS h
  refine⟨by rw[if_neg (by omega)],by rw[if_neg (by omega)],λq hq=> ?_⟩;simp only[oI,DevM.flush];grind
 ·have h:x.k<x.d.n:=by have:=aT h;omega
  rw[if_pos h,if_pos h];refine⟨by unfold I64;omega,by omega,by omega,by omega,λk _=>agY _ _,by omega,by unfold I64;omega,rfl,rfl,λq hq=> ?_⟩;simp only[Cs.eff,bY,dA,dD,dK,<-Bool.decide_and,oI,DevM.flush];grind
theorem Qk(d:DevM)(hd:d.ok):Vl d:=by
 obtain⟨h1,h2,h3,h4,h5,h6⟩:=hd;unfold small at*
 unfold Vl;simp only[lF,amm,nV,acF,Vj,Vh];simp only[aZ,aV,aU,aA,aI,bU,bG,aO,aK,ay,aX,aW,bV,bH,bJ,bK,bW,bC,bM,bn,eY,aH,aN,ah,ak,aB,aF,aC,aG];refine⟨⟨0,by omega,by omega,λq hq=> ?_⟩,λs hs=>bf (λhb=> ?_) (λhb=> ?_)⟩
 ·simp only[oI,DevM.iL];grind
 ·have hb:=aS hb
  refine⟨by omega,by omega,d.s s,?_,bf (λhc=> ?_) (λhc=> ?_)⟩
  ·simp only[oI,DevM.iL];grind
  ·refine⟨by omega,by omega,λk _=>agY _ _,by omega,by unfold I64;omega,s+1,by omega,by omega,by omega,λq hq=> ?_⟩
   simp only[Cs.eff,bY,dA,dD,dK,<-Bool.decide_and,oI,DevM.iL];grind (splits:=30)
  ·refine⟨by unfold I64;omega,s+1,by omega,by omega,by omega,λq hq=> ?_⟩
   simp only[oI,DevM.iL];grind
 ·have:s=d.n:=by have:=aT hb;omega
  subst this;exact⟨by unfold I64;omega,λq _=>rfl⟩
theorem BD(x:lD)(hx:x.d.ok/\x.k<x.d.n/\x.b.ok/\x.a+x.b.n<=64):Kz x:=by
 obtain⟨⟨h1,h2,h3,h4,h5,h6⟩,hk,hb,ha⟩:=hx;unfold small at*
 unfold Kz;simp only[aml,aac,nV,Vj,lF,Qi,Vh,acF];simp only[aZ,aV,aU,aA,aI,bU,bG,aO,aK,ay,aX,aW,bV,bH,bJ,bK,bW,bC,bM,bn,eY,aH,aN,ah,ak,aB,aF,aC,aG];obtain⟨b1,b2,b3⟩:=hb;refine bf (λh=>absurd (aS h) (by omega)) λ_=>⟨by unfold I64;omega,bf (λh=>absurd (aS h) (by omega)) λ_=>⟨by omega,by omega,by omega,by omega,bf (λh=> ?_) (λh=> ?_)⟩⟩
 ·refine⟨b1,by unfold I64;omega,λq hq=> ?_⟩
  simp only[Cs.eff,bY,dA,dD,dK,<-Bool.decide_and,oI,DevM.store];grind
 ·have: ¬x.b.n<=64-x.a:=λhh=>by rw[show Nat.ble x.b.n (64-x.a)=true by simpa using hh]at h;cases h
  omega
theorem aae:cO Tryz.prog 105 Bv:=dM dG mixed dO (λ_ _ _ _ _=>[]) 200 5 (λ_=>rfl) (λ_=>rfl) λx hx=>Eq.mp (acG x) (Qj x (aZ.1 hx))
theorem aaf:cO Tryz.prog 106 Bz:=dM dG mixed dO agW 200 5 (λ_=>rfl) (λ_=>rfl) λx hx=>Eq.mp (acH x) (Qk x (aZ.1 hx))
theorem aag:cO Tryz.prog 62 BA:=dM dG mixed dO (λ_ _ _ _ _=>[]) 200 5 (λ_=>rfl) (λ_=>rfl) λx hx=>Eq.mp (acI x) (BD x (aZ.1 hx))
structure eU where
 t:Nat
 now:Int
 dur:Int
 jr:Int
 o:Nat->Int
 N:Nat->Bool
 L:Nat->Bool
def aup(f:Nat->Bool):Cs:= .row 1 258 (λk=>[.bool (f k)]) []
def U64(z:Int):Prop:=0<=z/\z<4611686018427387904
def stA(i:Nat):Nat->AV
 |0=> .lit .nilFunc
 |1=> .fn (.func 57) [.ptr i 0] []
 |2=> .fn (.func 107) [.ptr i 0] []
 |3=> .fn (.func 165) [.ptr i 0] []
 |_=> .fn (.func 212) [.ptr i 0] []
def stV(ph:Nat):AV:=stA 0 ph
namespace eU
def ok(c:eU):Prop:=1<=c.t/\c.t<=4/\U64 c.now/\U64 c.dur/\U64 c.jr/\ ∀k,small (c.o k)
def clkA(c:eU)(i:Nat)(st:AV):dF:= .cells 131 (.cat (.av [u64 c.now,u64 c.dur,u64 c.jr,.slE i 0 1 c.t c.t]) (.cat (aup c.N) (.cat (aup c.L) (.av [st]))))
def clk(c:eU)(ph:Nat):dF:=c.clkA 1 (stV ph)
def owed(c:eU):dF:= .cells 3 (.row 1 c.t (λk=>[.int .i64 (c.o k)]) [])
def os(c:eU)(ph:Nat):List dF:=[c.clk ph,c.owed]
def note(c:eU)(t:Nat)(l:Int):eU:={c with o:=λk=>if k=t/\0<=l/\l<258 then c.o k+1 else c.o k,N:=λq=>c.N q||decide (l=(q:Nat))}
def start(c:eU):eU:={c with now:=c.now+1,jr:=c.now,o:=λ_=>0,N:=λ_=>false,L:=c.N}
def aah(c:eU)(k:Nat):eU:={c with L:=λq=>if q=k then false else c.L q}
def fin(c:eU):eU:={c with dur:=c.jr,jr:=0}
end eU
def Ql(t:Nat)(d:Int):eU:=⟨t,d+1,d,0,λ_=>0,λ_=>false,λ_=>false⟩
structure vW where
 c:eU
 t:Nat
 l:Int
def Et:Ctr:=det eU (λ_=>[.ptr 0 0]) 2 (λc=>c.os 0) (λc=>Hd (c.ok/\c.jr=0)) (λ_=>i64 0) 2 (λc=>c.start.os 1)
structure pW where
 c:eU
 d:DevM
namespace pW
def ok(x:pW):Prop:=x.c.ok/\x.d.ok/\x.c.jr≠0/\1<x.d.n
noncomputable def os(x:pW)(ph:Nat):List dF:=x.c.os ph++[x.d.dev 3,x.d.cells]
end pW
def G5(a:Int):AV:= .tup [i64 a,i64 0]
noncomputable def Eu:Ctr:={X:=pW,args:=λ_=>[.ptr 0 0,.ptr 2 0],k:=4,os:=λx=>x.os 1,pre:=λx=>Hd x.ok,outs:=[
 {Y:=Nat,post:=λx k=>Hd (k<258/\x.c.L k=true/\ ∀j,j<k->x.c.L j=false),ret:=λ_ _=>G5 1,m:=4,os:=λx k=>pW.os ⟨x.c.aah k,x.d.flush k⟩ 1},
 {Y:=Unit,post:=λx _=>Hd (∀j,j<258->x.c.L j=false),ret:=λ_ _=>G5 2,m:=4,os:=λx _=>pW.os ⟨x.c,x.d.fence⟩ 2}]}
def agZ(x:pW):FuncId->qL:=λf=>
 bif Nat.beq f 57 then(λb fr h=>bif Nat.beq b 0 then [{σ:=Nat,fr:=λk=>[(11,i64 k)],ob:=λ_=>[],inv:=λk=>Hd (k<=258/\ ∀j,j<k->x.c.L j=false),meas:=λk=>258-k}]else [])else
 λ_ _ _=>[]
noncomputable def Ew:Ctr:=det pW (λ_=>[.ptr 0 0,.ptr 2 0]) 4 (λx=>x.os 2) (λx=>Hd x.ok) (λ_=>G5 3) 4 (λx=>pW.os ⟨x.c,x.d.store 1 0 64 (iG x.c.jr)⟩ 3)
noncomputable def Ey:Ctr:=det pW (λ_=>[.ptr 0 0,.ptr 2 0]) 4 (λx=>x.os 3) (λx=>Hd x.ok) (λ_=>G5 1) 4 (λx=>pW.os ⟨x.c,x.d.flush 1⟩ 4)
noncomputable def Ez:Ctr:=det pW (λ_=>[.ptr 0 0,.ptr 2 0]) 4 (λx=>x.os 4) (λx=>Hd x.ok) (λ_=>G5 2) 4 (λx=>pW.os ⟨x.c.fin,x.d.fence⟩ 0)
noncomputable def auq:je:=nU++[(105,ctrT Bv),(106,ctrT Bz),(62,ctrT BA),(150,ctrT Bq)]
theorem KA:dZ Tryz.prog auq:= .append dO (.cons (bP aae) (.cons (bP aaf) (.cons (bP aag) (.cons (bP Z4) .nil))))
def lG(a:Nat):Prop:=0=0/\a=a/\a=a
def rE(a:eU):Prop:=a.now=a.now/\a.dur=a.dur/\a.jr=a.jr/\lG a.t/\True
def vY(a:eU):Prop:=a.t=a.t/\ ∀q:Nat,q<a.t->[Value.int .i64 (a.o q)]=[Value.int .i64 (a.o q)]
def BF:Prop:=Value.nilFunc=Value.nilFunc/\True
def vw(a:eU):Prop:=258=258/\ ∀q:Nat,q<258->[Value.bool (a.L q)]=[Value.bool (a.L q)]
def amn(a:vW):Prop:=(rE a.c/\(258=258/\ ∀q:Nat,q<258->[Value.bool (Bool.or (a.c.N q) (decide (a.l=(q:Int))))]=[Value.bool (a.c.N q)])/\vw a.c/\BF)/\(a.c.t=a.c.t/\ ∀q:Nat,q<a.c.t->[Value.int .i64 (ite (q=a.t/\0<=a.l/\a.l<258) (a.c.o q+1) (a.c.o q))]=[Value.int .i64 (a.c.o q)])/\True
def qm(a:eU):Prop:=258=258/\ ∀q:Nat,q<258->[Value.bool (a.N q)]=[Value.bool (a.N q)]
def IK(a:DevM)(b:DevM):Prop:=a.n*193=b.n*193/\ ∀q:Nat,q<a.n*193->Cs.eff (gB a) [] q=Cs.eff (gB b) [] q
def qH(a:Nat)(b:Nat):Prop:=0=0/\a=b/\a=b
def BG(a:DevM)(b:DevM):Prop:=a.ba=b.ba/\a.cu=b.cu/\True
def EC(a:DevM)(b:DevM):Prop:=a.fe=b.fe/\BG a b
def IL(a:DevM)(b:DevM):Prop:=a.fl=b.fl/\EC a b
def IQ(a:DevM)(b:DevM):Prop:=a.st=b.st/\IL a b
def Vo(a:DevM)(b:DevM):Prop:=(qH a.n b.n/\IQ a b)/\IK a b/\True
def IU(a:DevM):Prop:=a.ba=a.ba/\a.cu=a.cu/\True
def ED(a:DevM):Prop:=a.fe=a.fe/\IU a
def nX:Prop:=(0=0/\True)/\True
def aai:Prop:=(@Fn.func (57: @FuncId)= @Fn.func (57: @FuncId)/\nX)/\True
def ag0(a:pW):Prop:=(a.d.n*193=a.d.n*193/\ ∀q:Nat,q<a.d.n*193->Cs.eff (gB a.d) [] q=Cs.eff (gB a.d) [] q)/\(lG a.d.n/\a.d.st=a.d.st/\a.d.fl=a.d.fl/\ED a.d)/\vY a.c/\(rE a.c/\qm a.c/\vw a.c/\aai)/\True
def aaj(a:pW):Prop:=vY a.c/\(lG a.d.n/\a.d.st=a.d.st/\a.d.fl=a.d.fl/\a.d.fe+1=a.d.fe/\IU a.d)/\(a.d.n*193=a.d.n*193/\ ∀q:Nat,q<a.d.n*193->Cs.eff (gB a.d.fence) [] q=Cs.eff (gB a.d) [] q)/\True
def aak(a:pW)(b:DevM):Prop:=vY a.c/\(qH a.d.n b.n/\a.d.st=b.st/\a.d.fl=b.fl/\a.d.fe+1=b.fe+1/\BG a.d b)/\(a.d.n*193=b.n*193/\ ∀q:Nat,q<a.d.n*193->Cs.eff (gB a.d.fence) [] q=Cs.eff (gB b.fence) [] q)/\True
def IV:Prop:=258=258/\ ∀q:Nat,q<258->[Value.bool false]=[Value.bool false]
def aal(a:Nat)(b:eU):Prop:=Hd (a<258/\b.L a=true/\ ∀j:Nat,j<a->b.L j=false)
def aam:Prop:= ∃y:Unit,True/\(False/\(0:Int)=2/\True)/\False/\False/\True
def yA:Prop:=(0:Int)=12/\True
def ag1(p:Nat×Int):Prop:=
 cP (decide ((p.1:Int)<1)) aam (cP (decide ((p.1:Int)>(4:Int))) aam (cP (decide (p.2>(1152921504606846976:Int))) (∃y:Unit,True/\(False/\(0:Int)=10/\True)/\False/\False/\True) ((0<=(p.1:Int)/\(p.1:Int)<=(p.1:Int)/\8*(p.1:Int)<=281474976710656/\(p.1:Int)<4611686018427387904)/\ ∃y:Unit,True/\(0=0/\(0:Int)=0/\True)/\((p.2+1=IntKind.wrap .u64 (p.2+1)/\p.2=p.2/\(0:Int)=0/\(0=0/\p.1=p.1/\p.1=p.1)/\True)/\IV/\IV/\BF)/\(p.1=p.1/\ ∀q:Nat,q<p.1->[Value.int .i64 0]=[Value.int .i64 0])/\True)))
def apt(x:vW):Prop:=
 cP (decide ((x.t:Int)>=(x.c.t:Int))) (∃y:Unit,True/\ite (0<=x.l/\x.l<258) (0:Int) (2:Int)=1/\amn x) (cP (decide (x.l<0)) (∃y:Unit,True/\ite (0<=x.l/\x.l<258) (0:Int) (2:Int)=2/\amn x) (cP (decide (x.l>=(258:Int))) (∃y:Unit,True/\ite (0<=x.l/\x.l<258) (0:Int) (2:Int)=2/\amn x) ((0<=(x.t:Int)/\(x.t:Int)<(x.c.t:Int))/\0+x.t<x.c.t/\I64 (x.c.o (0+x.t)+1)/\(0<=(x.t:Int)/\(x.t:Int)<(x.c.t:Int))/\0+x.t<x.c.t/\(0<=x.l/\x.l<258)/\Int.toNat x.l<258/\ ∃y:Unit,True/\ite (0<=x.l/\x.l<258) (0:Int) (2:Int)=0/\(rE x.c/\(258=258/\ ∀q:Nat,q<258->[Value.bool (Bool.or (x.c.N q) (decide (x.l=(q:Int))))]=Cs.eff (λ(k:Nat)=>[Value.bool (x.c.N k)]) [(Int.toNat x.l,[Value.bool true])] q)/\vw x.c/\BF)/\(x.c.t=x.c.t/\ ∀q:Nat,q<x.c.t->[Value.int .i64 (ite (q=x.t/\0<=x.l/\x.l<258) (x.c.o q+1) (x.c.o q))]=Cs.eff (λ(k:Nat)=>[Value.int .i64 (x.c.o k)]) [(0+x.t,[Value.int .i64 (x.c.o (0+x.t)+1)])] q)/\True)))
def Vp(c:eU):Prop:=
 cP (decide (c.jr=0)) ((∀k:Nat,k<258->(Nat.beq (List.length [Value.bool (c.N k)]) 1&&List.all [Value.bool (c.N k)] Value.oneCell')=true)/\(∀k:Nat,k<258->(Nat.beq (List.length [Value.bool false]) 1&&List.all [Value.bool false] Value.oneCell')=true)/\0+c.t<=c.t/\ ∃y:Unit,True/\(0:Int)=0/\((c.now+1=IntKind.wrap .u64 (c.now+1)/\c.dur=c.dur/\c.now=c.now/\lG c.t/\True)/\IV/\qm c/\(@Fn.func (57: @FuncId)= @Fn.func 57/\nX)/\True)/\(c.t=c.t/\ ∀q:Nat,q<c.t->[Value.int .i64 0]=Cs.eff (λ(p:Nat)=>cond (Nat.ble 0 p&&Nat.blt p (0+c.t)) [Value.int .i64 0] [Value.int .i64 (c.o p)]) [] q)/\True) (∃y:Unit,True/\(0:Int)=7/\((c.now+1=c.now/\c.dur=c.dur/\c.now=c.jr/\lG c.t/\True)/\(258=258/\ ∀q:Nat,q<258->[Value.bool false]=[Value.bool (c.N q)])/\(258=258/\ ∀q:Nat,q<258->[Value.bool (c.N q)]=[Value.bool (c.L q)])/\False/\True)/\(c.t=c.t/\ ∀q:Nat,q<c.t->[Value.int .i64 0]=[Value.int .i64 (c.o q)])/\True)
theorem acJ(c:eU):Vp c=wpF Tryz.prog nU tt (λ_ _ _ _=>[]) 200 5 23 (Et.args c) (hO Et.k (Et.os c)) (λv h'=>eX Et.k c v h' Et.outs):=by kernel_rfl
def Vq(x:pW):Prop:=
 cP (BEq.beq x.c.jr (0:Int)) ((∃y:Nat,aal y x.c/\((1:Int)=0/\yA)/\(rE x.c/\qm x.c/\(258=258/\ ∀q:Nat,q<258->[Value.bool (ite (q=y) false (x.c.L q))]=[Value.bool (x.c.L q)])/\aai)/\vY x.c/\(lG x.d.n/\x.d.st=x.d.st/\ite (y<x.d.n) (x.d.fl+1) x.d.fl=x.d.fl/\ED x.d)/\(x.d.n*193=x.d.n*193/\ ∀q:Nat,q<x.d.n*193->Cs.eff (gB (x.d.flush y)) [] q=Cs.eff (gB x.d) [] q)/\True)\/ ∃y:Unit,Hd (∀j:Nat,j<258->x.c.L j=false)/\((2:Int)=0/\yA)/\(rE x.c/\qm x.c/\vw x.c/\(@Fn.func (107: @FuncId)= @Fn.func (57: @FuncId)/\nX)/\True)/\aaj x) ((∃s:Nat,Hd (s<=258/\ ∀j:Nat,j<s->x.c.L j=false)/\True/\((s:Int)=0/\True)/\ag0 x)/\(∀s:Nat,Hd (s<=258/\ ∀j:Nat,j<s->x.c.L j=false)->cP (decide ((s:Int)<258)) ((0<=(s:Int)/\(s:Int)<258)/\s<258/\ ∃b:Bool,some (Value.bool (x.c.L s))=some (Value.bool b)/\cP b ((0<=(s:Int)/\(s:Int)<258)/\s<258/\ ∃x_1:Qh,Hd (x_1.d.ok/\x_1.k<258)/\(0=0/\(x_1.k:Int)=(s:Int)/\True)/\Vo x_1.d x.d/\ ∀y:Unit,True->(∃y_1:Nat,aal y_1 x.c/\((1:Int)=1/\(0:Int)=0/\True)/\(rE x.c/\qm x.c/\(258=258/\ ∀q:Nat,q<258->[Value.bool (ite (q=y_1) false (x.c.L q))]=Cs.eff (λ(k:Nat)=>[Value.bool (x.c.L k)]) [(s,[Value.bool false])] q)/\aai)/\vY x.c/\(qH x.d.n x_1.d.n/\x.d.st=x_1.d.st/\ite (y_1<x.d.n) (x.d.fl+1) x.d.fl=ite (x_1.k<x_1.d.n) (x_1.d.fl+1) x_1.d.fl/\EC x.d x_1.d)/\(x.d.n*193=x_1.d.n*193/\ ∀q:Nat,q<x.d.n*193->Cs.eff (gB (x.d.flush y_1)) [] q=Cs.eff (gB (x_1.d.flush x_1.k)) [] q)/\True)\/ ∃y_1:Unit,Hd (∀j:Nat,j<258->x.c.L j=false)/\
 ((2:Int)=1/\(0:Int)=0/\True)/\(rE x.c/\qm x.c/\(258=258/\ ∀q:Nat,q<258->[Value.bool (x.c.L q)]=Cs.eff (λ(k:Nat)=>[Value.bool (x.c.L k)]) [(s,[Value.bool false])] q)/\(@Fn.func (107: @FuncId)= @Fn.func (57: @FuncId)/\nX)/\True)/\vY x.c/\(qH x.d.n x_1.d.n/\x.d.st=x_1.d.st/\x.d.fl=ite (x_1.k<x_1.d.n) (x_1.d.fl+1) x_1.d.fl/\x.d.fe+1=x_1.d.fe/\BG x.d x_1.d)/\(x.d.n*193=x_1.d.n*193/\ ∀q:Nat,q<x.d.n*193->Cs.eff (gB x.d.fence) [] q=Cs.eff (gB (x_1.d.flush x_1.k)) [] q)/\True) (I64 ((s:Int)+1)/\ ∃s_1:Nat,Hd (s_1<=258/\ ∀j:Nat,j<s_1->x.c.L j=false)/\258-s_1<258-s/\((s_1:Int)=(s:Int)+1/\True)/\ag0 x)) (∃x_1:DevM,Hd x_1.ok/\(0=0/\True)/\Vo x_1 x.d/\ ∀y:Unit,True->(∃y_1:Nat,aal y_1 x.c/\((1:Int)=2/\(0:Int)=0/\True)/\(rE x.c/\qm x.c/\(258=258/\ ∀q:Nat,q<258->[Value.bool (ite (q=y_1) false (x.c.L q))]=[Value.bool (x.c.L q)])/\(@Fn.func (57: @FuncId)= @Fn.func 107/\nX)/\True)/\vY x.c/\(qH x.d.n x_1.n/\x.d.st=x_1.st/\ite (y_1<x.d.n) (x.d.fl+1) x.d.fl=x_1.fl/\x.d.fe=x_1.fe+1/\BG x.d x_1)/\(x.d.n*193=x_1.n*193/\ ∀q:Nat,q<x.d.n*193->Cs.eff (gB (x.d.flush y_1)) [] q=Cs.eff (gB x_1.fence) [] q)/\True)\/ ∃y_1:Unit,Hd (∀j:Nat,j<258->x.c.L j=false)/\((2:Int)=2/\(0:Int)=0/\True)/\(rE x.c/\qm x.c/\vw x.c/\(@Fn.func (107: @FuncId)= @Fn.func 107/\nX)/\True)/\aak x x_1))/\True)
theorem acK(x:pW):Vq x=wpF Tryz.prog auq tt (agZ x) 200 5 24 (Eu.args x) (hO Eu.k (Eu.os x)) (λv h'=>eX Eu.k x v h' Eu.outs):=by kernel_rfl
def Vr(x:pW):Prop:=
 cP (BEq.beq x.c.jr (0:Int)) (∃y:Unit,True/\((3:Int)=0/\yA)/\(rE x.c/\qm x.c/\vw x.c/\(@Fn.func (165: @FuncId)= @Fn.func (107: @FuncId)/\nX)/\True)/\vY x.c/\(lG x.d.n/\x.d.st+1=x.d.st/\x.d.fl=x.d.fl/\ED x.d)/\(x.d.n*193=x.d.n*193/\ ∀q:Nat,q<x.d.n*193->Cs.eff (gB (x.d.store 1 0 64 (iG x.c.jr))) [] q=Cs.eff (gB x.d) [] q)/\True) (∃x_1:Int,Hd (0<=x_1/\x_1<18446744073709551616)/\(x_1=x.c.jr/\True)/\True/\ ∀y:Unit,True-> ∃x_2:lD,Hd (x_2.d.ok/\x_2.k<x_2.d.n/\x_2.b.ok/\x_2.a+x_2.b.n<=64)/\(0=0/\(x_2.k:Int)=1/\(x_2.a:Int)=0/\(x_2.b.q=0/\x_2.b.n=64)/\True)/\((qH x_2.d.n x.d.n/\IQ x_2.d x.d)/\IK x_2.d x.d/\(x_2.b.N=64/\ ∀q:Nat,q<x_2.b.N->[Value.int .u8 (x_2.b.g q)]=[Value.int .u8 (iG x_1 q)])/\True)/\ ∀y_1:Unit,True-> ∃y_2:Unit,True/\((3:Int)=3/\(0:Int)=0/\True)/\(rE x.c/\qm x.c/\vw x.c/\(@Fn.func (165: @FuncId)= @Fn.func 165/\nX)/\True)/\vY x.c/\(qH x.d.n x_2.d.n/\x.d.st+1=x_2.d.st+1/\IL x.d x_2.d)/\(x.d.n*193=x_2.d.n*193/\ ∀q:Nat,q<x.d.n*193->Cs.eff (gB (x.d.store 1 0 64 (iG x.c.jr))) [] q=Cs.eff (gB (x_2.d.store x_2.k x_2.a x_2.b.n (λ(q_1:Nat)=>x_2.b.g (x_2.b.q+q_1)))) [] q)/\True)
theorem acL(x:pW):Vr x=wpF Tryz.prog auq tt (λ_ _ _ _=>[]) 200 5 24 (Ew.args x) (hO Ew.k (Ew.os x)) (λv h'=>eX Ew.k x v h' Ew.outs):=by kernel_rfl
def Vs(x:pW):Prop:=
 cP (BEq.beq x.c.jr (0:Int)) (∃y:Unit,True/\((1:Int)=0/\yA)/\(rE x.c/\qm x.c/\vw x.c/\(@Fn.func (212: @FuncId)= @Fn.func (165: @FuncId)/\nX)/\True)/\vY x.c/\(lG x.d.n/\x.d.st=x.d.st/\ite (1<x.d.n) (x.d.fl+1) x.d.fl=x.d.fl/\ED x.d)/\(x.d.n*193=x.d.n*193/\ ∀q:Nat,q<x.d.n*193->Cs.eff (gB (x.d.flush 1)) [] q=Cs.eff (gB x.d) [] q)/\True) (∃x_1:Qh,Hd (x_1.d.ok/\x_1.k<258)/\(0=0/\(x_1.k:Int)=1/\True)/\Vo x_1.d x.d/\ ∀y:Unit,True-> ∃y_1:Unit,True/\((1:Int)=1/\(0:Int)=0/\True)/\(rE x.c/\qm x.c/\vw x.c/\(@Fn.func (212: @FuncId)= @Fn.func 212/\nX)/\True)/\vY x.c/\(qH x.d.n x_1.d.n/\x.d.st=x_1.d.st/\ite (1<x.d.n) (x.d.fl+1) x.d.fl=ite (x_1.k<x_1.d.n) (x_1.d.fl+1) x_1.d.fl/\EC x.d x_1.d)/\(x.d.n*193=x_1.d.n*193/\ ∀q:Nat,q<x.d.n*193->Cs.eff (gB (x.d.flush 1)) [] q=Cs.eff (gB (x_1.d.flush x_1.k)) [] q)/\True)
theorem acM(x:pW):Vs x=wpF Tryz.prog auq tt (λ_ _ _ _=>[]) 200 5 24 (Ey.args x) (hO Ey.k (Ey.os x)) (λv h'=>eX Ey.k x v h' Ey.outs):=by kernel_rfl
def Vt(x:pW):Prop:=
 cP (BEq.beq x.c.jr (0:Int)) (∃y:Unit,True/\((2:Int)=0/\yA)/\((x.c.now=x.c.now/\x.c.jr=x.c.dur/\0=x.c.jr/\lG x.c.t/\True)/\qm x.c/\vw x.c/\False/\True)/\aaj x) (∃x_1:DevM,Hd x_1.ok/\(0=0/\True)/\Vo x_1 x.d/\ ∀y:Unit,True->True/\True/\ ∃y_1:Unit,True/\((2:Int)=2/\(0:Int)=0/\True)/\((x.c.now=x.c.now/\x.c.jr=x.c.jr/\(0:Int)=0/\lG x.c.t/\True)/\qm x.c/\vw x.c/\BF)/\aak x x_1)
theorem acN(x:pW):Vt x=wpF Tryz.prog auq tt (λ_ _ _ _=>[]) 200 5 24 (Ez.args x) (hO Ez.k (Ez.os x)) (λv h'=>eX Ez.k x v h' Ez.outs):=by kernel_rfl
theorem Vu(p:Nat×Int)(hp:1<=p.1/\p.1<=4/\0<=p.2/\p.2<=1152921504606846976):ag1 p:=by
 unfold ag1;simp only[aam,IV,BF];simp only[aZ,aV,aU,aA,aI,bU,bG,aO,aK,ay,aX,aW,bV,bH,bJ,bK,bW,bC,bM,bn,eY,aH,aN,ah,ak,aB,aF,aC,aG];refine bf (λh=>absurd (aS h) (by omega)) λ_=>bf (λh=>absurd (aS h) (by omega)) λ_=>bf (λh=>absurd (aS h) (by omega)) λ_=>⟨by omega,?_⟩
 unfold IntKind.wrap;simp[IntKind.bits,IntKind.signed];omega
theorem Vw(x:vW)(hx:x.c.ok/\x.t<x.c.t):apt x:=by
 obtain⟨⟨h1,h2,h3,h4,h5,h6⟩,ht⟩:=hx;have hs:=h6 x.t;unfold small at hs;unfold apt;simp only[amn,rE,vw,BF,lG];simp only[aZ,aV,aU,aA,aI,bU,bG,aO,aK,ay,aX,aW,bV,bH,bJ,bK,bW,bC,bM,bn,eY,aH,aN,ah,ak,aB,aF,aC,aG];refine bf (λh=>absurd (aS h) (by omega)) λ_=>bf (λh=> ?_) λh=>bf (λh2=> ?_) λh2=> ?_
 ·have h:=aS h
  exact⟨by rw[if_neg (by omega)],λq hq=>by simp;intro;omega,λq hq=>by rw[if_neg (by omega)]⟩
 ·have h:=aS h2
  exact⟨by rw[if_neg (by omega)],λq hq=>by simp;intro;omega,λq hq=>by rw[if_neg (by omega)]⟩
 ·have h:=aT h
  have h2:=aT h2;have hl:0<=x.l/\x.l<258:=by omega
  refine⟨by omega,by omega,by unfold I64;omega,by omega,by omega,hl,by omega,by rw[if_pos hl],λq hq=> ?_,λq hq=> ?_⟩
  ·simp only[Cs.eff,bY,dA,dD,dK,<-Bool.decide_and]
   by_cases e:q=x.l.toNat
   ·rw[if_pos e,show decide (x.l=(q:Int))=true by simp;omega,Bool.or_true]
   ·rw[if_neg e,show decide (x.l=(q:Int))=false by simp;omega,Bool.or_false]
  ·simp only[Cs.eff,bY,dA,dD,dK,<-Bool.decide_and]
   by_cases e:q=x.t
   ·subst e;rw[if_pos ⟨rfl,hl⟩,if_pos rfl]
   ·rw[if_neg (by omega),if_neg e]
theorem Qm(c:eU)(hx:c.ok/\c.jr=0):Vp c:=by
 obtain⟨⟨h1,h2,h3,h4,h5,h6⟩,hc⟩:=hx;unfold U64 at*
 unfold Vp;simp only[lG,IV,qm,nX];simp only[aZ,aV,aU,aA,aI,bU,bG,aO,aK,ay,aX,aW,bV,bH,bJ,bK,bW,bC,bM,bn,eY,aH,aN,ah,ak,aB,aF,aC,aG];refine bf (λh=>⟨by omega,?_,λq hq=>by rw[bg.2 hq];rfl⟩) λh=>absurd hc (aT h)
 unfold IntKind.wrap;simp[IntKind.bits,IntKind.signed];omega
set_option maxRecDepth 8000 in
theorem Qn(x:pW)(hx:x.ok):Vq x:=by
 obtain⟨hc,hd,hz,hn⟩:=hx;unfold Vq;simp only[aal,yA,rE,qm,aai,vY,lG,ED,vw,nX,aaj,ag0,Vo,qH,EC,BG,aak,IQ,IK,IL,IU];simp only[aZ,aV,aU,aA,aI,bU,bG,aO,aK,ay,aX,aW,bV,bH,bJ,bK,bW,bC,bM,bn,eY,aH,aN,ah,ak,aB,aF,aC,aG];refine bf (λh=>absurd (by simpa using h) hz) λ_=>⟨⟨0,⟨Nat.zero_le _,λj hj=>absurd hj (Nat.not_lt_zero j)⟩,Int.natCast_zero⟩,λs hs=>bf (λh=> ?_) λh=> ?_⟩
 ·have h:=aS h
  refine⟨by omega,by omega,bf (λhl=> ?_) λhl=> ?_⟩
  ·refine⟨by omega,by omega,⟨x.d,s⟩,⟨hd,(show s<258 by omega)⟩,rfl,⟨⟨rfl,rfl,rfl,rfl,rfl,rfl⟩,rfl,λ_ _=>rfl⟩,.inl ⟨s,⟨by omega,hl,hs.2⟩,λq hq=> ?_,⟨rfl,rfl,rfl,rfl,rfl,rfl⟩,rfl,λ_ _=>rfl⟩⟩
   simp only[Cs.eff,bY,dA,dD,dK,<-Bool.decide_and];by_cases e:q=s
   ·rw[if_pos e,if_pos e]
   ·rw[if_neg e,if_neg e]
  ·refine⟨by unfold I64;omega,s+1,⟨by omega,λj hj=> ?_⟩,by omega,by omega⟩
   by_cases e:j=s
   ·subst e;exact hl
   ·exact hs.2 j (by omega)
 ·have h:=aT h
  have:s=258:=by omega
  subst this;exact⟨x.d,hd,⟨⟨rfl,rfl,rfl,rfl,rfl,rfl⟩,rfl,λ_ _=>rfl⟩,.inr ⟨hs.2,⟨rfl,rfl,rfl,rfl,rfl,rfl⟩,rfl,λ_ _=>rfl⟩⟩
theorem yB(v:Int)(k:Nat):0<=iG v k/\iG v k<256:=by
 unfold iG acy;split
 ·split
  ·omega
  ·exact lX _ _
 ·split
  ·exact lX _ _
  ·omega
theorem Qo(x:pW)(hx:x.ok):Vr x:=by
 obtain⟨hc,hd,hz,hn⟩:=hx;have hU:=hc.2.2.2.2.1;unfold U64 at hU;unfold Vr;simp only[yA,rE,qm,vw,nX,vY,lG,ED,qH,IQ,IK,IL,EC,BG,IU];simp only[aZ,aV,aU,aA,aI,bU,bG,aO,aK,ay,aX,aW,bV,bH,bJ,bK,bW,bC,bM,bn,eY,aH,aN,ah,ak,aB,aF,aC,aG];refine bf (λh=>absurd (by simpa using h) hz) λ_=>⟨x.c.jr,by omega,rfl,⟨x.d,1,0,⟨iG x.c.jr,0,64,64⟩⟩,⟨hd,hn,⟨by simp,by simp,yB _⟩,by simp⟩,⟨rfl,rfl,rfl,rfl⟩,⟨⟨rfl,rfl,rfl,rfl,rfl,rfl⟩,⟨rfl,λ_ _=>rfl⟩,rfl,λ_ _=>rfl⟩,⟨rfl,rfl,rfl,rfl,rfl,rfl⟩,rfl,λq _=> ?_⟩
 simp only[aA]
theorem Qp(x:pW)(hx:x.ok):Vs x:=by
 obtain⟨hc,hd,hz,hn⟩:=hx;unfold Vs;simp only[yA,rE,qm,vw,nX,vY,lG,ED,Vo,qH,EC,BG,IQ,IK,IL,IU];simp only[aZ,aV,aU,aA,aI,bU,bG,aO,aK,ay,aX,aW,bV,bH,bJ,bK,bW,bC,bM,bn,eY,aH,aN,ah,ak,aB,aF,aC,aG];exact bf (λh=>absurd (by simpa using h) hz) λ_=>⟨⟨x.d,1⟩,⟨hd,(show 1<258 by omega)⟩,rfl,⟨⟨rfl,rfl,rfl,rfl,rfl,rfl⟩,rfl,λ_ _=>rfl⟩,⟨rfl,rfl,rfl,rfl,rfl,rfl⟩,rfl,λ_ _=>rfl⟩
theorem Qq(x:pW)(hx:x.ok):Vt x:=by
 obtain⟨hc,hd,hz,hn⟩:=hx;unfold Vt;simp only[yA,lG,qm,vw,aaj,Vo,BF,aak,vY,qH,BG,IQ,IK,IL,EC,IU];simp only[aZ,aV,aU,aA,aI,bU,bG,aO,aK,ay,aX,aW,bV,bH,bJ,bK,bW,bC,bM,bn,eY,aH,aN,ah,ak,aB,aF,aC,aG];exact bf (λh=>absurd (by simpa using h) hz) λ_=>⟨x.d,hd,⟨⟨rfl,rfl,rfl,rfl,rfl,rfl⟩,rfl,λ_ _=>rfl⟩,⟨rfl,rfl,rfl,rfl,rfl,rfl⟩,rfl,λ_ _=>rfl⟩
theorem amo:cO Tryz.prog 23 Et:=dM dG mixed dO (λ_ _ _ _ _=>[]) 200 5 (λ_=>rfl) (λ_=>rfl) λx hx=>Eq.mp (acJ x) (Qm x (aZ.1 hx))
theorem amq:cO Tryz.prog 24 Eu:=iP dG mixed KA agZ 200 5 (λ_=>rfl) (λ_=>⟨λ_=>rfl,λ_=>rfl,trivial⟩) λx hx=>Eq.mp (acK x) (Qn x (aZ.1 hx))
theorem amr:cO Tryz.prog 24 Ew:=dM dG mixed KA (λ_ _ _ _ _=>[]) 200 5 (λ_=>rfl) (λ_=>rfl) λx hx=>Eq.mp (acL x) (Qo x (aZ.1 hx))
theorem ams:cO Tryz.prog 24 Ey:=dM dG mixed KA (λ_ _ _ _ _=>[]) 200 5 (λ_=>rfl) (λ_=>rfl) λx hx=>Eq.mp (acM x) (Qp x (aZ.1 hx))
theorem amu:cO Tryz.prog 24 Ez:=dM dG mixed KA (λ_ _ _ _ _=>[]) 200 5 (λ_=>rfl) (λ_=>rfl) λx hx=>Eq.mp (acN x) (Qq x (aZ.1 hx))
theorem kQ{x y:Prop}:cP true x y=x:=rfl
theorem iE{x y:Prop}:cP false x y=y:=rfl
def noA{X:Type}:X->FuncId->qL:=λ_ _ _ _ _=>[]
def boo(b:Bool):AV:= .lit (.bool b)
def gQ:AV:= .lit (.slice none 0 0)
def oJ(X:Type)(args:X->List AV)(k:Nat)(l:X->List PO)(pre:X->Prop)(ret:X->AV)(m:Nat)(l':X->List PO):iW:=
 {X:=X,args:=args,k:=k,l:=l,pre:=pre,outs:=[{Y:=Unit,post:=λ_ _=>True,ret:=λx _=>ret x,m:=m,l:=λx _=>l' x}]}
def spn(c:Int):Int:=if c=0 then 1 else if c=1 then 2 else if c=2 then 4 else if c=3 then 8 else 0
def cpc(c:Int):Int:=if c=0 then 28 else if c=1 then 91 else if c=2 then 217 else if c=3 then 469 else 0
def ned(n:Int):Int:=if n<0 then-1 else if n<=28 then 0 else if n<=91 then 1 else if n<=217 then 2 else if n<=469 then 3 else-1
def zH:Ctr:=det Int (λc=>[i64 c]) 0 (λ_=>[]) (λ_=>True) (λc=>i64 (spn c)) 0 (λ_=>[])
def apu:Ctr:=det Int (λc=>[i64 c]) 0 (λ_=>[]) (λ_=>True) (λc=>i64 (cpc c)) 0 (λ_=>[])
def Vx:Ctr:=det Int (λc=>[i64 c]) 0 (λ_=>[]) (λ_=>True) (λc=>i64 (ned c)) 0 (λ_=>[])
def slb(l:Int):Int:=if l<2\/258<=l then-1 else(l-2)/8
def Qr:Ctr:=det Int (λk=>[i64 k]) 0 (λ_=>[]) (λ_=>True) (λk=>i64 (if k<0\/32<=k then-1 else 2+k*8)) 0 (λ_=>[])
def vZ:Ctr:=det Int (λk=>[i64 k]) 0 (λ_=>[]) (λ_=>True) (λk=>i64 (slb k)) 0 (λ_=>[])
structure wo where
 k:Nat
 c:Int
def ag2(x:wo)(n:Nat):Cs:= .row 1 n (λi=>[.int .i64 (2+x.k*8+i*spn x.c)]) []
def wu:Ctr:={X:=wo,args:=λx=>[i64 x.k,i64 x.c],k:=0,os:=λ_=>[],pre:=λx=>Hd (x.k<32),outs:=[
 {Y:=Unit,post:=λx _=>Hd (spn x.c=0),ret:=λ_ _=>gQ,m:=0,os:=λ_ _=>[]},
 {Y:=Unit,post:=λx _=>Hd (spn x.c≠0),ret:=λx _=> .slW 0 0 1 (8/spn x.c).toNat,m:=1,os:=λx _=>[.room 3 (ag2 x (8/spn x.c).toNat)]}]}
def aan(x:wo):FuncId->qL:=λf=>bif Nat.beq f 73 then(λb _ _=>bif Nat.beq b 0 then [
 {σ:=Unit,fr:=λ_=>[(21,i64 0),(7,gQ)],ob:=λ_=>[],inv:=λ_=>Hd (spn x.c≠0),meas:=λ_=>9,test:=λfr _=>(match SE.look fr 7 with| .lit _=>true|_=>false)},
 {σ:=Nat,fr:=λi=>[(21,i64 i),(7,.slW 0 0 1 i)],ob:=λi=>[(0,some (.room 3 (ag2 x i)))],inv:=λi=>Hd (spn x.c≠0/\1<=i/\i<=(8/spn x.c).toNat),meas:=λi=>8-i,nx:=1,test:=λfr _=>(match SE.look fr 7 with| .lit _=>false|_=>true)}]else [])elseλ_ _ _=>[]
structure ag3 where
 g:Nat->Int
 n:Nat
 v:Int
def ag3.os(x:ag3):List dF:=[.room 3 (.row 1 x.n (λi=>[.int .i64 (x.g i)]) [])]
def arh:Ctr:={X:=ag3,args:=λx=>[.slW 0 0 1 x.n,i64 x.v],k:=1,os:=ag3.os,pre:=λx=>Hd (x.n<1000),outs:=[
 {Y:=Nat,post:=λx i=>Hd (i<x.n/\x.g i=x.v/\ ∀j,j<i->x.g j≠x.v),ret:=λ_ i=>i64 i,m:=1,os:=λx _=>x.os},
 {Y:=Unit,post:=λx _=>Hd (∀j,j<x.n->x.g j≠x.v),ret:=λ_ _=>i64 (-1),m:=1,os:=λx _=>x.os}]}
def aur(x:ag3):FuncId->qL:=λf=>bif Nat.beq f 173 then(λb _ _=>bif Nat.beq b 0 then [
 {σ:=Nat,fr:=λi=>[(8,i64 i)],ob:=λ_=>[],inv:=λi=>Hd (i<=x.n/\ ∀j,j<i->x.g j≠x.v),meas:=λi=>x.n-i}]else [])elseλ_ _ _=>[]
def amv:je:=[(113,ctrT zH)]
def tblS2:je:=[(115,ctrT apu)]
def tblS3:je:=[(113,ctrT zH),(131,ctrT Qr)]
def Vy(a:ag3):Prop:=(a.n=a.n/\ ∀q:Nat,q<a.n->[Value.int .i64 (a.g q)]=[Value.int .i64 (a.g q)])/\True
def ari:Prop:=Value.slice none 0 0=Value.slice none 0 0/\True
def amw(a:Int):Prop:=(∃y_2:Unit,Hd (spn a=0)/\ari)\/ ∃y_2:Unit,Hd (spn a≠(0:Int))/\False/\False/\True
def amx(a:Int)(b:Nat):Prop:=Hd (spn a≠(0:Int)/\1<=b/\b<=Int.toNat ((8:Int)/spn a))
def arj(a:Int):Prop:= ∃y:Unit,True/\ite (a<0\/32<=a) (-(1:Int)) (2+a*8)=(-(1:Int))/\True
def ag4(c:Int):Prop:=
 cP (decide (c<0)) (∃y:Unit,True/\spn c=0/\True) (cP (decide (c>(3:Int))) (∃y:Unit,True/\spn c=0/\True) (0<=c/\ ∃y:Unit,True/\spn c=IntKind.wrap .i64 (1* @HPow.hPow Int Nat Int (@instHPow Int Nat (@instPowNat Int @Int.instNatPow)) (2:Int) (@Min.min Nat @instMinNat (Int.toNat c) 64))/\True))
theorem ag5(c:Int):ag4 c=wpF Tryz.prog [] tt (noA c) 200 5 113 (zH.args c) (hO zH.k (zH.os c)) (λv h'=>eX zH.k c v h' zH.outs):=by kernel_rfl
def ark(c:Int):Prop:=
 ∃x:Int,True/\(x=c/\True)/\True/\ ∀y:Unit,True->cP (decide (spn x>(0:Int))) (I64 (spn x-1)/\I64 ((spn x-1)*63)/\I64 (28+(spn x-1)*63)/\ ∃y_1:Unit,True/\cpc c=28+(spn x-1)*63/\True) (∃y_1:Unit,True/\cpc c=0/\True)
theorem amy(c:Int):ark c=wpF Tryz.prog amv tt (noA c) 200 5 115 (apu.args c) (hO apu.k (apu.os c)) (λv h'=>eX apu.k c v h' apu.outs):=by kernel_rfl
def ag6(c:Int):Prop:=
 cP (decide (c<0)) (∃y:Unit,True/\ned c=(-(1:Int))/\True) (∃x:Int,True/\(x=0/\True)/\True/\ ∀y:Unit,True->cP (decide (cpc x>=c)) (∃y_1:Unit,True/\ned c=0/\True) (I64 (1:Int)/\ ∃x_1:Int,True/\(x_1=1/\True)/\True/\ ∀y_1:Unit,True->cP (decide (cpc x_1>=c)) (∃y_2:Unit,True/\ned c=1/\True) (I64 (2:Int)/\ ∃x_2:Int,True/\(x_2=2/\True)/\True/\ ∀y_2:Unit,True->cP (decide (cpc x_2>=c)) (∃y_3:Unit,True/\ned c=2/\True) (I64 (3:Int)/\ ∃x_3:Int,True/\(x_3=3/\True)/\True/\ ∀y_3:Unit,True->cP (decide (cpc x_3>=c)) (∃y_4:Unit,True/\ned c=3/\True) (I64 (4:Int)/\ ∃y_4:Unit,True/\ned c=(-(1:Int))/\True)))))
theorem ag7(c:Int):ag6 c=wpF Tryz.prog tblS2 tt (noA c) 200 5 201 (Vx.args c) (hO Vx.k (Vx.os c)) (λv h'=>eX Vx.k c v h' Vx.outs):=by kernel_rfl
def ag8(c:Int):Prop:=
 cP (decide (c<0)) (arj c) (cP (decide (c>=(32:Int))) (arj c) (I64 (c*8)/\I64 (2+c*8)/\ ∃y:Unit,True/\ite (c<0\/32<=c) (-(1:Int)) (2+c*8)=2+c*8/\True))
theorem ag9(c:Int):ag8 c=wpF Tryz.prog [] tt (noA c) 200 5 131 (Qr.args c) (hO Qr.k (Qr.os c)) (λv h'=>eX Qr.k c v h' Qr.outs):=by kernel_rfl
def KC(c:Int):Prop:=
 cP (decide (c<2)) (∃y:Unit,True/\slb c=(-(1:Int))/\True) (cP (decide (c>=(258:Int))) (∃y:Unit,True/\slb c=(-(1:Int))/\True) (I64 (c-2)/\((8:Int)=0->False)/\I64 (Int.tdiv (c-2) (8:Int))/\ ∃y:Unit,True/\slb c=Int.tdiv (c-2) (8:Int)/\True))
theorem Vz(c:Int):KC c=wpF Tryz.prog [] tt (noA c) 200 5 172 (vZ.args c) (hO vZ.k (vZ.os c)) (λv h'=>eX vZ.k c v h' vZ.outs):=by kernel_rfl
def KD(x:wo):Prop:=
 ∃x_1:Int,True/\(x_1=x.c/\True)/\True/\ ∀y:Unit,True-> ∃x_2:Int,True/\(x_2=(x.k:Int)/\True)/\True/\ ∀y_1:Unit,True->cP (BEq.beq (spn x_1) (0:Int)) (amw x.c) (cP (decide (ite (x_2<0\/32<=x_2) (-(1:Int)) (2+x_2*8)<0)) (amw x.c) ((spn x_1=0->False)/\I64 (Int.tdiv (8:Int) (spn x_1))/\(∃s:Unit,Hd (spn x.c≠(0:Int))/\True/\((0:Int)=0/\ari)/\True)/\(∀s:Unit,Hd (spn x.c≠(0:Int))->cP (decide (0<Int.tdiv (8:Int) (spn x_1))) (I64 (0*spn x_1)/\I64 (ite (x_2<0\/32<=x_2) (-(1:Int)) (2+x_2*8)+0*spn x_1)/\(2*(0+1)+1000)*8<=281474976710656/\I64 (1:Int)/\ ∃s_1:Nat,amx x.c s_1/\8-s_1<9/\((s_1:Int)=1/\(0=0/\s_1=1)/\True)/\(s_1=0+List.length [List.take 1 [Value.int .i64 (ite (x_2<0\/32<=x_2) (-(1:Int)) (2+x_2*8)+0*spn x_1)]]/\ ∀q:Nat,q<s_1->[Value.int .i64 (2+(x.k:Int)*8+(q:Int)*spn x.c)]=Cs.eff (λ(x_3:Nat)=>[]) [(0,List.take 1 [Value.int .i64 (ite (x_2<0\/32<=x_2) (-(1:Int)) (2+x_2*8)+0*spn x_1)])] q)/\True) (amw x.c))/\(∀s:Nat,amx x.c s->cP (decide ((s:Int)<Int.tdiv (8:Int) (spn x_1))) (I64 ((s:Int)*spn x_1)/\I64 (ite (x_2<0\/32<=x_2) (-(1:Int)) (2+x_2*8)+(s:Int)*spn x_1)/\s=s/\List.all [List.take 1 [Value.int .i64 (ite (x_2<0\/32<=x_2) (-(1:Int)) (2+x_2*8)+(s:Int)*spn x_1)]] (λ(l:List Value)=>Nat.beq (List.length l) 1&&List.all l Value.oneCell')=true/\(2*(s+1)+1000)*8<=281474976710656/\I64 ((s:Int)+1)/\ ∃s_1:Nat,amx x.c s_1/\8-s_1<8-s/\((s_1:Int)=(s:Int)+1/\(0=0/\s_1=s+1)/\True)/\
 (s_1=s+List.length [List.take 1 [Value.int .i64 (ite (x_2<0\/32<=x_2) (-(1:Int)) (2+x_2*8)+(s:Int)*spn x_1)]]/\ ∀q:Nat,q<s_1->[Value.int .i64 (2+(x.k:Int)*8+(q:Int)*spn x.c)]=Cs.eff (λ(i:Nat)=>[Value.int .i64 (2+(x.k:Int)*8+(i:Int)*spn x.c)]) [(s,List.take 1 [Value.int .i64 (ite (x_2<0\/32<=x_2) (-(1:Int)) (2+x_2*8)+(s:Int)*spn x_1)])] q)/\True) ((∃y_2:Unit,Hd (spn x.c=0)/\False/\True)\/ ∃y_2:Unit,Hd (spn x.c≠(0:Int))/\(0=0/\Int.toNat ((8:Int)/spn x.c)=s)/\(Int.toNat ((8:Int)/spn x.c)=s/\ ∀q:Nat,q<Int.toNat ((8:Int)/spn x.c)->[Value.int .i64 (2+(x.k:Int)*8+(q:Int)*spn x.c)]=[Value.int .i64 (2+(x.k:Int)*8+(q:Int)*spn x.c)])/\True))/\True))
theorem VA(x:wo):KD x=wpF Tryz.prog tblS3 tt (aan x) 200 5 73 (wu.args x) (hO wu.k (wu.os x)) (λv h'=>eX wu.k x v h' wu.outs):=by kernel_rfl
def arl(x:ag3):Prop:=
 (∃s:Nat,Hd (s<=x.n/\ ∀j:Nat,j<s->x.g j≠x.v)/\True/\((s:Int)=0/\True)/\Vy x)/\(∀s:Nat,Hd (s<=x.n/\ ∀j:Nat,j<s->x.g j≠x.v)->cP (decide ((s:Int)<(x.n:Int))) ((0<=(s:Int)/\(s:Int)<(x.n:Int))/\0+s<x.n/\cP (BEq.beq x.v (x.g (0+s))) ((∃y:Nat,Hd (y<x.n/\x.g y=x.v/\ ∀j:Nat,j<y->x.g j≠x.v)/\(y:Int)=(s:Int)/\Vy x)\/ ∃y:Unit,Hd (∀j:Nat,j<x.n->x.g j≠x.v)/\(-(1:Int))=(s:Int)/\Vy x) (I64 ((s:Int)+1)/\ ∃s_1:Nat,Hd (s_1<=x.n/\ ∀j:Nat,j<s_1->x.g j≠x.v)/\x.n-s_1<x.n-s/\((s_1:Int)=(s:Int)+1/\True)/\Vy x)) ((∃y:Nat,Hd (y<x.n/\x.g y=x.v/\ ∀j:Nat,j<y->x.g j≠x.v)/\(y:Int)=(-(1:Int))/\Vy x)\/ ∃y:Unit,Hd (∀j:Nat,j<x.n->x.g j≠x.v)/\(-(1:Int))=(-(1:Int))/\Vy x))/\True
theorem amA(x:ag3):arl x=wpF Tryz.prog [] tt (aur x) 200 5 173 (arh.args x) (hO arh.k (arh.os x)) (λv h'=>eX arh.k x v h' arh.outs):=by kernel_rfl
theorem dU(c:Int):(c=0/\spn c=1/\cpc c=28)\/(c=1/\spn c=2/\cpc c=91)\/(c=2/\spn c=4/\cpc c=217)\/(c=3/\spn c=8/\cpc c=469)\/((c<0\/3<c)/\spn c=0/\cpc c=0):=by
 by_cases h0:c=0
 ·subst h0;simp[spn,cpc]
 by_cases h1:c=1
 ·subst h1;simp[spn,cpc]
 by_cases h2:c=2
 ·subst h2;simp[spn,cpc]
 by_cases h3:c=3
 ·subst h3;simp[spn,cpc]
 simp[spn,cpc,h0,h1,h2,h3];omega
theorem VB(c:Int):ag4 c:=by
 unfold ag4;simp only[aZ,aV,aU,aA,aI,bU,bG,aO,aK,ay,aX,aW,bV,bH,bJ,bK,bW,bC,bM,bn,eY,aH,aN,ah,ak,aB,aF,aC,aG,qG,decide_eq_true_eq,decide_eq_false_iff_not];refine⟨λh=> ?_,λh=>⟨λh2=> ?_,λh2=>⟨by omega,?_⟩⟩⟩
 ·rcases dU c with h'|h'|h'|h'|h'<;>omega
 ·rcases dU c with h'|h'|h'|h'|h'<;>omega
 ·have:c=0\/c=1\/c=2\/c=3:=by omega
  rcases this with rfl|rfl|rfl|rfl<;>decide
theorem acO(c:Int):ark c:=by
 unfold ark;simp only[aZ,aV,aU,aA,aI,bU,bG,aO,aK,ay,aX,aW,bV,bH,bJ,bK,bW,bC,bM,bn,eY,aH,aN,ah,ak,aB,aF,aC,aG,qG,decide_eq_true_eq,decide_eq_false_iff_not];unfold I64;rcases dU c with h'|h'|h'|h'|h'<;>omega
theorem VD(c:Int):ag6 c:=by
 unfold ag6;simp only[aZ,aV,aU,aA,aI,bU,bG,aO,aK,ay,aX,aW,bV,bH,bJ,bK,bW,bC,bM,bn,eY,aH,aN,ah,ak,aB,aF,aC,aG,qG,decide_eq_true_eq,decide_eq_false_iff_not];unfold I64 ned;have e:cpc 0=28/\cpc 1=91/\cpc 2=217/\cpc 3=469:=⟨rfl,rfl,rfl,rfl⟩;obtain⟨e0,e1,e2,e3⟩:=e;rw[e0,e1,e2,e3];grind
theorem VE(c:Int):ag8 c:=by
 unfold ag8;simp only[arj];simp only[aZ,aV,aU,aA,aI,bU,bG,aO,aK,ay,aX,aW,bV,bH,bJ,bK,bW,bC,bM,bn,eY,aH,aN,ah,ak,aB,aF,aC,aG,qG,decide_eq_true_eq,decide_eq_false_iff_not];unfold I64;grind
theorem KE(c:Int):KC c:=by
 unfold KC;simp only[aZ,aV,aU,aA,aI,bU,bG,aO,aK,ay,aX,aW,bV,bH,bJ,bK,bW,bC,bM,bn,eY,aH,aN,ah,ak,aB,aF,aC,aG,qG,decide_eq_true_eq,decide_eq_false_iff_not];refine⟨λh=>by unfold slb;rw[if_pos (by omega)],λh=>⟨λh2=>by unfold slb;rw[if_pos (by omega)],λh2=> ?_⟩⟩;have e:(c-2).tdiv 8=(c-2)/8:=Int.tdiv_eq_ediv_of_nonneg (by omega);rw[e];exact⟨by unfold I64;omega,by decide,by unfold I64;omega,by unfold slb;rw[if_neg (by omega)]⟩
theorem KF(x:wo)(hx:x.k<32):KD x:=by
 unfold KD;simp only[amw,ari,amx];simp only[aZ,aV,aU,aA,aI,bU,bG,aO,aK,ay,aX,aW,bV,bH,bJ,bK,bW,bC,bM,bn,eY,aH,aN,ah,ak,aB,aF,aC,aG];have hf:(if (x.k:Int)<0\/32<=(x.k:Int)then(-1:Int)else 2+x.k*8)=2+x.k*8:=if_neg (by omega);rw[hf];have hs:=dU x.c;have hdiv:spn x.c≠0->Int.tdiv 8 (spn x.c)=8/spn x.c/\1<=8/spn x.c/\8/spn x.c<=8/\0<spn x.c/\spn x.c<=8/\(8/spn x.c)*spn x.c=8:=λh=>by
  rcases hs with h'|h'|h'|h'|h'<;>obtain⟨_,e,_⟩:=h'<;>rw[e]<;>first|decide|exact(h e).elim
 refine bf (λh=> .inl (by simpa using h)) λh=>bf (λh2=>absurd (aS h2) (by omega)) λ_=> ?_
 have hz:spn x.c≠0:=by simpa using h
 obtain⟨e1,e2,e3,e4,e5,e6⟩:=hdiv hz
 have hm: ∀s:Nat,(s:Int)<=8->(s:Int)*spn x.c<=64/\0<=(s:Int)*spn x.c:=λs hs=>⟨by
  have:=Int.mul_le_mul hs e5 (by omega) (by omega:(0:Int)<=8);omega,Int.mul_nonneg (by omega) (by omega)⟩
 rw[e1];refine⟨hz,by unfold I64;omega,hz,λ_=>bf (λ_=> ?_) λh=>absurd (aT h) (by omega),λs hs=>bf (λh=> ?_) λh=> ?_⟩
 ·refine⟨by unfold I64;omega,by unfold I64;omega,by omega,by unfold I64;omega,1,⟨hz,by omega,by omega⟩,by omega,⟨rfl,rfl⟩,rfl,λq hq=> ?_⟩
  have:q=0:=by omega
  subst this;simp[Cs.eff]
 ·have h:=aS h
  obtain⟨_,h1,h2⟩:=hs;obtain⟨m1,m2⟩:=hm s (by omega);refine⟨by unfold I64;omega,by unfold I64;omega,rfl,by omega,by unfold I64;omega,s+1,⟨hz,by omega,by omega⟩,by omega,⟨by omega,rfl⟩,rfl,λq hq=> ?_⟩;simp only[Cs.eff,bY,dA,dD,dK,<-Bool.decide_and];by_cases e:q=s
  ·subst e;rw[if_pos rfl];rfl
  ·rw[if_neg e]
 ·have h:=aT h
  exact .inr ⟨hz,by omega⟩
theorem acP(x:ag3)(hx:x.n<1000):arl x:=by
 unfold arl;simp only[Vy];simp only[aZ,aV,aU,aA,aI,bU,bG,aO,aK,ay,aX,aW,bV,bH,bJ,bK,bW,bC,bM,bn,eY,aH,aN,ah,ak,aB,aF,aC,aG];refine⟨⟨0,⟨Nat.zero_le _,λj hj=>absurd hj (Nat.not_lt_zero j)⟩,Int.natCast_zero⟩,λs hs=>bf (λh=> ?_) λh=> ?_⟩
 ·have h:=aS h
  refine⟨by omega,by omega,bf (λe=> .inl ⟨s,⟨by omega,(beq_iff_eq.1 e).symm,hs.2⟩,rfl⟩) λe=>⟨by unfold I64;omega,s+1,⟨by omega,λj hj=> ?_⟩,by omega,by omega⟩⟩;by_cases e':j=s
  ·subst e';intro h';simp[h']at e
  ·exact hs.2 j (by omega)
 ·have h:=aT h
  exact .inr λj hj=>hs.2 j (by omega)
theorem mQ:cO Tryz.prog 113 zH:=dM dG mixed dZ.nil noA 200 5 (λ_=>rfl) (λ_=>rfl) λx _=>Eq.mp (ag5 x) (VB x)
theorem apv:cO Tryz.prog 115 apu:=dM dG mixed (.cons (bP mQ) .nil) noA 200 5 (λ_=>rfl) (λ_=>rfl) λx _=>Eq.mp (amy x) (acO x)
theorem aha:cO Tryz.prog 201 Vx:=dM dG mixed (.cons (bP apv) .nil) noA 200 5 (λ_=>rfl) (λ_=>rfl) λx _=>Eq.mp (ag7 x) (VD x)
theorem ahb:cO Tryz.prog 131 Qr:=dM dG mixed dZ.nil noA 200 5 (λ_=>rfl) (λ_=>rfl) λx _=>Eq.mp (ag9 x) (VE x)
theorem ahc:cO Tryz.prog 172 vZ:=dM dG mixed dZ.nil noA 200 5 (λ_=>rfl) (λ_=>rfl) λx _=>Eq.mp (Vz x) (KE x)
theorem ahd:cO Tryz.prog 73 wu:=iP dG mixed (.cons (bP mQ) (.cons (bP ahb) .nil)) aan 200 5 (λ_=>rfl) (λ_=>⟨λ_=>rfl,λ_=>rfl,trivial⟩) λx hx=>Eq.mp (VA x) (KF x (aZ.1 hx))
theorem aus:cO Tryz.prog 173 arh:=iP dG mixed .nil aur 200 5 (λ_=>rfl) (λ_=>⟨λ_=>rfl,λ_=>rfl,trivial⟩) λx hx=>Eq.mp (amA x) (acP x (aZ.1 hx))
structure ZPool where
 n:Nat
 cls:Nat->Int
 tk:Nat->Nat->Bool
 cnt:Nat->Int
noncomputable def gX(p:ZPool)(q:Nat):List Value:=hide [if q%10=0 then .int .i64 (p.cls (q/10))else if q%10=9 then .int .i64 (p.cnt (q/10))else .bool (p.tk (q/10) (q%10-1))]
theorem kL(p:ZPool)(q:Nat):gX p q=[if q%10=0 then .int .i64 (p.cls (q/10))else if q%10=9 then .int .i64 (p.cnt (q/10))else .bool (p.tk (q/10) (q%10-1))]:=iK _
namespace ZPool
def ok(p:ZPool):Prop:=1<=p.n/\p.n<=32/\ ∀i,i<p.n-> -1<=p.cls i/\p.cls i<=3/\0<=p.cnt i/\p.cnt i<=8
noncomputable def VF(p:ZPool):dF:= .cells 177 (.row 1 (p.n*10) (gX p) [])
noncomputable def os(p:ZPool):List dF:=[.cells 245 (.av [.slE 1 0 10 p.n p.n]),p.VF]
def many(c:Int):Nat:=(8/spn c).toNat
def full(p:ZPool)(c:Int)(i:Nat):Prop:=p.cls i=c-> ∀k,k<many c->p.tk i k=true
def takes(p:ZPool)(c:Int)(i k:Nat):Prop:=i<p.n/\k<many c/\p.tk i k=(if p.cls i=c then false else p.tk i k)/\
 ((p.cls i=c/\(∀j,j<k->p.tk i j=true)/\ ∀j,j<i->p.full c j)\/(p.cls i= -1/\k=0/\(∀j,j<p.n->p.full c j)/\ ∀j,j<i->p.cls j≠ -1))
def take(p:ZPool)(c:Int)(i k:Nat):ZPool:={p with cls:=λj=>if j=i then c else p.cls j,tk:=λj q=>if j=i/\q=k then true else p.tk j q,cnt:=λj=>if j=i then p.cnt j+1 else p.cnt j}
def give(p:ZPool)(i k:Nat):ZPool:={p with cls:=λj=>if j=i/\p.cnt j=1 then-1 else p.cls j,tk:=λj q=>if j=i/\q=k then false else p.tk j q,cnt:=λj=>if j=i then p.cnt j-1 else p.cnt j}
end ZPool
def gI(n i:Nat):ZPool:=⟨n,λj=>if j<i then-1 else 0,λ_ _=>false,λ_=>0⟩
noncomputable def apw(n:Nat):FuncId->qL:=λf=>bif Nat.beq f 82 then(λb _ _=>bif Nat.beq b 0 then [
 {σ:=Nat,fr:=λi=>[(22,i64 i)],ob:=λi=>[(0,some (gI n i).VF)],inv:=λi=>i<=n,meas:=λi=>n-i}]else [])elseλ_ _ _=>[]
structure yC where
 p:ZPool
 i:Nat
noncomputable def VG:Ctr:={X:=yC,args:=λx=>[.nH 0 x.i 10 0],k:=1,os:=λx=>[x.p.VF],pre:=λx=>Hd (x.p.ok/\x.i<x.p.n/\0<=x.p.cls x.i),outs:=[
 {Y:=Nat,post:=λx k=>Hd (k<ZPool.many (x.p.cls x.i)/\x.p.tk x.i k=false/\ ∀j,j<k->x.p.tk x.i j=true),ret:=λ_ k=>i64 k,m:=1,os:=λx _=>[x.p.VF]},
 {Y:=Unit,post:=λx _=>Hd (∀k,k<ZPool.many (x.p.cls x.i)->x.p.tk x.i k=true),ret:=λ_ _=>i64 (-1),m:=1,os:=λx _=>[x.p.VF]}]}
noncomputable def apx(x:yC):FuncId->qL:=λf=>bif Nat.beq f 276 then(λb _ _=>bif Nat.beq b 0 then [
 {σ:=Nat,fr:=λk=>[(10,i64 k)],ob:=λ_=>[],inv:=λk=>Hd (k<=ZPool.many (x.p.cls x.i)/\ ∀j,j<k->x.p.tk x.i j=true),meas:=λk=>8-k}]else [])elseλ_ _ _=>[]
structure lH where
 p:ZPool
 c:Int
noncomputable def ahe:iW:={X:=lH,args:=λx=>[.ptr 0 0,i64 x.c],k:=1,l:=λx=>[.m x.p.os],pre:=λx=>Hd x.p.ok,outs:=[
 {Y:=Unit,post:=λx _=>Hd (spn x.c=0),ret:=λ_ _=> .tup [i64 0,i64 1],m:=1,l:=λx _=>[.m x.p.os]},
 {Y:=Unit,post:=λx _=>Hd (spn x.c≠0/\ ∀i,i<x.p.n->x.p.cls i≠ -1/\x.p.full x.c i),ret:=λ_ _=> .tup [i64 0,i64 4],m:=1,l:=λx _=>[.m x.p.os]},
 {Y:=Nat×Nat,post:=λx y=>Hd (spn x.c≠0/\x.p.takes x.c y.1 y.2),ret:=λx y=> .tup [i64 (2+y.1*8+y.2*spn x.c),i64 0],m:=1,l:=λx y=>[.m (x.p.take x.c y.1 y.2).os]}]}
noncomputable def apy(x:lH):FuncId->qL:=λf=>bif Nat.beq f 242 then(λb _ _=>
 bif Nat.beq b 0 then [{σ:=Nat,fr:=λi=>[(14,i64 i)],ob:=λ_=>[],inv:=λi=>Hd (i<=x.p.n/\ ∀j,j<i->x.p.full x.c j),meas:=λi=>x.p.n-i}]else
 bif Nat.beq b 2 then [{σ:=Nat,fr:=λi=>[(39,i64 i)],ob:=λ_=>[],inv:=λi=>Hd (i<=x.p.n/\(∀j,j<x.p.n->x.p.full x.c j)/\ ∀j,j<i->x.p.cls j≠ -1),meas:=λi=>x.p.n-i}]else [])elseλ_ _ _=>[]
noncomputable def VH:Ctr:={X:=lH,args:=λx=>[.ptr 0 0,i64 x.c],k:=2,os:=λx=>x.p.os,pre:=λx=>Hd (x.p.ok/\spn x.c≠0),outs:=[
 {Y:=Unit,post:=λx _=>Hd (∀i,i<x.p.n->x.p.cls i≠ -1/\x.p.full x.c i),ret:=λ_ _=> .tup [i64 0,i64 0,boo false],m:=2,os:=λx _=>x.p.os},
 {Y:=Nat×Nat,post:=λx y=>Hd (x.p.takes x.c y.1 y.2),ret:=λ_ y=> .tup [i64 y.1,i64 y.2,boo true],m:=2,os:=λx _=>x.p.os}]}
structure EF where
 p:ZPool
 c:Int
 i:Nat
 k:Nat
noncomputable def EG:Ctr:=det EF (λx=>[.nH 0 x.i 10 0,i64 x.c,i64 x.k]) 1 (λx=>[x.p.VF]) (λx=>Hd (x.p.ok/\x.i<x.p.n/\x.k<8)) (λ_=> .tup []) 1 (λx=>[(x.p.take x.c x.i x.k).VF])
structure fP where
 p:ZPool
 i:Nat
 k:Nat
def fP.ok(x:fP):Prop:=x.p.ok/\x.i<x.p.n/\0<=x.p.cls x.i/\x.k<ZPool.many (x.p.cls x.i)/\x.p.tk x.i x.k=true
def fP.line(x:fP):Int:=2+x.i*8+x.k*spn (x.p.cls x.i)
noncomputable def atC:Ctr:=det fP (λx=>[.ptr 0 0,i64 x.line]) 2 (λx=>x.p.os) (λx=>Hd x.ok) (λx=> .tup [.nH 1 x.i 10 0,i64 x.k,boo true]) 2 (λx=>x.p.os)
noncomputable def ahf:iW:=oJ fP (λx=>[.ptr 0 0,i64 x.line]) 1 (λx=>[.m x.p.os]) (λx=>Hd x.ok) (λ_=>i64 0) 1 (λx=>[.m (x.p.give x.i x.k).os])
noncomputable def ofP:iW:=oJ fP (λx=>[.ptr 0 0,i64 x.line]) 1 (λx=>[.m x.p.os]) (λx=>Hd x.ok) (λx=> .tup [i64 (x.p.cls x.i),boo true]) 1 (λx=>[.m x.p.os])
noncomputable def tblP0:je:=[(276,ctrT VG)]
noncomputable def tblP1:je:=[(113,ctrT zH),(131,ctrT Qr),(242,ctrT VH),(243,ctrT EG)]
noncomputable def tblP2:je:=[(113,ctrT zH),(172,ctrT vZ),(73,ctrT wu),(173,ctrT arh)]
noncomputable def aut:je:=[(116,ctrT atC)]
def yD(a:Nat)(b:Nat):Prop:=(0=0/\a=b/\a=b)/\True
def amB(a:Int)(b:fP)(c:fP)(d:Int):Prop:=cP (BEq.beq a (0:Int)) (b.i*10+0<b.p.n*10/\ ∃y_1:Unit,True/\(0:Int)=0/\yD c.p.n b.p.n/\(c.p.n*10=b.p.n*10/\ ∀q:Nat,q<c.p.n*10->Cs.eff (gX (c.p.give c.i c.k)) [] q=Cs.eff (gX b.p) [(b.i*10+0,[Value.int .i64 (-(1:Int))]),(b.i*10+9,[Value.int .i64 (d-1)]),(b.i*10+(1+b.k*1),[Value.bool false])] q)/\True) (∃y_1:Unit,True/\(0:Int)=0/\yD c.p.n b.p.n/\(c.p.n*10=b.p.n*10/\ ∀q:Nat,q<c.p.n*10->Cs.eff (gX (c.p.give c.i c.k)) [] q=Cs.eff (gX b.p) [(b.i*10+9,[Value.int .i64 (d-1)]),(b.i*10+(1+b.k*1),[Value.bool false])] q)/\True)
def arn(a:Int)(b:fP)(c:fP):Prop:=I64 (a-1)/\b.i*10+9<b.p.n*10/\b.i*10+9<b.p.n*10/\cP (Nat.beq (b.i*10+9) (b.i*10+9)) (∃z_1:Int,some (Value.int .i64 (a-1))=some (Value.int .i64 z_1)/\amB z_1 b c a) (cP (Nat.beq (b.i*10+9) (b.i*10+(1+b.k*1))) (∃z_1:Int,some (Value.bool false)=some (Value.int .i64 z_1)/\amB z_1 b c a) (∃z_1:Int,getElem? (gX b.p (b.i*10+9)) 0=some (Value.int .i64 z_1)/\amB z_1 b c a))
def yE(a:ZPool):Prop:=a.n*10=a.n*10/\ ∀q:Nat,q<a.n*10->Cs.eff (gX a) [] q=Cs.eff (gX a) [] q
def G6(a:ZPool)(b:ZPool):Prop:=a.n*10=b.n*10/\ ∀q:Nat,q<a.n*10->Cs.eff (gX a) [] q=Cs.eff (gX b) [] q
def aao(a:Int)(b:EF):Prop:=I64 (a+1)/\b.i*10+9<b.p.n*10/\ ∃y:Unit,True/\True/\(b.p.n*10=b.p.n*10/\ ∀q:Nat,q<b.p.n*10->Cs.eff (gX (b.p.take b.c b.i b.k)) [] q=Cs.eff (gX b.p) [(b.i*10+9,[Value.int .i64 (a+1)]),(b.i*10+(1+b.k*1),[Value.bool true]),(b.i*10+0,[Value.int .i64 b.c])] q)/\True
def nY(a:Nat):Prop:=(0=0/\a=a/\a=a)/\True
def qI(a:ZPool):Prop:=nY a.n/\yE a/\True
def yF(a:ZPool)(b:ZPool):Prop:=yD a.n b.n/\G6 a b/\True
def aap(a:Nat)(b:lH):Prop:=Hd (a<=b.p.n/\(∀j:Nat,j<b.p.n->b.p.full b.c j)/\ ∀j:Nat,j<a->b.p.cls j≠(-(1:Int)))
def IW(a:lH):Prop:=Hd (∀i:Nat,i<a.p.n->a.p.cls i≠(-(1:Int))/\a.p.full a.c i)
def Qs(a:ZPool):Prop:=yE a/\nY a.n/\True
def aaq(a:lH):Prop:=Hd (spn a.c≠(0:Int)/\ ∀i:Nat,i<a.p.n->a.p.cls i≠(-(1:Int))/\a.p.full a.c i)
def Qu(a:Nat)(b:yC):Prop:=Hd (a<ZPool.many (b.p.cls b.i)/\b.p.tk b.i a=false/\ ∀j:Nat,j<a->b.p.tk b.i j=true)
def aar(a:Nat)(b:yC):Prop:=Hd (a<=ZPool.many (b.p.cls b.i)/\ ∀j:Nat,j<a->b.p.tk b.i j=true)
def Qv(a:Nat)(b:lH):Prop:=Hd (a<=b.p.n/\ ∀j:Nat,j<a->b.p.full b.c j)
def Qw(a:yC):Prop:=Hd (∀k:Nat,k<ZPool.many (a.p.cls a.i)->a.p.tk a.i k=true)
def ahg(a:ZPool)(b:Nat)(c:EF):Prop:=yD a.n b/\(a.n*10=c.p.n*10/\ ∀q:Nat,q<a.n*10->Cs.eff (gX a) [] q=Cs.eff (gX (c.p.take c.c c.i c.k)) [] q)/\True
def yG(a:Nat):Prop:=0<=(a:Int)/\(a:Int)<8
def aas:Prop:= ∃y:Unit,True/\(False/\(0:Int)=2/\True)/\False/\False/\True
def yH(a:Nat)(b:Nat):Prop:=(a:Int)=(b:Int)+1/\True
def ahh(a:fP):Prop:= ∃y_1:Unit,True/\(False/\(a.k:Int)=0/\true=false/\True)/\qI a.p
def ahi(n:Nat):Prop:=
 cP (decide ((n:Int)<1)) aas (I64 (256:Int)/\((8:Int)=0->False)/\I64 (32:Int)/\cP (decide ((n:Int)>(32:Int))) aas ((0<=(n:Int)/\(n:Int)<=(n:Int)/\24*(n:Int)<=281474976710656/\(n:Int)<4611686018427387904)/\(∃s:Nat,s<=n/\True/\((s:Int)=0/\True)/\nY n/\(n*10=n*10/\ ∀q:Nat,∀j:Nat,q<n->j<10-> ∃v:Value,getElem? [Value.int .i64 0,Value.bool false,Value.bool false,Value.bool false,Value.bool false,Value.bool false,Value.bool false,Value.bool false,Value.bool false,Value.int .i64 0] j=some v/\Cs.eff (gX (gI n s)) [] (q*10+j)=[v])/\True)/\(∀s:Nat,s<=n->cP (decide ((s:Int)<(n:Int))) ((0<=(s:Int)/\(s:Int)<(n:Int))/\(0+s)*10+0<n*10/\I64 ((s:Int)+1)/\ ∃s_1:Nat,s_1<=n/\n-s_1<n-s/\yH s_1 s/\nY n/\(n*10=n*10/\ ∀q:Nat,q<n*10->Cs.eff (gX (gI n s_1)) [] q=Cs.eff (gX (gI n s)) [((0+s)*10+0,[Value.int .i64 (-(1:Int))])] q)/\True) (∃y:Unit,True/\(0=0/\(0:Int)=0/\True)/\nY n/\(n*10=n*10/\ ∀q:Nat,q<n*10->Cs.eff (gX (gI n n)) [] q=Cs.eff (gX (gI n s)) [] q)/\True))/\True))
def ahj(x:yC):Prop:=
 x.i*10+0<x.p.n*10/\ ∃z:Int,getElem? (gX x.p (x.i*10+0)) 0=some (Value.int .i64 z)/\ ∃x_1:Int,True/\(x_1=z/\True)/\True/\ ∀y:Unit,True->(spn x_1=0->False)/\I64 (Int.tdiv (8:Int) (spn x_1))/\(∃s:Nat,aar s x/\True/\((s:Int)=0/\True)/\yE x.p/\True)/\(∀s:Nat,aar s x->cP (decide ((s:Int)<Int.tdiv (8:Int) (spn x_1))) (yG s/\x.i*10+(1+s*1)<x.p.n*10/\ ∃b:Bool,getElem? (gX x.p (x.i*10+(1+s*1))) 0=some (Value.bool b)/\cP (Bool.not b) ((∃y_1:Nat,Qu y_1 x/\(y_1:Int)=(s:Int)/\yE x.p/\True)\/ ∃y_1:Unit,Qw x/\(-(1:Int))=(s:Int)/\yE x.p/\True) (I64 ((s:Int)+1)/\ ∃s_1:Nat,aar s_1 x/\8-s_1<8-s/\yH s_1 s/\yE x.p/\True)) ((∃y_1:Nat,Qu y_1 x/\(y_1:Int)=(-(1:Int))/\yE x.p/\True)\/ ∃y_1:Unit,Qw x/\(-(1:Int))=(-(1:Int))/\yE x.p/\True))/\True
theorem ahk(x:yC):ahj x=wpF Tryz.prog amv tt (apx x) 200 5 276 (VG.args x) (hO VG.k (VG.os x)) (λv h'=>eX VG.k x v h' VG.outs):=by kernel_rfl
def ahl(x:lH):Prop:=
 (∃s:Nat,Qv s x/\True/\((s:Int)=0/\True)/\Qs x.p)/\(∀s:Nat,Qv s x->cP (decide ((s:Int)<(x.p.n:Int))) ((0<=(s:Int)/\(s:Int)<(x.p.n:Int))/\(0+s)*10+0<x.p.n*10/\ ∃z:Int,getElem? (gX x.p ((0+s)*10+0)) 0=some (Value.int .i64 z)/\cP (BEq.beq z x.c) (∃x_1:yC,Hd (x_1.p.ok/\x_1.i<x_1.p.n/\0<=x_1.p.cls x_1.i)/\((x_1.i=0+s/\0=0)/\True)/\(G6 x_1.p x.p/\True)/\(∀y:Nat,Qu y x_1->(∃y_1:Unit,IW x/\(0=(s:Int)/\0=(y:Int)/\false=true/\True)/\nY x.p.n/\G6 x.p x_1.p/\True)\/ ∃y_1:Prod Nat Nat,Hd (x.p.takes x.c y_1.1 y_1.2)/\((y_1.1:Int)=(s:Int)/\(y_1.2:Int)=(y:Int)/\true=true/\True)/\nY x.p.n/\G6 x.p x_1.p/\True)/\ ∀y:Unit,Qw x_1->I64 ((s:Int)+1)/\ ∃s_1:Nat,Qv s_1 x/\x.p.n-s_1<x.p.n-s/\yH s_1 s/\G6 x.p x_1.p/\nY x.p.n/\True) (I64 ((s:Int)+1)/\ ∃s_1:Nat,Qv s_1 x/\x.p.n-s_1<x.p.n-s/\yH s_1 s/\Qs x.p)) ((∃s_1:Nat,aap s_1 x/\True/\((s_1:Int)=0/\True)/\Qs x.p)/\(∀s_1:Nat,aap s_1 x->cP (decide ((s_1:Int)<(x.p.n:Int))) ((0<=(s_1:Int)/\(s_1:Int)<(x.p.n:Int))/\(0+s_1)*10+0<x.p.n*10/\ ∃z:Int,getElem? (gX x.p ((0+s_1)*10+0)) 0=some (Value.int .i64 z)/\cP (BEq.beq z (-(1:Int))) ((∃y:Unit,IW x/\(0=(s_1:Int)/\(0:Int)=0/\false=true/\True)/\qI x.p)\/ ∃y:Prod Nat Nat,Hd (x.p.takes x.c y.1 y.2)/\((y.1:Int)=(s_1:Int)/\(y.2:Int)=0/\true=true/\True)/\qI x.p) (I64 ((s_1:Int)+1)/\ ∃s_2:Nat,aap s_2 x/\x.p.n-s_2<x.p.n-s_1/\yH s_2 s_1/\Qs x.p)) ((∃y:Unit,IW x/\((0:Int)=0/\(0:Int)=0/\false=false/\True)/\
 qI x.p)\/ ∃y:Prod Nat Nat,Hd (x.p.takes x.c y.1 y.2)/\((y.1:Int)=0/\(y.2:Int)=0/\true=false/\True)/\qI x.p))/\True))/\True
theorem ahm(x:lH):ahl x=wpF Tryz.prog tblP0 tt (apy x) 200 5 242 (VH.args x) (hO VH.k (VH.os x)) (λv h'=>eX VH.k x v h' VH.outs):=by kernel_rfl
def VI(x:EF):Prop:=
 x.i*10+0<x.p.n*10/\yG x.k/\x.i*10+(1+x.k*1)<x.p.n*10/\x.i*10+9<x.p.n*10/\cP (Nat.beq (x.i*10+9) (x.i*10+(1+x.k*1))) (∃z:Int,some (Value.bool true)=some (Value.int .i64 z)/\aao z x) (cP (Nat.beq (x.i*10+9) (x.i*10+0)) (∃z:Int,some (Value.int .i64 x.c)=some (Value.int .i64 z)/\aao z x) (∃z:Int,getElem? (gX x.p (x.i*10+9)) 0=some (Value.int .i64 z)/\aao z x))
theorem acQ(x:EF):VI x=wpF Tryz.prog [] tt (noA x) 200 5 243 (EG.args x) (hO EG.k (EG.os x)) (λv h'=>eX EG.k x v h' EG.outs):=by kernel_rfl
def ahn(x:lH):Prop:=
 ∃x_1:Int,True/\(x_1=x.c/\True)/\True/\ ∀y:Unit,True->cP (BEq.beq (spn x_1) (0:Int)) ((∃y_1:Unit,Hd (spn x.c=0)/\((0:Int)=0/\(1:Int)=1/\True)/\qI x.p)\/(∃y_1:Unit,aaq x/\((0:Int)=0/\(4:Int)=1/\True)/\qI x.p)\/ ∃y_1:Prod Nat Nat,Hd (spn x.c≠(0:Int)/\x.p.takes x.c y_1.1 y_1.2)/\(2+(y_1.1:Int)*8+(y_1.2:Int)*spn x.c=0/\(0:Int)=1/\True)/\nY x.p.n/\(x.p.n*10=x.p.n*10/\ ∀q:Nat,q<x.p.n*10->Cs.eff (gX (x.p.take x.c y_1.1 y_1.2)) [] q=Cs.eff (gX x.p) [] q)/\True) (∃x_2:lH,Hd (x_2.p.ok/\spn x_2.c≠(0:Int))/\(0=0/\x_2.c=x.c/\True)/\yF x_2.p x.p/\(∀y_1:Unit,IW x_2->(∃y_2:Unit,Hd (spn x.c=0)/\((0:Int)=0/\(1:Int)=4/\True)/\yF x.p x_2.p)\/(∃y_2:Unit,aaq x/\((0:Int)=0/\(4:Int)=4/\True)/\yF x.p x_2.p)\/ ∃y_2:Prod Nat Nat,Hd (spn x.c≠(0:Int)/\x.p.takes x.c y_2.1 y_2.2)/\(2+(y_2.1:Int)*8+(y_2.2:Int)*spn x.c=0/\(0:Int)=4/\True)/\yD x.p.n x_2.p.n/\(x.p.n*10=x_2.p.n*10/\ ∀q:Nat,q<x.p.n*10->Cs.eff (gX (x.p.take x.c y_2.1 y_2.2)) [] q=Cs.eff (gX x_2.p) [] q)/\True)/\ ∀y_1:Prod Nat Nat,Hd (x_2.p.takes x_2.c y_1.1 y_1.2)->(0<=(y_1.1:Int)/\(y_1.1:Int)<(x_2.p.n:Int))/\ ∃x_3:EF,Hd (x_3.p.ok/\x_3.i<x_3.p.n/\x_3.k<8)/\((x_3.i=0+y_1.1/\0=0)/\x_3.c=x.c/\(x_3.k:Int)=(y_1.2:Int)/\True)/\(G6 x_3.p x_2.p/\True)/\ ∀y_2:Unit,True-> ∃x_4:Int,True/\(x_4=(y_1.1:Int)/\True)/\True/\ ∀y_3:Unit,True-> ∃x_5:Int,True/\(x_5=x.c/\True)/\True/\ ∀y_4:Unit,True->I64 ((y_1.2:Int)*spn x_5)/\I64 (ite (x_4<0\/32<=x_4) (-(1:Int)) (2+x_4*8)+(y_1.2:Int)*spn x_5)/\
 ((∃y_5:Unit,Hd (spn x.c=0)/\(0=ite (x_4<0\/32<=x_4) (-(1:Int)) (2+x_4*8)+(y_1.2:Int)*spn x_5/\(1:Int)=0/\True)/\ahg x.p x_2.p.n x_3)\/(∃y_5:Unit,aaq x/\(0=ite (x_4<0\/32<=x_4) (-(1:Int)) (2+x_4*8)+(y_1.2:Int)*spn x_5/\(4:Int)=0/\True)/\ahg x.p x_2.p.n x_3)\/ ∃y_5:Prod Nat Nat,Hd (spn x.c≠(0:Int)/\x.p.takes x.c y_5.1 y_5.2)/\(2+(y_5.1:Int)*8+(y_5.2:Int)*spn x.c=ite (x_4<0\/32<=x_4) (-(1:Int)) (2+x_4*8)+(y_1.2:Int)*spn x_5/\(0:Int)=0/\True)/\yD x.p.n x_2.p.n/\(x.p.n*10=x_3.p.n*10/\ ∀q:Nat,q<x.p.n*10->Cs.eff (gX (x.p.take x.c y_5.1 y_5.2)) [] q=Cs.eff (gX (x_3.p.take x_3.c x_3.i x_3.k)) [] q)/\True))
theorem aho(x:lH):ahn x=wpF Tryz.prog tblP1 tt (noA x) 200 5 202 (ahe.args x) (hO 2 (flatP 1 (ahe.l x))) (λv h'=>endsPK 1 x v h' ahe.outs):=by kernel_rfl
def atVC(x:fP):Prop:=
 ∃x_1:Int,True/\(x_1=x.line/\True)/\True/\ ∀y:Unit,True->cP (decide (slb x_1<0)) (ahh x) (cP (decide (slb x_1>=(x.p.n:Int))) (ahh x) ((0<=slb x_1/\slb x_1<(x.p.n:Int))/\(0+Int.toNat (slb x_1))*10+0<x.p.n*10/\ ∃z:Int,getElem? (gX x.p ((0+Int.toNat (slb x_1))*10+0)) 0=some (Value.int .i64 z)/\ ∃x_2:wo,Hd (x_2.k<32)/\((x_2.k:Int)=slb x_1/\x_2.c=z/\True)/\True/\(∀y_1:Unit,Hd (spn x_2.c=0)-> ∃x_3:ag3,Hd (x_3.n<1000)/\(False/\x_3.v=x.line/\True)/\(False/\True)/\(∀y_2:Nat,Hd (y_2<x_3.n/\x_3.g y_2=x_3.v/\ ∀j:Nat,j<y_2->x_3.g j≠x_3.v)->yG y_2/\(0+Int.toNat (slb x_1))*10+(1+y_2*1)<x.p.n*10/\ ∃b:Bool,getElem? (gX x.p ((0+Int.toNat (slb x_1))*10+(1+y_2*1))) 0=some (Value.bool b)/\ ∃y_3:Unit,True/\((x.i=0+Int.toNat (slb x_1)/\0=0)/\(x.k:Int)=(y_2:Int)/\true=b/\True)/\False/\yE x.p/\True)/\ ∀y_2:Unit,Hd (∀j:Nat,j<x_3.n->x_3.g j≠x_3.v)-> ∃y_3:Unit,True/\((x.i=0+Int.toNat (slb x_1)/\0=0)/\(x.k:Int)=(-(1:Int))/\true=false/\True)/\False/\yE x.p/\True)/\ ∀y_1:Unit,Hd (spn x_2.c≠(0:Int))-> ∃x_3:ag3,Hd (x_3.n<1000)/\((0=0/\x_3.n=Int.toNat ((8:Int)/spn x_2.c))/\x_3.v=x.line/\True)/\((x_3.n=Int.toNat ((8:Int)/spn x_2.c)/\ ∀q:Nat,q<x_3.n->[Value.int .i64 (x_3.g q)]=[Value.int .i64 (2+(x_2.k:Int)*8+(q:Int)*spn x_2.c)])/\True)/\(∀y_2:Nat,Hd (y_2<x_3.n/\x_3.g y_2=x_3.v/\ ∀j:Nat,j<y_2->x_3.g j≠x_3.v)->yG y_2/\(0+Int.toNat (slb x_1))*10+(1+y_2*1)<x.p.n*10/\ ∃b:Bool,getElem? (gX x.p ((0+Int.toNat (slb x_1))*10+(1+y_2*1))) 0=some (Value.bool b)/\
 ∃y_3:Unit,True/\((x.i=0+Int.toNat (slb x_1)/\0=0)/\(x.k:Int)=(y_2:Int)/\true=b/\True)/\qI x.p)/\ ∀y_2:Unit,Hd (∀j:Nat,j<x_3.n->x_3.g j≠x_3.v)-> ∃y_3:Unit,True/\((x.i=0+Int.toNat (slb x_1)/\0=0)/\(x.k:Int)=(-(1:Int))/\true=false/\True)/\qI x.p))
theorem aro(x:fP):atVC x=wpF Tryz.prog tblP2 tt (noA x) 200 5 116 (atC.args x) (hO atC.k (atC.os x)) (λv h'=>eX atC.k x v h' atC.outs):=by kernel_rfl
def ahp(x:fP):Prop:=
 ∃x_1:fP,Hd x_1.ok/\(0=0/\x_1.line=x.line/\True)/\yF x_1.p x.p/\ ∀y:Unit,True->yG x_1.k/\x_1.i*10+(1+x_1.k*1)<x_1.p.n*10/\x_1.i*10+9<x_1.p.n*10/\cP (Nat.beq (x_1.i*10+9) (x_1.i*10+(1+x_1.k*1))) (∃z:Int,some (Value.bool false)=some (Value.int .i64 z)/\arn z x_1 x) (∃z:Int,getElem? (gX x_1.p (x_1.i*10+9)) 0=some (Value.int .i64 z)/\arn z x_1 x)
theorem ahq(x:fP):ahp x=wpF Tryz.prog aut tt (noA x) 200 5 65 (ahf.args x) (hO 2 (flatP 1 (ahf.l x))) (λv h'=>endsPK 1 x v h' ahf.outs):=by kernel_rfl
def ofVC(x:fP):Prop:=
 ∃x_1:fP,Hd x_1.ok/\(0=0/\x_1.line=x.line/\True)/\yF x_1.p x.p/\ ∀y:Unit,True->x_1.i*10+0<x_1.p.n*10/\ ∃z:Int,getElem? (gX x_1.p (x_1.i*10+0)) 0=some (Value.int .i64 z)/\ ∃y_1:Unit,True/\(x.p.cls x.i=z/\true=true/\True)/\yF x.p x_1.p
theorem arp(x:fP):ofVC x=wpF Tryz.prog aut tt (noA x) 200 5 246 (ofP.args x) (hO 2 (flatP 1 (ofP.l x))) (λv h'=>endsPK 1 x v h' ofP.outs):=by kernel_rfl
theorem gK(c:Int):(c=0/\spn c=1/\ZPool.many c=8)\/(c=1/\spn c=2/\ZPool.many c=4)\/(c=2/\spn c=4/\ZPool.many c=2)\/(c=3/\spn c=8/\ZPool.many c=1)\/((c<0\/3<c)/\spn c=0/\ZPool.many c=0):=by
 have:=dU c;unfold ZPool.many;rcases this with h|h|h|h|h<;>obtain⟨h1,h2,_⟩:=h<;>rw[h2]<;>simp[h1]
theorem yI{c:Int}(h:0<=c/\c<=3):Int.tdiv 8 (spn c)=ZPool.many c/\spn c≠0/\1<=ZPool.many c/\ZPool.many c<=8:=by
 rcases gK c with h'|h'|h'|h'|h'<;>obtain⟨h1,h2,h3⟩:=h'<;>first|(rw[h2,h3];decide)|omega
theorem VJ(n:Nat)(hn:1<=n/\n<=32):ahi n:=by
 unfold ahi;simp only[aas,nY,yH];simp only[aZ,aV,aU,aA,aI,bU,bG,aO,aK,ay,aX,aW,bV,bH,bJ,bK,bW,bC,bM,bn,eY,aH,aN,ah,ak,aB,aF,aC,aG];refine bf (λh=>absurd (aS h) (by omega)) λ_=>⟨by unfold I64;omega,by decide,by unfold I64;omega,bf (λh=>absurd (aS h) (by omega)) λ_=>⟨by omega,⟨0,by omega,rfl,λq j hq hj=> ?_⟩,λs hs=>bf (λh=> ?_) λh=> ?_⟩⟩
 ·rw[kL,show(q*10+j)%10=j by omega]
  simp only[gI,Nat.not_lt_zero,if_false]
  match j,hj with
  |0,_|1,_|2,_|3,_|4,_|5,_|6,_|7,_|8,_|9,_=>exact⟨_,rfl,rfl⟩
 ·have h:=aS h
  refine⟨by omega,by omega,by unfold I64;omega,s+1,by omega,by omega,by omega,λq hq=> ?_⟩;simp only[Cs.eff,bY,dA,dD,dK,<-Bool.decide_and,kL,gI];grind
 ·have:s=n:=by have:=aT h;omega
  subst this;exactλq _=>rfl
theorem VK(x:yC)(hx:x.p.ok/\x.i<x.p.n/\0<=x.p.cls x.i):ahj x:=by
 obtain⟨⟨h1,h2,h3⟩,hi,hc⟩:=hx;obtain⟨m1,m2,m3,m4⟩:=yI ⟨hc,(h3 _ hi).2.1⟩;unfold ahj;simp only[aar,yE,yG,Qu,Qw,yH];simp only[aZ,aV,aU,aA,aI,bU,bG,aO,aK,ay,aX,aW,bV,bH,bJ,bK,bW,bC,bM,bn,eY,aH,aN,ah,ak,aB,aF,aC,aG];refine⟨by omega,x.p.cls x.i,?_,m2,by rw[m1];unfold I64;omega,⟨0,⟨Nat.zero_le _,λj hj=>absurd hj (Nat.not_lt_zero j)⟩,Int.natCast_zero⟩,λs hs=> ?_⟩
 ·rw[kL,show x.i*10%10=0 by omega,show x.i*10/10=x.i by omega];rfl
 rw[m1];refine bf (λh=> ?_) λh=> ?_
 ·have h:=aS h
  refine⟨by omega,by omega,x.p.tk x.i s,?_,bf (λhb=> .inl ⟨s,⟨by omega,by simpa using hb,hs.2⟩,rfl⟩) λhb=>⟨by unfold I64;omega,s+1,⟨by omega,λj hj=> ?_⟩,by omega,by omega⟩⟩
  ·rw[kL]
   simp only[show(x.i*10+(1+s*1))%10=1+s by omega,show(x.i*10+(1+s*1))/10=x.i by omega];rw[if_neg (by omega),if_neg (by omega),show 1+s-1=s by omega];rfl
  ·by_cases e:j=s
   ·subst e;simpa using hb
   ·exact hs.2 j (by omega)
 ·have h:=aT h
  exact .inr λk hk=>hs.2 k (by omega)
theorem Di(p:ZPool)(i:Nat):gX p (i*10)=[.int .i64 (p.cls i)]:=by
 rw[kL,show i*10%10=0 by omega,show i*10/10=i by omega];rfl
theorem aat(p:ZPool)(i:Nat):gX p (i*10+9)=[.int .i64 (p.cnt i)]:=by
 rw[kL,show(i*10+9)%10=9 by omega,show(i*10+9)/10=i by omega];rfl
theorem arq(p:ZPool)(i k:Nat)(h:k<8):gX p (i*10+(1+k*1))=[.bool (p.tk i k)]:=by
 rw[kL];simp only[show(i*10+(1+k*1))%10=1+k by omega,show(i*10+(1+k*1))/10=i by omega];rw[if_neg (by omega),if_neg (by omega),show 1+k-1=k by omega]
theorem VL(x:lH)(hx:x.p.ok/\spn x.c≠0):ahl x:=by
 obtain⟨⟨h1,h2,h3⟩,hz⟩:=hx;have hcc:0<=x.c/\x.c<=3:=by rcases dU x.c with h|h|h|h|h<;>omega
 obtain⟨m1,m2,m3,m4⟩:=yI hcc;unfold ahl;simp only[Qv,Qs,G6,Qu,IW,nY,Qw,yH,aap,qI,yE];simp only[aZ,aV,aU,aA,aI,bU,bG,aO,aK,ay,aX,aW,bV,bH,bJ,bK,bW,bC,bM,bn,eY,aH,aN,ah,ak,aB,aF,aC,aG];refine⟨⟨0,⟨Nat.zero_le _,λj hj=>absurd hj (Nat.not_lt_zero j)⟩,Int.natCast_zero⟩,λs hs=>bf (λh=> ?_) λh=>⟨⟨0,⟨Nat.zero_le _,λj hj=>hs.2 j (by have:=aT h;omega),λj hj=>absurd hj (Nat.not_lt_zero j)⟩,Int.natCast_zero⟩,λt ht=>bf (λh2=> ?_) λh2=> ?_⟩⟩
 ·have h:=aS h
  refine⟨by omega,by omega,x.p.cls s,by rw[Di];rfl,bf (λhe=> ?_) λhe=>⟨by unfold I64;omega,s+1,⟨by omega,λj hj=> ?_⟩,by omega,by omega⟩⟩
  ·have he:=beq_iff_eq.1 he
   refine⟨⟨x.p,s⟩,⟨⟨h1,h2,h3⟩,(show s<x.p.n by omega),(show 0<=x.p.cls s by omega)⟩,rfl,⟨rfl,λ_ _=>rfl⟩,λy hy=> .inr ⟨(s,y),?_,⟨rfl,rfl⟩,rfl,λ_ _=>rfl⟩,λhall=>⟨by unfold I64;omega,s+1,⟨by omega,λj hj=> ?_⟩,by omega,by omega,rfl,λ_ _=>rfl⟩⟩
   ·obtain⟨y1,y2,y3⟩:=hy
    simp only[he]at y1;exact⟨by show s<x.p.n;omega,y1,by show x.p.tk s y=_;rw[if_pos he];exact y2,.inl ⟨he,y3,hs.2⟩⟩
   ·by_cases e:j=s
    ·subst e;intro _ k hk;exact hall k (by simp only[he];exact hk)
    ·exact hs.2 j (by omega)
  ·by_cases e:j=s
   ·subst e;intro h';simp[h']at he
   ·exact hs.2 j (by omega)
 ·have h2:=aS h2
  refine⟨by omega,by omega,x.p.cls t,by rw[Di];rfl,bf (λhe=> ?_) λhe=>⟨by unfold I64;omega,t+1,⟨by omega,ht.2.1,λj hj=> ?_⟩,by omega,by omega⟩⟩
  ·have he:=beq_iff_eq.1 he
   exact .inr ⟨(t,0),⟨by show t<x.p.n;omega,m3,by show x.p.tk t 0=_;rw[if_neg (by show¬x.p.cls t=x.c;omega)],.inr ⟨he,rfl,ht.2.1,ht.2.2⟩⟩,rfl,rfl⟩
  ·by_cases e:j=t
   ·subst e;intro h';simp[h']at he
   ·exact ht.2.2 j (by omega)
 ·have h2:=aT h2
  exact .inl λi hi=>⟨ht.2.2 i (by omega),ht.2.1 i hi⟩
theorem Qy(x:EF)(hx:x.p.ok/\x.i<x.p.n/\x.k<8):VI x:=by
 obtain⟨⟨h1,h2,h3⟩,hi,hk⟩:=hx;have:=h3 _ hi;unfold VI;simp only[yG,aao];simp only[aZ,aV,aU,aA,aI,bU,bG,aO,aK,ay,aX,aW,bV,bH,bJ,bK,bW,bC,bM,bn,eY,aH,aN,ah,ak,aB,aF,aC,aG];refine⟨by omega,by omega,by omega,by omega,bf (λh=> ?_) λ_=>bf (λh=> ?_) λ_=>⟨x.p.cnt x.i,by rw[aat];rfl,by unfold I64;omega,by omega,λq hq=> ?_⟩⟩
 ·have:=au h;omega
 ·have:=au h;omega
 ·simp only[Cs.eff,bY,dA,dD,dK,<-Bool.decide_and,kL,ZPool.take];grind (splits:=30)
theorem VN(x:lH)(hx:x.p.ok):ahn x:=by
 unfold ahn;simp only[qI,aaq,nY,yF,IW,yD,G6,ahg,yE];simp only[aZ,aV,aU,aA,aI,bU,bG,aO,aK,ay,aX,aW,bV,bH,bJ,bK,bW,bC,bM,bn,eY,aH,aN,ah,ak,aB,aF,aC,aG];refine bf (λh=> .inl (by simpa using h)) λh=> ?_
 have hz:spn x.c≠0:=by simpa using h
 have hcc:0<=x.c/\x.c<=3:=by rcases dU x.c with h|h|h|h|h<;>omega
 obtain⟨m1,m2,m3,m4⟩:=yI hcc;obtain⟨h1,h2,h3⟩:=id hx;refine⟨x,⟨hx,hz⟩,rfl,⟨rfl,rfl,λ_ _=>rfl⟩,λhf=> .inr (.inl ⟨⟨hz,hf⟩,rfl,rfl,λ_ _=>rfl⟩),λy hy=> ?_⟩;obtain⟨i,k⟩:=y;obtain⟨t1,t2,t3⟩:=id hy;simp only at t1 t2 ⊢;have hsl:(if (i:Int)<0\/32<=(i:Int)then(-1:Int)else 2+i*8)=2+i*8:=if_neg (by omega);have hks:0<=(k:Int)*spn x.c/\(k:Int)*spn x.c<=64:=by
  have hs:0<=spn x.c/\spn x.c<=8:=by rcases dU x.c with h|h|h|h|h<;>omega
  exact⟨Int.mul_nonneg (by omega) hs.1,by have:=Int.mul_le_mul (show(k:Int)<=8 by omega) hs.2 hs.1 (by omega:(0:Int)<=8);omega⟩
 rw[hsl];refine⟨by omega,⟨x.p,x.c,i,k⟩,⟨hx,t1,(show k<8 by omega)⟩,⟨rfl,rfl,rfl⟩,⟨rfl,λ_ _=>rfl⟩,by unfold I64;omega,by unfold I64;omega,.inr (.inr ⟨(i,k),⟨hz,hy⟩,?_⟩)⟩;simp
theorem amC{x:fP}(hx:x.ok):slb x.line=x.i/\2<=x.line/\x.line<258:=by
 obtain⟨⟨h1,h2,h3⟩,hi,hc,hk,ht⟩:=hx;unfold slb fP.line;rcases gK (x.p.cls x.i)with h|h|h|h|h<;>obtain⟨e1,e2,e3⟩:=h<;>rw[e2]<;>rw[e3]at hk<;>first|omega|(rw[if_neg (by omega)];omega)
theorem ahr(x:fP)(hx:x.ok):atVC x:=by
 obtain⟨l1,l2,l3⟩:=amC hx;obtain⟨⟨h1,h2,h3⟩,hi,hc,hk,ht⟩:=id hx;obtain⟨m1,m2,m3,m4⟩:=yI ⟨hc,(h3 _ hi).2.1⟩;have h8:(8/spn (x.p.cls x.i)).toNat=ZPool.many (x.p.cls x.i):=rfl;have hs:0<spn (x.p.cls x.i):=by rcases gK (x.p.cls x.i)with h|h|h|h|h<;>omega
 have hl:x.line=2+x.i*8+x.k*spn (x.p.cls x.i):=rfl;have inj: ∀j:Nat,2+(x.i:Int)*8+(j:Int)*spn (x.p.cls x.i)=x.line->j=x.k:=λj hj=>by
  have:(j:Int)*spn (x.p.cls x.i)=(x.k:Int)*spn (x.p.cls x.i):=by omega
  have:=Int.eq_of_mul_eq_mul_right (by omega) this;omega
 unfold atVC;simp only[ahh,yG,yE,qI,nY];simp only[aZ,aV,aU,aA,aI,bU,bG,aO,aK,ay,aX,aW,bV,bH,bJ,bK,bW,bC,bM,bn,eY,aH,aN,ah,ak,aB,aF,aC,aG,l1];refine bf (λh=>absurd (aS h) (by omega)) λ_=>bf (λh=>absurd (aS h) (by omega)) λ_=>⟨by omega,by omega,x.p.cls x.i,by rw[Di];rfl,⟨x.i,x.p.cls x.i⟩,(show x.i<32 by omega),⟨rfl,rfl⟩,λh=>absurd h m2,λ_=>⟨⟨λq=>2+(x.i:Int)*8+q*spn (x.p.cls x.i),ZPool.many (x.p.cls x.i),x.line⟩,(show ZPool.many (x.p.cls x.i)<1000 by omega),⟨rfl,rfl⟩,⟨rfl,λ_ _=>rfl⟩,λy hy=> ?_,λhno=>absurd hl.symm (hno x.k hk)⟩⟩
 obtain⟨y1,y2,_⟩:=hy;have:=inj y y2;subst this;exact⟨by omega,by omega,true,by rw[arq _ _ _ (by omega),ht];rfl,rfl,rfl⟩
theorem VO(x:fP)(hx:x.ok):ahp x:=by
 obtain⟨⟨h1,h2,h3⟩,hi,hc,hk,ht⟩:=id hx;obtain⟨m1,m2,m3,m4⟩:=yI ⟨hc,(h3 _ hi).2.1⟩;have:=h3 _ hi;have n1:(x.i*10+9).beq (x.i*10+(1+x.k*1))=false:=fC (by omega);unfold ahp;simp only[yF,yG,arn,amB,yD,G6];simp only[aZ,aV,aU,aA,aI,bU,bG,aO,aK,ay,aX,aW,bV,bH,bJ,bK,bW,bC,bM,bn,eY,aH,aN,ah,ak,aB,aF,aC,aG];refine⟨x,hx,rfl,⟨rfl,rfl,λ_ _=>rfl⟩,?_⟩;simp only[n1,Nat.beq_refl,kQ,iE,aU];refine⟨by omega,by omega,by omega,x.p.cnt x.i,by rw[aat];rfl,by unfold I64;omega,by omega,by omega,bf (λhb=>⟨by omega,λq hq=> ?_⟩) λhb q hq=> ?_⟩
 ·have hb:=beq_iff_eq.1 hb
  simp only[Cs.eff,bY,dA,dD,dK,<-Bool.decide_and,kL,ZPool.give];grind (splits:=30)
 ·have hb:x.p.cnt x.i-1≠0:=λh=>by simp[h]at hb
  simp only[Cs.eff,bY,dA,dD,dK,<-Bool.decide_and,kL,ZPool.give];grind (splits:=30)
theorem ahs(x:fP)(hx:x.ok):ofVC x:=by
 obtain⟨⟨h1,h2,h3⟩,hi,hc,hk,ht⟩:=id hx;unfold ofVC;simp only[yF,yD,G6];simp only[aZ,aV,aU,aA,aI,bU,bG,aO,aK,ay,aX,aW,bV,bH,bJ,bK,bW,bC,bM,bn,eY,aH,aN,ah,ak,aB,aF,aC,aG];exact⟨x,hx,rfl,⟨rfl,rfl,λ_ _=>rfl⟩,by omega,x.p.cls x.i,by rw[Di];rfl,rfl,rfl,rfl,λ_ _=>rfl⟩
theorem ars:cO Tryz.prog 276 VG:=iP dG mixed (.cons (bP mQ) .nil) apx 200 5 (λ_=>rfl) (λ_=>⟨λ_=>rfl,λ_=>rfl,trivial⟩) λx hx=>Eq.mp (ahk x) (VK x (aZ.1 hx))
theorem find_ok:cO Tryz.prog 242 VH:=iP dG mixed (.cons (bP ars) .nil) apy 200 5 (λ_=>rfl) (λ_=>⟨λ_=>rfl,λ_=>rfl,trivial⟩) λx hx=>Eq.mp (ahm x) (VL x (aZ.1 hx))
theorem amD:cO Tryz.prog 243 EG:=dM dG mixed .nil noA 200 5 (λ_=>rfl) (λ_=>rfl) λx hx=>Eq.mp (acQ x) (Qy x (aZ.1 hx))
theorem auu:cO Tryz.prog 116 atC:=dM dG mixed (.cons (bP mQ) (.cons (bP ahc) (.cons (bP ahd) (.cons (bP aus) .nil)))) noA 200 5 (λ_=>rfl) (λ_=>rfl) λx hx=>Eq.mp (aro x) (ahr x (aZ.1 hx))
theorem aru:cO Tryz.prog 202 ahe.ctr:=dh dG mixed (.cons (bP mQ) (.cons (bP ahb) (.cons (bP find_ok) (.cons (bP amD) .nil)))) 2 noA 200 5 (λ_=>⟨rfl,rfl,rfl,rfl⟩) λx hx=>Eq.mp (aho x) (VN x (aZ.1 hx))
theorem arv:cO Tryz.prog 65 ahf.ctr:=dh dG mixed (.cons (bP auu) .nil) 2 noA 200 5 (λ_=>⟨rfl,rfl,rfl,rfl⟩) λx hx=>Eq.mp (ahq x) (VO x (aZ.1 hx))
theorem auv:cO Tryz.prog 246 ofP.ctr:=dh dG mixed (.cons (bP auu) .nil) 2 noA 200 5 (λ_=>⟨rfl,rfl,rfl,rfl⟩) λx hx=>Eq.mp (arp x) (ahs x (aZ.1 hx))
structure ZRd where
 t:Nat
 now:Int
 has:Nat->Int
namespace ZRd
def ok(r:ZRd):Prop:=1<=r.t/\r.t<=4/\1<=r.now/\r.now<4611686018427387904
def os(r:ZRd):List dF:=[.cells 149 (.av [u64 r.now,.slE 1 0 1 r.t r.t]),.cells 111 (.row 1 r.t (λk=>[.int .u64 (r.has k)]) [])]
def put(r:ZRd)(k:Nat)(v:Int):ZRd:={r with has:=λj=>if j=k then v else r.has j}
end ZRd
def aht(t:Nat):ZRd:=⟨t,1,λ_=>0⟩
structure ZRdT where
 r:ZRd
 k:Nat
def Qz:iW:={X:=ZRdT,args:=λx=>[.ptr 0 0,i64 x.k],k:=1,l:=λx=>[.m x.r.os],pre:=λx=>Hd (x.r.ok/\x.k<x.r.t),outs:=[
 {Y:=Unit,post:=λx _=>Hd (x.r.has x.k=0),ret:=λx _=> .tup [u64 x.r.now,i64 0],m:=1,l:=λx _=>[.m (x.r.put x.k x.r.now).os]},
 {Y:=Unit,post:=λx _=>Hd (x.r.has x.k≠0),ret:=λ_ _=> .tup [u64 0,i64 7],m:=1,l:=λx _=>[.m x.r.os]}]}
def QA:iW:=oJ ZRdT (λx=>[.ptr 0 0,i64 x.k]) 1 (λx=>[.m x.r.os]) (λx=>Hd (x.r.ok/\x.k<x.r.t)) (λx=>i64 (if x.r.has x.k=0 then 12 else 0)) 1 (λx=>[.m (x.r.put x.k 0).os])
def auw:iW:=oJ ZRd (λ_=>[.ptr 0 0]) 1 (λr=>[.m r.os]) (λr=>Hd r.ok) (λr=>u64 r.now) 1 (λr=>[.m r.os])
def oK(ph:Nat):iW:=oJ vW (λx=>[.ptr 0 0,i64 x.t,i64 x.l]) 1 (λx=>[.m (x.c.os ph)]) (λx=>Hd (x.c.ok/\x.t<x.c.t)) (λx=>i64 (if 0<=x.l/\x.l<258 then 0 else 2)) 1 (λx=>[.m ((x.c.note x.t x.l).os ph)])
def oL(ph:Nat):iW:=oJ eU (λ_=>[.ptr 0 0]) 1 (λc=>[.m (c.os ph)]) (λc=>Hd c.ok) (λc=>u64 c.now) 1 (λc=>[.m (c.os ph)])
def oM(ph:Nat):iW:=oJ eU (λ_=>[.ptr 0 0]) 1 (λc=>[.m (c.os ph)]) (λc=>Hd c.ok) (λc=> .slW 1 0 1 c.t) 2 (λc=>[.m (c.os ph),.o (.room 3 (.row 1 c.t (λk=>[.int .i64 (c.o k)]) []))])
noncomputable def IX:iW:=oJ lD (λx=>[.ptr 0 0,i64 x.k,i64 x.a,x.b.av 1]) 2 (λx=>[.m x.d.os,.o x.b.ro]) (λx=>Hd (x.d.ok/\x.k<x.d.n/\x.b.ok/\x.a+x.b.n<=64)) (λ_=>i64 0) 2 (λx=>[.m (x.d.store x.k x.a x.b.n (λq=>x.b.g (x.b.q+q))).os,.o x.b.ro])
noncomputable def ahu:iW:=oJ Qh (λx=>[.ptr 0 0,i64 x.k]) 1 (λx=>[.m x.d.os]) (λx=>Hd (x.d.ok/\x.k<x.d.n)) (λ_=> .tup [.slW 1 0 1 64,i64 0]) 2 (λx=>[.m x.d.os,.o (.room 5 (rowB (λq=>x.d.b (x.k*193+q)) 64))])
def lI(a:Nat):Prop:=a=a/\a=a
def ahv(a:eU):Prop:=a.now=a.now/\a.dur=a.dur/\a.jr=a.jr/\(0=0/\lI a.t)/\True
def ahw(a:eU):Prop:=(258=258/\ ∀q:Nat,q<258->[Value.bool (a.L q)]=[Value.bool (a.L q)])/\Value.nilFunc=Value.nilFunc/\True
def auy(a:vW):Prop:=(ahv a.c/\(258=258/\ ∀q:Nat,q<258->[Value.bool (Bool.or (a.c.N q) (decide (a.l=(q:Int))))]=[Value.bool (a.c.N q)])/\ahw a.c)/\(a.c.t=a.c.t/\ ∀q:Nat,q<a.c.t->[Value.int .i64 (ite (q=a.t/\0<=a.l/\a.l<258) (a.c.o q+1) (a.c.o q))]=[Value.int .i64 (a.c.o q)])/\True
def KG(a:ZRd):Prop:=a.now=a.now/\(0=0/\lI a.t)/\True
def ahx(a:ZRd):Prop:=KG a/\(a.t=a.t/\ ∀q:Nat,q<a.t->[Value.int .u64 (a.has q)]=[Value.int .u64 (a.has q)])/\True
def auz(a:vW):Prop:= ∃y:Unit,True/\ite (0<=a.l/\a.l<258) (0:Int) (2:Int)=2/\auy a
def aau(a:Bys):Prop:=rowB a.g a.N=rowB a.g a.N/\true=true
def IY(a:DevM):Prop:=a.fl=a.fl/\a.fe=a.fe/\a.ba=a.ba/\a.cu=a.cu/\True
def ahy(a:lD):Prop:= ∃y:Unit,True/\(0:Int)=2/\((0=0/\lI a.d.n)/\a.d.st+1=a.d.st/\IY a.d)/\aau a.b/\(a.d.n*193=a.d.n*193/\ ∀q:Nat,q<a.d.n*193->Cs.eff (gB (a.d.store a.k a.a a.b.n (λ(q_1:Nat)=>a.b.g (a.b.q+q_1)))) [] q=Cs.eff (gB a.d) [] q)/\True
def ahz(a:ZRdT):Prop:=KG a.r/\(a.r.t=a.r.t/\ ∀q:Nat,q<a.r.t->[Value.int .u64 (ite (q=a.k) (0:Int) (a.r.has q))]=Cs.eff (λ(k:Nat)=>[Value.int .u64 (a.r.has k)]) [(0+a.k,[Value.int .u64 0])] q)/\True
def QB(a:eU):Prop:=ahv a/\(258=258/\ ∀q:Nat,q<258->[Value.bool (a.N q)]=[Value.bool (a.N q)])/\ahw a
def QC(a:eU):Prop:=(a.t=a.t/\ ∀q:Nat,q<a.t->[Value.int .i64 (a.o q)]=[Value.int .i64 (a.o q)])/\True
def ahA(a:ZRdT):Prop:=KG a.r/\(a.r.t=a.r.t/\ ∀q:Nat,q<a.r.t->[Value.int .u64 (ite (q=a.k) a.r.now (a.r.has q))]=[Value.int .u64 (a.r.has q)])/\True
def ahB(a:Bys)(b:Nat):Prop:=(Nat.beq (List.length [Value.int .u8 (a.g (a.q+b))]) 1&&List.all [Value.int .u8 (a.g (a.q+b))] Value.oneCell')=true
def aav:Prop:= ∃y:Unit,True/\(False/\(0:Int)=2/\True)/\False/\False/\True
def aaw(a:ZRdT):Prop:=0<=(a.k:Int)/\(a.k:Int)<(a.r.t:Int)
def ahC(t:Nat):Prop:=
 cP (decide ((t:Int)<1)) aav (cP (decide ((t:Int)>(4:Int))) aav ((0<=(t:Int)/\(t:Int)<=(t:Int)/\8*(t:Int)<=281474976710656/\(t:Int)<4611686018427387904)/\ ∃y:Unit,True/\(0=0/\(0:Int)=0/\True)/\((1:Int)=1/\(0=0/\lI t)/\True)/\(t=t/\ ∀q:Nat,q<t->[Value.int .u64 0]=[Value.int .u64 0])/\True))
def VP(x:ZRdT):Prop:=
 cP (decide ((x.k:Int)>=(x.r.t:Int))) ((∃y:Unit,Hd (x.r.has x.k=0)/\(x.r.now=0/\(0:Int)=1/\True)/\ahA x)\/ ∃y:Unit,Hd (x.r.has x.k≠(0:Int))/\((0:Int)=0/\(7:Int)=1/\True)/\ahx x.r) (aaw x/\0+x.k<x.r.t/\cP (decide (x.r.has (0+x.k)=0)) (0+x.k<x.r.t/\((∃y:Unit,Hd (x.r.has x.k=0)/\(x.r.now=x.r.now/\(0:Int)=0/\True)/\KG x.r/\(x.r.t=x.r.t/\ ∀q:Nat,q<x.r.t->[Value.int .u64 (ite (q=x.k) x.r.now (x.r.has q))]=Cs.eff (λ(k:Nat)=>[Value.int .u64 (x.r.has k)]) [(0+x.k,[Value.int .u64 x.r.now])] q)/\True)\/ ∃y:Unit,Hd (x.r.has x.k≠(0:Int))/\(0=x.r.now/\(7:Int)=0/\True)/\KG x.r/\(x.r.t=x.r.t/\ ∀q:Nat,q<x.r.t->[Value.int .u64 (x.r.has q)]=Cs.eff (λ(k:Nat)=>[Value.int .u64 (x.r.has k)]) [(0+x.k,[Value.int .u64 x.r.now])] q)/\True)) (0+x.k<x.r.t/\((∃y:Unit,Hd (x.r.has x.k=0)/\(x.r.now=0/\(0:Int)=7/\True)/\ahA x)\/ ∃y:Unit,Hd (x.r.has x.k≠(0:Int))/\((0:Int)=0/\(7:Int)=7/\True)/\ahx x.r)))
theorem acR(x:ZRdT):VP x=wpF Tryz.prog nU tt (noA x) 200 5 199 (Qz.args x) (hO 2 (flatP 1 (Qz.l x))) (λv h'=>endsPK 1 x v h' Qz.outs):=by kernel_rfl
def VQ(x:ZRdT):Prop:=
 cP (decide ((x.k:Int)>=(x.r.t:Int))) (∃y:Unit,True/\ite (x.r.has x.k=0) (12:Int) (0:Int)=1/\KG x.r/\(x.r.t=x.r.t/\ ∀q:Nat,q<x.r.t->[Value.int .u64 (ite (q=x.k) (0:Int) (x.r.has q))]=[Value.int .u64 (x.r.has q)])/\True) (aaw x/\0+x.k<x.r.t/\0+x.k<x.r.t/\cP (BEq.beq (x.r.has (0+x.k)) (0:Int)) (∃y:Unit,True/\ite (x.r.has x.k=0) (12:Int) (0:Int)=12/\ahz x) (∃y:Unit,True/\ite (x.r.has x.k=0) (12:Int) (0:Int)=0/\ahz x))
theorem acS(x:ZRdT):VQ x=wpF Tryz.prog nU tt (noA x) 200 5 211 (QA.args x) (hO 2 (flatP 1 (QA.l x))) (λv h'=>endsPK 1 x v h' QA.outs):=by kernel_rfl
def arw(x:ZRd):Prop:=
 ∃y:Unit,True/\x.now=x.now/\ahx x
theorem amE(x:ZRd):arw x=wpF Tryz.prog nU tt (noA x) 200 5 67 (auw.args x) (hO 2 (flatP 1 (auw.l x))) (λv h'=>endsPK 1 x v h' auw.outs):=by kernel_rfl
def ahD(x:vW):Prop:=
 cP (decide ((x.t:Int)>=(x.c.t:Int))) (∃y:Unit,True/\ite (0<=x.l/\x.l<258) (0:Int) (2:Int)=1/\auy x) (cP (decide (x.l<0)) (auz x) (cP (decide (x.l>=(258:Int))) (auz x) ((0<=(x.t:Int)/\(x.t:Int)<(x.c.t:Int))/\0+x.t<x.c.t/\I64 (x.c.o (0+x.t)+1)/\(0<=(x.t:Int)/\(x.t:Int)<(x.c.t:Int))/\0+x.t<x.c.t/\(0<=x.l/\x.l<258)/\Int.toNat x.l<258/\ ∃y:Unit,True/\ite (0<=x.l/\x.l<258) (0:Int) (2:Int)=0/\(ahv x.c/\(258=258/\ ∀q:Nat,q<258->[Value.bool (Bool.or (x.c.N q) (decide (x.l=(q:Int))))]=Cs.eff (λ(k:Nat)=>[Value.bool (x.c.N k)]) [(Int.toNat x.l,[Value.bool true])] q)/\ahw x.c)/\(x.c.t=x.c.t/\ ∀q:Nat,q<x.c.t->[Value.int .i64 (ite (q=x.t/\0<=x.l/\x.l<258) (x.c.o q+1) (x.c.o q))]=Cs.eff (λ(k:Nat)=>[Value.int .i64 (x.c.o k)]) [(0+x.t,[Value.int .i64 (x.c.o (0+x.t)+1)])] q)/\True)))
theorem acT(x:vW):ahD x=wpF Tryz.prog nU tt (noA x) 200 5 64 ((oK 0).args x) (hO 2 (flatP 1 ((oK 0).l x))) (λv h'=>endsPK 1 x v h' (oK 0).outs):=by kernel_rfl
def VR(x:eU):Prop:=
 ∃y:Unit,True/\x.now=x.now/\QB x/\QC x
theorem acU(x:eU):VR x=wpF Tryz.prog nU tt (noA x) 200 5 45 ((oL 0).args x) (hO 2 (flatP 1 ((oL 0).l x))) (λv h'=>endsPK 1 x v h' (oL 0).outs):=by kernel_rfl
def VT(x:eU):Prop:=
 0+x.t<=x.t/\cP (Nat.beq x.t 0) (∃y:Unit,True/\(x.t=0/\0=0/\0=0)/\QB x/\(0=x.t*1/\ ∀q:Nat,q<x.t->[Value.int .i64 (x.o q)]=List.take 1 (List.drop (q*1) (@List.nil Value)))/\QC x) ((2*(0+x.t)+1000)*8<=281474976710656/\ ∃y:Unit,True/\(0=0/\x.t=0+x.t)/\QB x/\(x.t=0+x.t/\ ∀q:Nat,q<x.t->[Value.int .i64 (x.o q)]=[Value.int .i64 (x.o (0+(q-0)))])/\QC x)
theorem acV(x:eU):VT x=wpF Tryz.prog nU tt (noA x) 200 5 204 ((oM 0).args x) (hO 2 (flatP 1 ((oM 0).l x))) (λv h'=>endsPK 1 x v h' (oM 0).outs):=by kernel_rfl
def KH(x:lD):Prop:=
 cP (decide ((x.k:Int)>=(x.d.n:Int))) (ahy x) (I64 (64-(x.b.n:Int))/\cP (decide ((x.a:Int)>64-(x.b.n:Int))) (ahy x) ((0<=(x.k:Int)/\(x.k:Int)<(x.d.n:Int))/\0<=(x.a:Int)/\(x.a<=64/\64<=64/\64<=64)/\(0+x.k)*193+0+x.a+(64-x.a)<=x.d.n*193/\cP (Nat.ble x.b.n (64-x.a)) (x.b.q+x.b.n<=x.b.N/\(∀k:Nat,k<x.b.n->ahB x.b k)/\I64 (x.d.st+1)/\ ∃y:Unit,True/\(0:Int)=0/\((0=0/\lI x.d.n)/\x.d.st+1=x.d.st+1/\IY x.d)/\aau x.b/\(x.d.n*193=x.d.n*193/\ ∀q:Nat,q<x.d.n*193->Cs.eff (gB (x.d.store x.k x.a x.b.n (λ(q_1:Nat)=>x.b.g (x.b.q+q_1)))) [] q=Cs.eff (λ(p:Nat)=>cond (Nat.ble ((0+x.k)*193+0+x.a) p&&Nat.blt p ((0+x.k)*193+0+x.a+x.b.n)) [Value.int .u8 (x.b.g (x.b.q+(p-((0+x.k)*193+0+x.a))))] (Cs.eff (gB x.d) [] p)) [] q)/\True) (x.b.q+(64-x.a)<=x.b.N/\(∀k:Nat,k<64-x.a->ahB x.b k)/\I64 (x.d.st+1)/\ ∃y:Unit,True/\(0:Int)=0/\((0=0/\lI x.d.n)/\x.d.st+1=x.d.st+1/\IY x.d)/\aau x.b/\(x.d.n*193=x.d.n*193/\ ∀q:Nat,q<x.d.n*193->Cs.eff (gB (x.d.store x.k x.a x.b.n (λ(q_1:Nat)=>x.b.g (x.b.q+q_1)))) [] q=Cs.eff (λ(p:Nat)=>cond (Nat.ble ((0+x.k)*193+0+x.a) p&&Nat.blt p ((0+x.k)*193+0+x.a+(64-x.a))) [Value.int .u8 (x.b.g (x.b.q+(p-((0+x.k)*193+0+x.a))))] (Cs.eff (gB x.d) [] p)) [] q)/\True)))
theorem VU(x:lD):KH x=wpF Tryz.prog nU tt (noA x) 200 5 62 (IX.args x) (hO 3 (flatP 2 (IX.l x))) (λv h'=>endsPK 2 x v h' IX.outs):=by kernel_rfl
def ahE(x:Qh):Prop:=
 cP (decide ((x.k:Int)>=(x.d.n:Int))) (∃y:Unit,True/\False) (I64 (64:Int)/\(0<=(x.k:Int)/\(x.k:Int)<(x.d.n:Int))/\(0<=64/\64<=64/\64<=64)/\(0+x.k)*193+0+0+64<=x.d.n*193/\(2*(0+64)+1000)*1<=281474976710656/\ ∃y:Unit,True/\((0=0/\64=0+64)/\(0:Int)=0/\True)/\((0=0/\lI x.d.n)/\x.d.st=x.d.st/\IY x.d)/\(64=64/\ ∀q:Nat,q<64->[Value.int .u8 (x.d.b (x.k*193+q))]=Cs.eff (λ(q_1:Nat)=>cond (Nat.blt q_1 0) (@List.nil Value) (Cs.eff (gB x.d) [] ((0+x.k)*193+0+0+(q_1-0)))) [] q)/\(x.d.n*193=x.d.n*193/\ ∀q:Nat,q<x.d.n*193->Cs.eff (gB x.d) [] q=Cs.eff (gB x.d) [] q)/\True)
theorem ahF(x:Qh):ahE x=wpF Tryz.prog nU tt (noA x) 200 5 181 (ahu.args x) (hO 2 (flatP 1 (ahu.l x))) (λv h'=>endsPK 1 x v h' ahu.outs):=by kernel_rfl
theorem VW(x:Nat)(hx:1<=x/\x<=4):ahC x:=by
 unfold ahC;simp only[aav,lI];simp only[aZ,aV,aU,aA,aI,bU,bG,aO,aK,ay,aX,aW,bV,bH,bJ,bK,bW,bC,bM,bn,eY,aH,aN,ah,ak,aB,aF,aC,aG];exact bf (λh=>absurd (aS h) (by omega)) λ_=>bf (λh=>absurd (aS h) (by omega)) λ_=>by omega
theorem ahG(f:Nat->Int)(k:Nat)(v:Int)(q:Nat):[Value.int .u64 (if q=k then v else f q)]=Cs.eff (λk=>[Value.int .u64 (f k)]) [(k,[Value.int .u64 v])] q:=by
 simp only[Cs.eff,bY,dA,dD,dK,<-Bool.decide_and];by_cases h:q=k
 ·rw[if_pos h,if_pos h]
 ·rw[if_neg h,if_neg h]
theorem QD(x:ZRdT)(hx:x.r.ok/\x.k<x.r.t):VP x:=by
 unfold VP;simp only[ahA,ahx,aaw,KG,lI];simp only[aZ,aV,aU,aA,aI,bU,bG,aO,aK,ay,aX,aW,bV,bH,bJ,bK,bW,bC,bM,bn,eY,aH,aN,ah,ak,aB,aF,aC,aG];refine bf (λh=>absurd (aS h) (by omega)) λ_=>⟨by omega,hx.2,bf (λh=>⟨hx.2,.inl ⟨aS h,λq _=>ahG _ _ _ _⟩⟩) λh=>⟨hx.2,.inr (aT h)⟩⟩
theorem QE(x:ZRdT)(hx:x.r.ok/\x.k<x.r.t):VQ x:=by
 unfold VQ;simp only[KG,aaw,ahz,lI];simp only[aZ,aV,aU,aA,aI,bU,bG,aO,aK,ay,aX,aW,bV,bH,bJ,bK,bW,bC,bM,bn,eY,aH,aN,ah,ak,aB,aF,aC,aG];refine bf (λh=>absurd (aS h) (by omega)) λ_=>⟨by omega,hx.2,hx.2,bf (λh=>⟨if_pos (beq_iff_eq.1 h),λq _=>ahG _ _ _ _⟩) λh=>⟨if_neg (λe=>by simp[e]at h),λq _=>ahG _ _ _ _⟩⟩
theorem acW(x:ZRd)(hx:x.ok):arw x:=by
 unfold arw;simp only[ahx,KG,lI];simp only[aZ,aV,aU,aA,aI,bU,bG,aO,aK,ay,aX,aW,bV,bH,bJ,bK,bW,bC,bM,bn,eY,aH,aN,ah,ak,aB,aF,aC,aG]
theorem QF(x:vW)(hx:x.c.ok/\x.t<x.c.t):ahD x:=Vw x hx
theorem QG(x:eU)(hx:x.ok):VR x:=by
 unfold VR;simp only[QB,QC,ahv,ahw,lI];simp only[aZ,aV,aU,aA,aI,bU,bG,aO,aK,ay,aX,aW,bV,bH,bJ,bK,bW,bC,bM,bn,eY,aH,aN,ah,ak,aB,aF,aC,aG]
theorem QH(x:eU)(hx:x.ok):VT x:=by
 have:=hx.1;have:=hx.2.1;unfold VT;simp only[QB,QC,ahv,ahw,lI];simp only[aZ,aV,aU,aA,aI,bU,bG,aO,aK,ay,aX,aW,bV,bH,bJ,bK,bW,bC,bM,bn,eY,aH,aN,ah,ak,aB,aF,aC,aG];exact⟨by omega,bf (λh=>absurd (au h) (by omega)) λ_=>by omega⟩
theorem KI(x:lD)(hx:x.d.ok/\x.k<x.d.n/\x.b.ok/\x.a+x.b.n<=64):KH x:=by
 have h:=BD x hx;unfold Kz at h;simp only[aml,aac,nV,Vj,lF,Qi,Vh,acF]at h;unfold KH;simp only[ahy,ahB,lI,IY,aau];simp only[aZ,aV,aU,aA,aI,bU,bG,aO,aK,ay,aX,aW,bV,bH,bJ,bK,bW,bC,bM,bn,eY,aH,aN,ah,ak,aB,aF,aC,aG]at h ⊢;exact h
theorem VX(x:Qh)(hx:x.d.ok/\x.k<x.d.n):ahE x:=by
 have:=hx.1.1;unfold ahE;simp only[lI,IY];simp only[aZ,aV,aU,aA,aI,bU,bG,aO,aK,ay,aX,aW,bV,bH,bJ,bK,bW,bC,bM,bn,eY,aH,aN,ah,ak,aB,aF,aC,aG];refine bf (λh=>absurd (aS h) (by omega)) λ_=>⟨by unfold I64;omega,by omega,by omega,by omega,by omega,λq hq=> ?_⟩
 rw[oI,show Nat.blt q 0=false by simp[bY],aQ,show(x.k*193+q)%193=q by omega,if_neg (by omega)]
theorem amF:cO Tryz.prog 199 Qz.ctr:=dh dG mixed dO 2 noA 200 5 (λ_=>⟨rfl,rfl,rfl,rfl⟩) λx hx=>Eq.mp (acR x) (QD x (aZ.1 hx))
theorem amG:cO Tryz.prog 211 QA.ctr:=dh dG mixed dO 2 noA 200 5 (λ_=>⟨rfl,rfl,rfl,rfl⟩) λx hx=>Eq.mp (acS x) (QE x (aZ.1 hx))
theorem auA:cO Tryz.prog 67 auw.ctr:=dh dG mixed dO 2 noA 200 5 (λ_=>⟨rfl,rfl,rfl,rfl⟩) λx hx=>Eq.mp (amE x) (acW x (aZ.1 hx))
theorem amH:cO Tryz.prog 64 (oK 0).ctr:=dh dG mixed dO 2 noA 200 5 (λ_=>⟨rfl,rfl,rfl,rfl⟩) λx hx=>Eq.mp (acT x) (QF x (aZ.1 hx))
theorem amI:cO Tryz.prog 45 (oL 0).ctr:=dh dG mixed dO 2 noA 200 5 (λ_=>⟨rfl,rfl,rfl,rfl⟩) λx hx=>Eq.mp (acU x) (QG x (aZ.1 hx))
theorem amJ:cO Tryz.prog 204 (oM 0).ctr:=dh dG mixed dO 2 noA 200 5 (λ_=>⟨rfl,rfl,rfl,rfl⟩) λx hx=>Eq.mp (acV x) (QH x (aZ.1 hx))
theorem QI:cO Tryz.prog 62 IX.ctr:=dh dG mixed dO 3 noA 200 5 (λ_=>⟨rfl,rfl,rfl,rfl⟩) λx hx=>Eq.mp (VU x) (KI x (aZ.1 hx))
theorem arx:cO Tryz.prog 181 ahu.ctr:=dh dG mixed dO 2 noA 200 5 (λ_=>⟨rfl,rfl,rfl,rfl⟩) λx hx=>Eq.mp (ahF x) (VX x (aZ.1 hx))
theorem jg{P:Program}{f:FuncId}{C:Ctr}(h: ∀x,C.pre x-> ∃D:Ctr,cO P f D/\D.k=C.k/\ ∃y:D.X,D.pre y/\D.args y=C.args x/\D.os y=C.os x/\ ∀v h',kP y v h' D.outs->kP x v h' C.outs):cO P f C:=λx hx=>by
 obtain⟨D,hD,hk,y,hp,ha,ho,hq⟩:=h x hx;obtain⟨h1,h2⟩:=hD y hp;rw[ho,hk]at h1;rw[ha,hk,ho]at h2;exact⟨h1,h2.mono hq⟩
structure gG where
 line:Int
 cls:Int
 r:Int
 d:Int
 anti:Int
namespace gG
def cs(e:gG):List Value:=[.int .i64 e.line,.int .i64 e.cls,.int .u64 e.r,.int .u64 e.d,.int .i64 e.anti]
def av(e:gG):AV:= .agg [i64 e.line,i64 e.cls,u64 e.r,u64 e.d,i64 e.anti]
def may(e:gG):Prop:=2<=e.line/\e.line<258/\0<=e.cls/\e.cls<=3/\ -1<=e.anti/\e.anti<258
end gG
structure iw where
 z:Bool
 n:Nat
 e:Nat->gG
namespace iw
def ok(b:iw):Prop:=b.n<=258/\(b.z=true->b.n=0)
def row(b:iw):Cs:= .row 5 b.n (λi=>(b.e i).cs) []
def osP(b:iw):List dF:=[.cells 183 (.av [.slW 1 0 5 b.n]),.room 70 b.row]
def osN:List dF:=[.cells 183 (.av [gQ])]
def os(b:iw):List dF:=bif b.z then osN else b.osP
def put(b:iw)(x:gG):iw:=if b.n<258 then⟨false,b.n+1,λi=>if i=b.n then x else b.e i⟩else b
end iw
structure Cj where
 b:iw
 x:gG
def rF(z:Bool):iW:=oJ Cj (λx=>[.ptr 0 0,x.x.av]) 1 (λx=>[.m (bif z then iw.osN else x.b.osP)]) (λx=>Hd (x.b.ok/\x.x.may/\x.b.z=z)) (λx=>i64 (if x.b.n<258 then 0 else 11)) 1 (λx=>[.m (x.b.put x.x).osP])
def KJ:iW:=oJ Unit (λ_=>[.ptr 0 0]) 1 (λ_=>[.m iw.osN]) (λ_=>Hd True) (λ_=>gQ) 1 (λ_=>[.m iw.osN])
def KL:iW:=oJ iw (λ_=>[.ptr 0 0]) 1 (λb=>[.m b.osP]) (λb=>Hd (b.ok/\b.z=false)) (λb=> .slW 1 0 5 b.n) 2 (λb=>[.m b.osP,.o (.room 70 b.row)])
structure ZLnk where
 key:ByteArray
 id:Int
 ver:Int
 line:Int
 cls:Int
namespace ZLnk
def cs(e:ZLnk):List Value:=[.string e.key,.int .u64 e.id,.int .u64 e.ver,.int .i64 e.line,.int .i64 e.cls]
def av(e:ZLnk):AV:= .agg [.lit (.string e.key),u64 e.id,u64 e.ver,i64 e.line,i64 e.cls]
end ZLnk
def iQ:ZLnk:=⟨⟨#[]⟩,0,0,0,0⟩
structure ZLn where
 len:Nat
 cap:Nat
 at_:Nat
 n:Nat
 e:Nat->ZLnk
namespace ZLn
def ok(l:ZLn):Prop:=l.cap<1099511627776/\l.len<=l.cap/\l.n<=l.len/\(l.len=0->l.at_=0)/\(l.len≠0->l.at_<l.len)
def row(l:ZLn):Cs:= .row 5 l.cap (λi=>(l.e i).cs) []
def osP(l:ZLn):List dF:=[.cells 127 (.av [.slE 1 0 5 l.len l.cap,i64 l.at_,i64 l.n]),.cells 41 l.row]
def osN:List dF:=[.cells 127 (.av [gQ,i64 0,i64 0])]
def os(l:ZLn):List dF:=bif Nat.beq l.len 0 then osN else l.osP
def get(l:ZLn)(i:Nat):ZLnk:=l.e ((l.at_+i)%l.len)
def push(l:ZLn)(x:ZLnk):ZLn:=if l.n=l.len then⟨l.n+1,2*l.n+1,0,l.n+1,λi=>if i<l.n then l.get i else if i=l.n then x else iQ⟩else⟨l.len,l.cap,l.at_,l.n+1,λi=>if i=(l.at_+l.n)%l.len then x else l.e i⟩
def pop(l:ZLn):ZLn:=if l.n=0 then l else⟨l.len,l.cap,(l.at_+1)%l.len,l.n-1,λi=>if i=l.at_ then iQ else l.e i⟩
def head(l:ZLn):ZLnk:=if l.n=0 then iQ else l.get 0
end ZLn
structure alh where
 l:ZLn
 x:ZLnk
def yJ:iW:=oJ ZLnk (λx=>[.ptr 0 0,x.av]) 1 (λ_=>[.m ZLn.osN]) (λ_=>Hd True) (λ_=> .tup []) 1 (λx=>[.m (ZLn.osP ⟨1,1,0,1,λi=>if i=0 then x else iQ⟩)])
def yK:iW:=oJ alh (λx=>[.ptr 0 0,x.x.av]) 1 (λx=>[.m x.l.osP]) (λx=>Hd (x.l.ok/\x.l.len≠0)) (λ_=> .tup []) 1 (λx=>[.m (x.l.push x.x).osP])
def Dj:iW:=oJ Unit (λ_=>[.ptr 0 0]) 1 (λ_=>[.m ZLn.osN]) (λ_=>Hd True) (λ_=> .tup [iQ.av,boo false]) 1 (λ_=>[.m ZLn.osN])
def Dk:iW:=oJ ZLn (λ_=>[.ptr 0 0]) 1 (λl=>[.m l.osP]) (λl=>Hd (l.ok/\l.len≠0)) (λl=> .tup [l.head.av,boo (decide (l.n≠0))]) 1 (λl=>[.m l.pop.osP])
def ZLn.all(l:ZLn)(i:Nat):Cs:= .row 5 i (λj=>(l.get j).cs) []
def Dl:iW:=oJ Unit (λ_=>[.ptr 0 0]) 1 (λ_=>[.m ZLn.osN]) (λ_=>Hd True) (λ_=>gQ) 1 (λ_=>[.m ZLn.osN])
def Dn:iW:={X:=ZLn,args:=λ_=>[.ptr 0 0],k:=1,l:=λl=>[.m l.osP],pre:=λl=>Hd (l.ok/\l.len≠0),outs:=[
 {Y:=Unit,post:=λl _=>Hd (l.n=0),ret:=λ_ _=>gQ,m:=1,l:=λl _=>[.m l.osP]},
 {Y:=Unit,post:=λl _=>Hd (l.n≠0),ret:=λl _=> .slW 1 0 5 l.n,m:=2,l:=λl _=>[.m l.osP,.o (.room 41 (l.all l.n))]}]}
def auB(l:ZLn):FuncId->qL:=λf=>bif Nat.beq f 123 then(λb _ _=>bif Nat.beq b 0 then [
 {σ:=Unit,fr:=λ_=>[(9,i64 0),(3,gQ)],ob:=λ_=>[],inv:=λ_=>Hd True,meas:=λ_=>l.n+1,test:=λfr _=>(match SE.look fr 3 with| .lit _=>true|_=>false)},
 {σ:=Nat,fr:=λi=>[(9,i64 i),(3,.slW 2 0 5 i)],ob:=λi=>[(2,some (.room 41 (l.all i)))],inv:=λi=>Hd (1<=i/\i<=l.n),meas:=λi=>l.n-i,nx:=1,test:=λfr _=>(match SE.look fr 3 with| .lit _=>false|_=>true)}]else [])elseλ_ _ _=>[]
def IZ(a:alh):Prop:=((ZLn.at_ (a.l.push a.x):Nat):Int)=0/\((ZLn.n (a.l.push a.x):Nat):Int)=(a.l.n:Int)+1/\True
def ahH(a:alh):Prop:=I64 ((a.l.n:Int)+1)/\True/\ ∃y:Unit,True/\True/\(False/\IZ a)/\(ZLn.cap (a.l.push a.x)=a.l.cap/\ ∀q:Nat,q<ZLn.cap (a.l.push a.x)->[Value.string (ZLnk.key (ZLn.e (a.l.push a.x) q)),Value.int .u64 (ZLnk.id (ZLn.e (a.l.push a.x) q)),Value.int .u64 (ZLnk.ver (ZLn.e (a.l.push a.x) q)),Value.int .i64 (ZLnk.line (ZLn.e (a.l.push a.x) q)),Value.int .i64 (ZLnk.cls (ZLn.e (a.l.push a.x) q))]=[Value.string (ZLnk.key (a.l.e q)),Value.int .u64 (ZLnk.id (a.l.e q)),Value.int .u64 (ZLnk.ver (a.l.e q)),Value.int .i64 (ZLnk.line (a.l.e q)),Value.int .i64 (ZLnk.cls (a.l.e q))])/\True
def acX(a:ZLn):Prop:=a.cap=a.cap/\ ∀q:Nat,q<a.cap->[Value.string (ZLnk.key (a.e q)),Value.int .u64 (ZLnk.id (a.e q)),Value.int .u64 (ZLnk.ver (a.e q)),Value.int .i64 (ZLnk.line (a.e q)),Value.int .i64 (ZLnk.cls (a.e q))]=[Value.string (ZLnk.key (a.e q)),Value.int .u64 (ZLnk.id (a.e q)),Value.int .u64 (ZLnk.ver (a.e q)),Value.int .i64 (ZLnk.line (a.e q)),Value.int .i64 (ZLnk.cls (a.e q))]
def arz(a:Cj):Prop:=((0=0/\iw.n (a.b.put a.x)=a.b.n)/\True)/\(iw.n (a.b.put a.x)=a.b.n/\ ∀q:Nat,q<iw.n (a.b.put a.x)->[Value.int .i64 (gG.line (iw.e (a.b.put a.x) q)),Value.int .i64 (gG.cls (iw.e (a.b.put a.x) q)),Value.int .u64 (gG.r (iw.e (a.b.put a.x) q)),Value.int .u64 (gG.d (iw.e (a.b.put a.x) q)),Value.int .i64 (gG.anti (iw.e (a.b.put a.x) q))]=[Value.int .i64 (gG.line (a.b.e q)),Value.int .i64 (gG.cls (a.b.e q)),Value.int .u64 (gG.r (a.b.e q)),Value.int .u64 (gG.d (a.b.e q)),Value.int .i64 (gG.anti (a.b.e q))])/\True
def I4(a:Cj):Prop:=True/\ite (a.b.n<258) (0:Int) (11:Int)=1/\(False/\True)/\(List.length [Value.int .i64 a.x.line,Value.int .i64 a.x.cls,Value.int .u64 a.x.r,Value.int .u64 a.x.d,Value.int .i64 a.x.anti]=iw.n (a.b.put a.x)*5/\ ∀q:Nat,q<iw.n (a.b.put a.x)->[Value.int .i64 (gG.line (iw.e (a.b.put a.x) q)),Value.int .i64 (gG.cls (iw.e (a.b.put a.x) q)),Value.int .u64 (gG.r (iw.e (a.b.put a.x) q)),Value.int .u64 (gG.d (iw.e (a.b.put a.x) q)),Value.int .i64 (gG.anti (iw.e (a.b.put a.x) q))]=List.take 5 (List.drop (q*5) [Value.int .i64 a.x.line,Value.int .i64 a.x.cls,Value.int .u64 a.x.r,Value.int .u64 a.x.d,Value.int .i64 a.x.anti]))/\True
def I5(a:Cj):Prop:=True/\ite (a.b.n<258) (0:Int) (11:Int)=1/\arz a
def yL(a:ZLnk):Prop:=List.all [List.take 5 [Value.string a.key,Value.int .u64 a.id,Value.int .u64 a.ver,Value.int .i64 a.line,Value.int .i64 a.cls]] (λ(l:List Value)=>Nat.beq (List.length l) 5&&List.all l Value.oneCell')=true
def aax(a:ZLn):Prop:= ∀k:Nat,k<a.at_-0->(Nat.beq (List.length [Value.string (ZLnk.key (a.e (0+k))),Value.int .u64 (ZLnk.id (a.e (0+k))),Value.int .u64 (ZLnk.ver (a.e (0+k))),Value.int .i64 (ZLnk.line (a.e (0+k))),Value.int .i64 (ZLnk.cls (a.e (0+k)))]) 5&&List.all [Value.string (ZLnk.key (a.e (0+k))),Value.int .u64 (ZLnk.id (a.e (0+k))),Value.int .u64 (ZLnk.ver (a.e (0+k))),Value.int .i64 (ZLnk.line (a.e (0+k))),Value.int .i64 (ZLnk.cls (a.e (0+k)))] Value.oneCell')=true
def I7(a:ZLn):Prop:=(0=0/\a.len=a.len/\a.cap=a.cap)/\(a.at_:Int)=(a.at_:Int)/\(a.n:Int)=(a.n:Int)/\True
def ahI(a:alh):Prop:=(2*(0+(a.l.len-a.l.at_)+(a.l.at_-0)+1)+1000)*48<=281474976710656/\ahH a
def ahJ(a:alh):Prop:=(2*(0+(a.l.len-a.l.at_)+(a.l.at_-0))+1000)*48<=281474976710656/\True/\True/\0+(a.l.len-a.l.at_)+(a.l.at_-0)=0+(a.l.len-a.l.at_)+(a.l.at_-0)/\yL a.x/\ahI a
def ahK(a:iw):Prop:=(a.n=a.n/\ ∀q:Nat,q<a.n->[Value.int .i64 (gG.line (a.e q)),Value.int .i64 (gG.cls (a.e q)),Value.int .u64 (gG.r (a.e q)),Value.int .u64 (gG.d (a.e q)),Value.int .i64 (gG.anti (a.e q))]=[Value.int .i64 (gG.line (a.e q)),Value.int .i64 (gG.cls (a.e q)),Value.int .u64 (gG.r (a.e q)),Value.int .u64 (gG.d (a.e q)),Value.int .i64 (gG.anti (a.e q))])/\True
def yM(a:alh):Prop:=ZLn.cap (a.l.push a.x)=Int.toNat (2*(a.l.n:Int)+1)
def vF:Prop:=Value.slice none 0 0=Value.slice none 0 0
def aay:Prop:=(vF/\(0:Int)=0/\(0:Int)=0/\True)/\True
def apz(a:ZLn):Prop:=(a.head.key=ZLnk.key (a.e (0+a.at_))/\a.head.id=ZLnk.id (a.e (0+a.at_))/\a.head.ver=ZLnk.ver (a.e (0+a.at_))/\a.head.line=ZLnk.line (a.e (0+a.at_))/\a.head.cls=ZLnk.cls (a.e (0+a.at_))/\True)/\decide (a.n≠0)=true/\True
def apA:Prop:= ∃y:Unit,True/\((ByteArray.mk #[]=ByteArray.mk #[]/\(0:Int)=0/\(0:Int)=0/\(0:Int)=0/\(0:Int)=0/\True)/\false=false/\True)/\aay
def apB(a:ZLn):Prop:=(a.head.key=ByteArray.mk #[]/\a.head.id=0/\a.head.ver=0/\a.head.line=0/\a.head.cls=0/\True)/\decide (a.n≠0)=false/\True
def aaz(a:ZLn):Prop:=0+(0+(a.len-a.at_))<=Int.toNat (2*(a.n:Int)+1)
def aaA(a:ZLn):Prop:=0<=a.at_/\a.at_<=a.cap/\a.cap<=a.cap
def ahL(a:ZLn):Prop:=0<=(a.at_:Int)/\(a.at_:Int)<(a.len:Int)
def ahM(a:ZLn):Prop:=I7 a/\acX a/\True
def EH(x:Cj):Prop:=
 cP (decide (x.x.line>=(2:Int))) (cP (decide (x.x.line<258)) (∃x_1:Int,True/\(x_1=x.x.cls/\True)/\True/\ ∀y:Unit,True->cP (decide (spn x_1>(0:Int))) (cP (decide (x.x.anti>=(-(1:Int)))) (cP (Bool.not (decide (x.x.anti<258))) (∃y_1:Unit,I4 x) ((AV.lit (Value.slice none 0 0)=AV.lit (Value.slice none 0 0)/\True)/\(2*(0+1)+1000)*40<=281474976710656/\True/\True/\ ∃y_1:Unit,True/\ite (x.b.n<258) (0:Int) (11:Int)=0/\((0=0/\iw.n (x.b.put x.x)=1)/\True)/\(iw.n (x.b.put x.x)=0+List.length [List.take 5 [Value.int .i64 x.x.line,Value.int .i64 x.x.cls,Value.int .u64 x.x.r,Value.int .u64 x.x.d,Value.int .i64 x.x.anti]]/\ ∀q:Nat,q<iw.n (x.b.put x.x)->[Value.int .i64 (gG.line (iw.e (x.b.put x.x) q)),Value.int .i64 (gG.cls (iw.e (x.b.put x.x) q)),Value.int .u64 (gG.r (iw.e (x.b.put x.x) q)),Value.int .u64 (gG.d (iw.e (x.b.put x.x) q)),Value.int .i64 (gG.anti (iw.e (x.b.put x.x) q))]=Cs.eff (λ(x_2:Nat)=>[]) [(0,List.take 5 [Value.int .i64 x.x.line,Value.int .i64 x.x.cls,Value.int .u64 x.x.r,Value.int .u64 x.x.d,Value.int .i64 x.x.anti])] q)/\True)) (∃y_1:Unit,I4 x)) (∃y_1:Unit,I4 x)) (∃y:Unit,I4 x)) (∃y:Unit,I4 x)
theorem QJ(x:Cj):EH x=wpF Tryz.prog amv tt (noA x) 200 5 66 ((rF true).args x) (hO 1 (flatP 1 ((rF true).l x))) (λv h'=>endsPK 1 x v h' (rF true).outs):=by kernel_rfl
def EI(x:Cj):Prop:=
 cP (decide (x.x.line>=(2:Int))) (cP (decide (x.x.line<258)) (∃x_1:Int,True/\(x_1=x.x.cls/\True)/\True/\ ∀y:Unit,True->cP (decide (spn x_1>(0:Int))) (cP (decide (x.x.anti>=(-(1:Int)))) (cP (Bool.not (decide (x.x.anti<258))) (∃y_1:Unit,I5 x) (cP (decide ((x.b.n:Int)>=(258:Int))) (∃y_1:Unit,True/\ite (x.b.n<258) (0:Int) (11:Int)=11/\arz x) ((AV.slW 1 0 5 x.b.n=AV.slW 1 0 5 x.b.n/\True)/\x.b.n=x.b.n/\List.all [List.take 5 [Value.int .i64 x.x.line,Value.int .i64 x.x.cls,Value.int .u64 x.x.r,Value.int .u64 x.x.d,Value.int .i64 x.x.anti]] (λ(l:List Value)=>Nat.beq (List.length l) 5&&List.all l Value.oneCell')=true/\(2*(x.b.n+1)+1000)*40<=281474976710656/\True/\True/\ ∃y_1:Unit,True/\ite (x.b.n<258) (0:Int) (11:Int)=0/\((0=0/\iw.n (x.b.put x.x)=x.b.n+1)/\True)/\(iw.n (x.b.put x.x)=x.b.n+List.length [List.take 5 [Value.int .i64 x.x.line,Value.int .i64 x.x.cls,Value.int .u64 x.x.r,Value.int .u64 x.x.d,Value.int .i64 x.x.anti]]/\ ∀q:Nat,q<iw.n (x.b.put x.x)->[Value.int .i64 (gG.line (iw.e (x.b.put x.x) q)),Value.int .i64 (gG.cls (iw.e (x.b.put x.x) q)),Value.int .u64 (gG.r (iw.e (x.b.put x.x) q)),Value.int .u64 (gG.d (iw.e (x.b.put x.x) q)),Value.int .i64 (gG.anti (iw.e (x.b.put x.x) q))]=Cs.eff (λ(i:Nat)=>gG.cs (x.b.e i)) [(x.b.n,List.take 5 [Value.int .i64 x.x.line,Value.int .i64 x.x.cls,Value.int .u64 x.x.r,Value.int .u64 x.x.d,Value.int .i64 x.x.anti])] q)/\True))) (∃y_1:Unit,I5 x)) (∃y_1:Unit,I5 x)) (∃y:Unit,I5 x)) (∃y:Unit,I5 x)
theorem QK(x:Cj):EI x=wpF Tryz.prog amv tt (noA x) 200 5 66 ((rF false).args x) (hO 2 (flatP 1 ((rF false).l x))) (λv h'=>endsPK 1 x v h' (rF false).outs):=by kernel_rfl
def EJ(x:Unit):Prop:=
 ∃y:Unit,True/\vF/\(vF/\True)/\True
theorem QL(x:Unit):EJ x=wpF Tryz.prog nU tt (noA x) 200 5 278 (KJ.args x) (hO 1 (flatP 1 (KJ.l x))) (λv h'=>endsPK 1 x v h' KJ.outs):=by kernel_rfl
def EK(x:iw):Prop:=
 0+x.n<=x.n/\cP (Nat.beq x.n 0) (∃y:Unit,True/\(x.n=0/\0=0/\0=0)/\((0=0/\x.n=x.n)/\True)/\(0=x.n*5/\ ∀q:Nat,q<x.n->[Value.int .i64 (gG.line (x.e q)),Value.int .i64 (gG.cls (x.e q)),Value.int .u64 (gG.r (x.e q)),Value.int .u64 (gG.d (x.e q)),Value.int .i64 (gG.anti (x.e q))]=List.take 5 (List.drop (q*5) (@List.nil Value)))/\ahK x) ((2*(0+x.n)+1000)*40<=281474976710656/\ ∃y:Unit,True/\(0=0/\x.n=0+x.n)/\((0=0/\x.n=x.n)/\True)/\(x.n=0+x.n/\ ∀q:Nat,q<x.n->[Value.int .i64 (gG.line (x.e q)),Value.int .i64 (gG.cls (x.e q)),Value.int .u64 (gG.r (x.e q)),Value.int .u64 (gG.d (x.e q)),Value.int .i64 (gG.anti (x.e q))]=[Value.int .i64 (gG.line (x.e (0+(q-0)))),Value.int .i64 (gG.cls (x.e (0+(q-0)))),Value.int .u64 (gG.r (x.e (0+(q-0)))),Value.int .u64 (gG.d (x.e (0+(q-0)))),Value.int .i64 (gG.anti (x.e (0+(q-0))))])/\ahK x)
theorem QM(x:iw):EK x=wpF Tryz.prog nU tt (noA x) 200 5 278 (KL.args x) (hO 2 (flatP 1 (KL.l x))) (λv h'=>endsPK 1 x v h' KL.outs):=by kernel_rfl
def wz(x:ZLnk):Prop:=
 I64 (0:Int)/\I64 (1:Int)/\((0:Int)<=0/\(0:Int)<=1/\(0:Int)<=281474976710608/\(0:Int)<=4611686018427387902)/\(0:Int)<=0/\(0<=0/\0<=0/\0<=0)/\0<=1/\True/\True/\(0:Int)<=0/\(0<=0/\0<=0/\0<=0)/\0<=1/\True/\True/\0<=1/\yL x/\0+(0+1)<=1/\I64 (1:Int)/\True/\ ∃y:Unit,True/\True/\((0=0/\1=1/\1=1)/\((0:Nat):Int)=0/\((1:Nat):Int)=1/\True)/\(1=1/\ ∀q:Nat,q<1->[Value.string (ZLnk.key (ite (q=0) x iQ)),Value.int .u64 (ZLnk.id (ite (q=0) x iQ)),Value.int .u64 (ZLnk.ver (ite (q=0) x iQ)),Value.int .i64 (ZLnk.line (ite (q=0) x iQ)),Value.int .i64 (ZLnk.cls (ite (q=0) x iQ))]=Cs.eff (λ(x_1:Nat)=>[Value.string (ByteArray.mk #[]),Value.int .u64 0,Value.int .u64 0,Value.int .i64 0,Value.int .i64 0]) [(0,List.take 5 [Value.string x.key,Value.int .u64 x.id,Value.int .u64 x.ver,Value.int .i64 x.line,Value.int .i64 x.cls])] q)/\True
theorem G7(x:ZLnk):wz x=wpF Tryz.prog nU tt (noA x) 200 5 254 (yJ.args x) (hO 1 (flatP 1 (yJ.l x))) (λv h'=>endsPK 1 x v h' yJ.outs):=by kernel_rfl
def wB(x:alh):Prop:=
 cP (BEq.beq (x.l.n:Int) (x.l.len:Int)) (I64 (2*(x.l.n:Int))/\I64 (2*(x.l.n:Int)+1)/\((0:Int)<=0/\0<=2*(x.l.n:Int)+1/\48*(2*(x.l.n:Int)+1)<=281474976710656/\2*(x.l.n:Int)+1<4611686018427387904)/\0<=(x.l.at_:Int)/\(x.l.at_<=x.l.len/\x.l.len<=x.l.cap/\x.l.cap<=x.l.cap)/\0<=Int.toNat (2*(x.l.n:Int)+1)/\0+x.l.at_+(x.l.len-x.l.at_)<=x.l.cap/\cP (Nat.beq (x.l.len-x.l.at_) 0) (True/\True/\0<=(x.l.at_:Int)/\aaA x.l/\0<=Int.toNat (2*(x.l.n:Int)+1)/\0+(x.l.at_-0)<=x.l.cap/\cP (Nat.beq (x.l.at_-0) 0) (True/\True/\0<=Int.toNat (2*(x.l.n:Int)+1)/\yL x.x/\0+(0+1)<=Int.toNat (2*(x.l.n:Int)+1)/\I64 ((x.l.n:Int)+1)/\True/\ ∃y:Unit,True/\True/\((0=0/\ZLn.len (x.l.push x.x)=1/\yM x)/\IZ x)/\(yM x/\ ∀q:Nat,q<ZLn.cap (x.l.push x.x)->[Value.string (ZLnk.key (ZLn.e (x.l.push x.x) q)),Value.int .u64 (ZLnk.id (ZLn.e (x.l.push x.x) q)),Value.int .u64 (ZLnk.ver (ZLn.e (x.l.push x.x) q)),Value.int .i64 (ZLnk.line (ZLn.e (x.l.push x.x) q)),Value.int .i64 (ZLnk.cls (ZLn.e (x.l.push x.x) q))]=Cs.eff (λ(x_1:Nat)=>[Value.string (ByteArray.mk #[]),Value.int .u64 0,Value.int .u64 0,Value.int .i64 0,Value.int .i64 0]) [(0,List.take 5 [Value.string x.x.key,Value.int .u64 x.x.id,Value.int .u64 x.x.ver,Value.int .i64 x.x.line,Value.int .i64 x.x.cls])] q)/\True) (cP (Nat.ble (0+(x.l.at_-0)) (Int.toNat (2*(x.l.n:Int)+1))) (aax x.l/\0+(0+(x.l.at_-0))<=Int.toNat (2*(x.l.n:Int)+1)/\True/\True/\0+(0+(x.l.at_-0))<=Int.toNat (2*(x.l.n:Int)+1)/\cP (Nat.ble (0+(x.l.at_-0)+1) (Int.toNat (2*(x.l.n:Int)+1))) (yL x.x/\
 0+(0+(x.l.at_-0)+1)<=Int.toNat (2*(x.l.n:Int)+1)/\I64 ((x.l.n:Int)+1)/\True/\ ∃y:Unit,True/\True/\((0=0/\ZLn.len (x.l.push x.x)=0+(x.l.at_-0)+1/\yM x)/\IZ x)/\(yM x/\ ∀q:Nat,q<ZLn.cap (x.l.push x.x)->[Value.string (ZLnk.key (ZLn.e (x.l.push x.x) q)),Value.int .u64 (ZLnk.id (ZLn.e (x.l.push x.x) q)),Value.int .u64 (ZLnk.ver (ZLn.e (x.l.push x.x) q)),Value.int .i64 (ZLnk.line (ZLn.e (x.l.push x.x) q)),Value.int .i64 (ZLnk.cls (ZLn.e (x.l.push x.x) q))]=Cs.eff (λ(p:Nat)=>cond (Nat.ble 0 p&&Nat.blt p (0+(x.l.at_-0))) [Value.string (ZLnk.key (x.l.e (0+(p-0)))),Value.int .u64 (ZLnk.id (x.l.e (0+(p-0)))),Value.int .u64 (ZLnk.ver (x.l.e (0+(p-0)))),Value.int .i64 (ZLnk.line (x.l.e (0+(p-0)))),Value.int .i64 (ZLnk.cls (x.l.e (0+(p-0))))] [Value.string (ByteArray.mk #[]),Value.int .u64 0,Value.int .u64 0,Value.int .i64 0,Value.int .i64 0]) [(0+(0+(x.l.at_-0)),List.take 5 [Value.string x.x.key,Value.int .u64 x.x.id,Value.int .u64 x.x.ver,Value.int .i64 x.x.line,Value.int .i64 x.x.cls])] q)/\True) ((2*(0+(x.l.at_-0)+1)+1000)*48<=281474976710656/\ahH x)) ((2*(0+(x.l.at_-0))+1000)*48<=281474976710656/\True/\True/\0+(x.l.at_-0)=0+(x.l.at_-0)/\yL x.x/\(2*(0+(x.l.at_-0)+1)+1000)*48<=281474976710656/\
 ahH x))) (cP (Nat.ble (0+(x.l.len-x.l.at_)) (Int.toNat (2*(x.l.n:Int)+1))) ((∀k:Nat,k<x.l.len-x.l.at_->(Nat.beq (List.length [Value.string (ZLnk.key (x.l.e (0+x.l.at_+k))),Value.int .u64 (ZLnk.id (x.l.e (0+x.l.at_+k))),Value.int .u64 (ZLnk.ver (x.l.e (0+x.l.at_+k))),Value.int .i64 (ZLnk.line (x.l.e (0+x.l.at_+k))),Value.int .i64 (ZLnk.cls (x.l.e (0+x.l.at_+k)))]) 5&&List.all [Value.string (ZLnk.key (x.l.e (0+x.l.at_+k))),Value.int .u64 (ZLnk.id (x.l.e (0+x.l.at_+k))),Value.int .u64 (ZLnk.ver (x.l.e (0+x.l.at_+k))),Value.int .i64 (ZLnk.line (x.l.e (0+x.l.at_+k))),Value.int .i64 (ZLnk.cls (x.l.e (0+x.l.at_+k)))] Value.oneCell')=true)/\aaz x.l/\True/\True/\0<=(x.l.at_:Int)/\aaA x.l/\aaz x.l/\0+(x.l.at_-0)<=x.l.cap/\cP (Nat.beq (x.l.at_-0) 0) (True/\True/\aaz x.l/\cP (Nat.ble (0+(x.l.len-x.l.at_)+1) (Int.toNat (2*(x.l.n:Int)+1))) (yL x.x/\0+(0+(x.l.len-x.l.at_)+1)<=Int.toNat (2*(x.l.n:Int)+1)/\I64 ((x.l.n:Int)+1)/\True/\ ∃y:Unit,True/\True/\((0=0/\ZLn.len (x.l.push x.x)=0+(x.l.len-x.l.at_)+1/\yM x)/\IZ x)/\(yM x/\
 ∀q:Nat,q<ZLn.cap (x.l.push x.x)->[Value.string (ZLnk.key (ZLn.e (x.l.push x.x) q)),Value.int .u64 (ZLnk.id (ZLn.e (x.l.push x.x) q)),Value.int .u64 (ZLnk.ver (ZLn.e (x.l.push x.x) q)),Value.int .i64 (ZLnk.line (ZLn.e (x.l.push x.x) q)),Value.int .i64 (ZLnk.cls (ZLn.e (x.l.push x.x) q))]=Cs.eff (λ(p:Nat)=>cond (Nat.ble 0 p&&Nat.blt p (0+(x.l.len-x.l.at_))) [Value.string (ZLnk.key (x.l.e (0+x.l.at_+(p-0)))),Value.int .u64 (ZLnk.id (x.l.e (0+x.l.at_+(p-0)))),Value.int .u64 (ZLnk.ver (x.l.e (0+x.l.at_+(p-0)))),Value.int .i64 (ZLnk.line (x.l.e (0+x.l.at_+(p-0)))),Value.int .i64 (ZLnk.cls (x.l.e (0+x.l.at_+(p-0))))] [Value.string (ByteArray.mk #[]),Value.int .u64 0,Value.int .u64 0,Value.int .i64 0,Value.int .i64 0]) [(0+(0+(x.l.len-x.l.at_)),List.take 5 [Value.string x.x.key,Value.int .u64 x.x.id,Value.int .u64 x.x.ver,Value.int .i64 x.x.line,Value.int .i64 x.x.cls])] q)/\True) ((2*(0+(x.l.len-x.l.at_)+1)+1000)*48<=281474976710656/\ahH x)) (cP (Nat.ble (0+(x.l.len-x.l.at_)+(x.l.at_-0)) (Int.toNat (2*(x.l.n:Int)+1))) (aax x.l/\0+(0+(x.l.len-x.l.at_)+(x.l.at_-0))<=Int.toNat (2*(x.l.n:Int)+1)/\True/\True/\0+(0+(x.l.len-x.l.at_)+(x.l.at_-0))<=Int.toNat (2*(x.l.n:Int)+1)/\cP (Nat.ble (0+(x.l.len-x.l.at_)+(x.l.at_-0)+1) (Int.toNat (2*(x.l.n:Int)+1))) (yL x.x/\0+(0+(x.l.len-x.l.at_)+(x.l.at_-0)+1)<=Int.toNat (2*(x.l.n:Int)+1)/\I64 ((x.l.n:Int)+1)/\True/\ ∃y:Unit,True/\True/\((0=0/\ZLn.len (x.l.push x.x)=0+(x.l.len-x.l.at_)+(x.l.at_-0)+1/\yM x)/\IZ x)/\(yM x/\
 ∀q:Nat,q<ZLn.cap (x.l.push x.x)->[Value.string (ZLnk.key (ZLn.e (x.l.push x.x) q)),Value.int .u64 (ZLnk.id (ZLn.e (x.l.push x.x) q)),Value.int .u64 (ZLnk.ver (ZLn.e (x.l.push x.x) q)),Value.int .i64 (ZLnk.line (ZLn.e (x.l.push x.x) q)),Value.int .i64 (ZLnk.cls (ZLn.e (x.l.push x.x) q))]=Cs.eff (λ(p:Nat)=>cond (Nat.ble (0+(0+(x.l.len-x.l.at_))) p&&Nat.blt p (0+(0+(x.l.len-x.l.at_))+(x.l.at_-0))) [Value.string (ZLnk.key (x.l.e (0+(p-(0+(0+(x.l.len-x.l.at_))))))),Value.int .u64 (ZLnk.id (x.l.e (0+(p-(0+(0+(x.l.len-x.l.at_))))))),Value.int .u64 (ZLnk.ver (x.l.e (0+(p-(0+(0+(x.l.len-x.l.at_))))))),Value.int .i64 (ZLnk.line (x.l.e (0+(p-(0+(0+(x.l.len-x.l.at_))))))),Value.int .i64 (ZLnk.cls (x.l.e (0+(p-(0+(0+(x.l.len-x.l.at_)))))))] (Cs.eff (λ(p_1:Nat)=>cond (Nat.ble 0 p_1&&Nat.blt p_1 (0+(x.l.len-x.l.at_))) [Value.string (ZLnk.key (x.l.e (0+x.l.at_+(p_1-0)))),Value.int .u64 (ZLnk.id (x.l.e (0+x.l.at_+(p_1-0)))),Value.int .u64 (ZLnk.ver (x.l.e (0+x.l.at_+(p_1-0)))),Value.int .i64 (ZLnk.line (x.l.e (0+x.l.at_+(p_1-0)))),Value.int .i64 (ZLnk.cls (x.l.e (0+x.l.at_+(p_1-0))))] [Value.string (ByteArray.mk #[]),Value.int .u64 0,Value.int .u64 0,Value.int .i64 0,Value.int .i64 0]) [] p)) [(0+(0+(x.l.len-x.l.at_)+(x.l.at_-0)),List.take 5 [Value.string x.x.key,Value.int .u64 x.x.id,Value.int .u64 x.x.ver,Value.int .i64 x.x.line,Value.int .i64 x.x.cls])] q)/\True) (ahI x)) (ahJ x))) ((2*(0+(x.l.len-x.l.at_))+1000)*48<=281474976710656/\True/\True/\0<=(x.l.at_:Int)/\aaA x.l/\0+(x.l.len-x.l.at_)=0+(x.l.len-x.l.at_)/\0+(x.l.at_-0)<=x.l.cap/\aax x.l/\
 ahJ x))) (I64 ((x.l.at_:Int)+(x.l.n:Int))/\((x.l.len:Int)=0->False)/\(0<=Int.tmod ((x.l.at_:Int)+(x.l.n:Int)) (x.l.len:Int)/\Int.tmod ((x.l.at_:Int)+(x.l.n:Int)) (x.l.len:Int)<(x.l.len:Int))/\0+Int.toNat (Int.tmod ((x.l.at_:Int)+(x.l.n:Int)) (x.l.len:Int))<x.l.cap/\True/\I64 ((x.l.n:Int)+1)/\True/\ ∃y:Unit,True/\True/\((0=0/\ZLn.len (x.l.push x.x)=x.l.len/\ZLn.cap (x.l.push x.x)=x.l.cap)/\((ZLn.at_ (x.l.push x.x):Nat):Int)=(x.l.at_:Int)/\((ZLn.n (x.l.push x.x):Nat):Int)=(x.l.n:Int)+1/\True)/\(ZLn.cap (x.l.push x.x)=x.l.cap/\ ∀q:Nat,q<ZLn.cap (x.l.push x.x)->[Value.string (ZLnk.key (ZLn.e (x.l.push x.x) q)),Value.int .u64 (ZLnk.id (ZLn.e (x.l.push x.x) q)),Value.int .u64 (ZLnk.ver (ZLn.e (x.l.push x.x) q)),Value.int .i64 (ZLnk.line (ZLn.e (x.l.push x.x) q)),Value.int .i64 (ZLnk.cls (ZLn.e (x.l.push x.x) q))]=Cs.eff (λ(i:Nat)=>ZLnk.cs (x.l.e i)) [(0+Int.toNat (Int.tmod ((x.l.at_:Int)+(x.l.n:Int)) (x.l.len:Int)),[Value.string x.x.key,Value.int .u64 x.x.id,Value.int .u64 x.x.ver,Value.int .i64 x.x.line,Value.int .i64 x.x.cls])] q)/\True)
theorem G8(x:alh):wB x=wpF Tryz.prog nU tt (noA x) 200 5 254 (yK.args x) (hO 2 (flatP 1 (yK.l x))) (λv h'=>endsPK 1 x v h' yK.outs):=by kernel_rfl
def zI(x:Unit):Prop:=
 apA
theorem KN(x:Unit):zI x=wpF Tryz.prog nU tt (noA x) 200 5 255 (Dj.args x) (hO 1 (flatP 1 (Dj.l x))) (λv h'=>endsPK 1 x v h' Dj.outs):=by kernel_rfl
def zJ(x:ZLn):Prop:=
 cP (BEq.beq (x.n:Int) (0:Int)) (∃y:Unit,True/\apB x/\((0=0/\x.pop.len=x.len/\x.pop.cap=x.cap)/\(x.pop.at_:Int)=(x.at_:Int)/\(x.pop.n:Int)=(x.n:Int)/\True)/\(x.pop.cap=x.cap/\ ∀q:Nat,q<x.pop.cap->[Value.string (ZLnk.key (x.pop.e q)),Value.int .u64 (ZLnk.id (x.pop.e q)),Value.int .u64 (ZLnk.ver (x.pop.e q)),Value.int .i64 (ZLnk.line (x.pop.e q)),Value.int .i64 (ZLnk.cls (x.pop.e q))]=[Value.string (ZLnk.key (x.e q)),Value.int .u64 (ZLnk.id (x.e q)),Value.int .u64 (ZLnk.ver (x.e q)),Value.int .i64 (ZLnk.line (x.e q)),Value.int .i64 (ZLnk.cls (x.e q))])/\True) (ahL x/\0+x.at_<x.cap/\True/\ahL x/\0+x.at_<x.cap/\True/\I64 ((x.at_:Int)+1)/\((x.len:Int)=0->False)/\True/\I64 ((x.n:Int)-1)/\ ∃y:Unit,True/\apz x/\((0=0/\x.pop.len=x.len/\x.pop.cap=x.cap)/\(x.pop.at_:Int)=Int.tmod ((x.at_:Int)+1) (x.len:Int)/\(x.pop.n:Int)=(x.n:Int)-1/\True)/\(x.pop.cap=x.cap/\ ∀q:Nat,q<x.pop.cap->[Value.string (ZLnk.key (x.pop.e q)),Value.int .u64 (ZLnk.id (x.pop.e q)),Value.int .u64 (ZLnk.ver (x.pop.e q)),Value.int .i64 (ZLnk.line (x.pop.e q)),Value.int .i64 (ZLnk.cls (x.pop.e q))]=Cs.eff (λ(i:Nat)=>ZLnk.cs (x.e i)) [(0+x.at_,[Value.string (ByteArray.mk #[]),Value.int .u64 0,Value.int .u64 0,Value.int .i64 0,Value.int .i64 0])] q)/\True)
theorem KO(x:ZLn):zJ x=wpF Tryz.prog nU tt (noA x) 200 5 255 (Dk.args x) (hO 2 (flatP 1 (Dk.l x))) (λv h'=>endsPK 1 x v h' Dk.outs):=by kernel_rfl
def zK(x:Unit):Prop:=
 ∃y:Unit,True/\vF/\aay
theorem KP(x:Unit):zK x=wpF Tryz.prog nU tt (noA x) 200 5 70 (Dl.args x) (hO 1 (flatP 1 (Dl.l x))) (λv h'=>endsPK 1 x v h' Dl.outs):=by kernel_rfl
def zL(x:ZLn):Prop:=
 (∃s:Unit,Hd True/\True/\((0:Int)=0/\vF/\True)/\acX x/\I7 x/\True)/\(∀s:Unit,Hd True->cP (decide (0<(x.n:Int))) (I64 ((x.at_:Int)+0)/\((x.len:Int)=0->False)/\(0<=Int.tmod ((x.at_:Int)+0) (x.len:Int)/\Int.tmod ((x.at_:Int)+0) (x.len:Int)<(x.len:Int))/\0+Int.toNat (Int.tmod ((x.at_:Int)+0) (x.len:Int))<x.cap/\True/\(2*(0+1)+1000)*48<=281474976710656/\True/\True/\I64 (1:Int)/\ ∃s_1:Nat,Hd (1<=s_1/\s_1<=x.n)/\x.n-s_1<x.n+1/\((s_1:Int)=1/\(0=0/\s_1=1)/\True)/\(s_1=0+List.length [List.take 5 [Value.string (ZLnk.key (x.e (0+Int.toNat (Int.tmod ((x.at_:Int)+0) (x.len:Int))))),Value.int .u64 (ZLnk.id (x.e (0+Int.toNat (Int.tmod ((x.at_:Int)+0) (x.len:Int))))),Value.int .u64 (ZLnk.ver (x.e (0+Int.toNat (Int.tmod ((x.at_:Int)+0) (x.len:Int))))),Value.int .i64 (ZLnk.line (x.e (0+Int.toNat (Int.tmod ((x.at_:Int)+0) (x.len:Int))))),Value.int .i64 (ZLnk.cls (x.e (0+Int.toNat (Int.tmod ((x.at_:Int)+0) (x.len:Int)))))]]/\
 ∀q:Nat,q<s_1->[Value.string (ZLnk.key (x.get q)),Value.int .u64 (ZLnk.id (x.get q)),Value.int .u64 (ZLnk.ver (x.get q)),Value.int .i64 (ZLnk.line (x.get q)),Value.int .i64 (ZLnk.cls (x.get q))]=Cs.eff (λ(x_1:Nat)=>[]) [(0,List.take 5 [Value.string (ZLnk.key (x.e (0+Int.toNat (Int.tmod ((x.at_:Int)+0) (x.len:Int))))),Value.int .u64 (ZLnk.id (x.e (0+Int.toNat (Int.tmod ((x.at_:Int)+0) (x.len:Int))))),Value.int .u64 (ZLnk.ver (x.e (0+Int.toNat (Int.tmod ((x.at_:Int)+0) (x.len:Int))))),Value.int .i64 (ZLnk.line (x.e (0+Int.toNat (Int.tmod ((x.at_:Int)+0) (x.len:Int))))),Value.int .i64 (ZLnk.cls (x.e (0+Int.toNat (Int.tmod ((x.at_:Int)+0) (x.len:Int)))))])] q)/\acX x/\I7 x/\True) ((∃y:Unit,Hd (x.n=0)/\vF/\ahM x)\/ ∃y:Unit,Hd (x.n≠0)/\False))/\(∀s:Nat,Hd (1<=s/\s<=x.n)->cP (decide ((s:Int)<(x.n:Int))) (I64 ((x.at_:Int)+(s:Int))/\((x.len:Int)=0->False)/\(0<=Int.tmod ((x.at_:Int)+(s:Int)) (x.len:Int)/\Int.tmod ((x.at_:Int)+(s:Int)) (x.len:Int)<(x.len:Int))/\0+Int.toNat (Int.tmod ((x.at_:Int)+(s:Int)) (x.len:Int))<x.cap/\True/\s=s/\
 List.all [List.take 5 [Value.string (ZLnk.key (x.e (0+Int.toNat (Int.tmod ((x.at_:Int)+(s:Int)) (x.len:Int))))),Value.int .u64 (ZLnk.id (x.e (0+Int.toNat (Int.tmod ((x.at_:Int)+(s:Int)) (x.len:Int))))),Value.int .u64 (ZLnk.ver (x.e (0+Int.toNat (Int.tmod ((x.at_:Int)+(s:Int)) (x.len:Int))))),Value.int .i64 (ZLnk.line (x.e (0+Int.toNat (Int.tmod ((x.at_:Int)+(s:Int)) (x.len:Int))))),Value.int .i64 (ZLnk.cls (x.e (0+Int.toNat (Int.tmod ((x.at_:Int)+(s:Int)) (x.len:Int)))))]] (λ(l:List Value)=>Nat.beq (List.length l) 5&&List.all l Value.oneCell')=true/\(2*(s+1)+1000)*48<=281474976710656/\True/\True/\I64 ((s:Int)+1)/\ ∃s_1:Nat,Hd (1<=s_1/\s_1<=x.n)/\x.n-s_1<x.n-s/\((s_1:Int)=(s:Int)+1/\(0=0/\s_1=s+1)/\True)/\(s_1=s+List.length [List.take 5 [Value.string (ZLnk.key (x.e (0+Int.toNat (Int.tmod ((x.at_:Int)+(s:Int)) (x.len:Int))))),Value.int .u64 (ZLnk.id (x.e (0+Int.toNat (Int.tmod ((x.at_:Int)+(s:Int)) (x.len:Int))))),Value.int .u64 (ZLnk.ver (x.e (0+Int.toNat (Int.tmod ((x.at_:Int)+(s:Int)) (x.len:Int))))),Value.int .i64 (ZLnk.line (x.e (0+Int.toNat (Int.tmod ((x.at_:Int)+(s:Int)) (x.len:Int))))),Value.int .i64 (ZLnk.cls (x.e (0+Int.toNat (Int.tmod ((x.at_:Int)+(s:Int)) (x.len:Int)))))]]/\
 ∀q:Nat,q<s_1->[Value.string (ZLnk.key (x.get q)),Value.int .u64 (ZLnk.id (x.get q)),Value.int .u64 (ZLnk.ver (x.get q)),Value.int .i64 (ZLnk.line (x.get q)),Value.int .i64 (ZLnk.cls (x.get q))]=Cs.eff (λ(j:Nat)=>ZLnk.cs (x.get j)) [(s,List.take 5 [Value.string (ZLnk.key (x.e (0+Int.toNat (Int.tmod ((x.at_:Int)+(s:Int)) (x.len:Int))))),Value.int .u64 (ZLnk.id (x.e (0+Int.toNat (Int.tmod ((x.at_:Int)+(s:Int)) (x.len:Int))))),Value.int .u64 (ZLnk.ver (x.e (0+Int.toNat (Int.tmod ((x.at_:Int)+(s:Int)) (x.len:Int))))),Value.int .i64 (ZLnk.line (x.e (0+Int.toNat (Int.tmod ((x.at_:Int)+(s:Int)) (x.len:Int))))),Value.int .i64 (ZLnk.cls (x.e (0+Int.toNat (Int.tmod ((x.at_:Int)+(s:Int)) (x.len:Int)))))])] q)/\acX x/\I7 x/\True) ((∃y:Unit,Hd (x.n=0)/\False/\ahM x)\/ ∃y:Unit,Hd (x.n≠0)/\(0=0/\x.n=s)/\I7 x/\(x.n=s/\ ∀q:Nat,q<x.n->[Value.string (ZLnk.key (x.get q)),Value.int .u64 (ZLnk.id (x.get q)),Value.int .u64 (ZLnk.ver (x.get q)),Value.int .i64 (ZLnk.line (x.get q)),Value.int .i64 (ZLnk.cls (x.get q))]=[Value.string (ZLnk.key (x.get q)),Value.int .u64 (ZLnk.id (x.get q)),Value.int .u64 (ZLnk.ver (x.get q)),Value.int .i64 (ZLnk.line (x.get q)),Value.int .i64 (ZLnk.cls (x.get q))])/\acX x/\True))/\True
theorem KQ(x:ZLn):zL x=wpF Tryz.prog nU tt (auB x) 200 5 70 (Dn.args x) (hO 2 (flatP 1 (Dn.l x))) (λv h'=>endsPK 1 x v h' Dn.outs):=by kernel_rfl
theorem VY{c:Int}(h:0<=c/\c<=3):0<spn c:=by
 unfold spn;split
 ·omega
 ·split
  ·omega
  ·split
   ·omega
   ·split<;>omega
theorem EL{g:Nat->List Value}{k q:Nat}{c:List Value}:Cs.eff g [(k,c)] q=if q=k then c else g q:=by
 simp only[Cs.eff,bY,dA,dD,dK,<-Bool.decide_and]
theorem arA(f:Nat->gG)(k:Nat)(x:gG)(q:Nat)(e:gG)(he:e=if q=k then x else f q):[Value.int .i64 e.line,Value.int .i64 e.cls,Value.int .u64 e.r,Value.int .u64 e.d,Value.int .i64 e.anti]=Cs.eff (λi=>(f i).cs) [(k,List.take 5 [Value.int .i64 x.line,Value.int .i64 x.cls,Value.int .u64 x.r,Value.int .u64 x.d,Value.int .i64 x.anti])] q:=by
 subst he;rw[EL];split<;>rfl
theorem VZ(f:Nat->ZLnk)(k:Nat)(x:ZLnk)(q:Nat)(e:ZLnk)(he:e=if q=k then x else f q):[Value.string e.key,Value.int .u64 e.id,Value.int .u64 e.ver,Value.int .i64 e.line,Value.int .i64 e.cls]=Cs.eff (λi=>(f i).cs) [(k,[Value.string x.key,Value.int .u64 x.id,Value.int .u64 x.ver,Value.int .i64 x.line,Value.int .i64 x.cls])] q:=by
 subst he;rw[EL];split<;>rfl
theorem G9(x:Cj)(hx:x.b.ok/\x.x.may/\x.b.z=true):EH x:=by
 obtain⟨⟨h1,h2⟩,⟨m1,m2,m3,m4,m5,m6⟩,hz⟩:=hx;have hn:=h2 hz;have hs:=VY (c:=x.x.cls) ⟨m3,m4⟩;have e1:decide (x.x.line>=2)=true:=decide_eq_true m1;have e2:decide (x.x.line<258)=true:=decide_eq_true m2;have e3:decide (spn x.x.cls>0)=true:=decide_eq_true hs;have e4:decide (x.x.anti>= -1)=true:=decide_eq_true m5;have e5:decide (x.x.anti<258)=true:=decide_eq_true m6;unfold EH;simp only[I4];simp only[aZ,aV,aU,aA,aI,bU,bG,aO,aK,ay,aX,aW,bV,bH,bJ,bK,bW,bC,bM,bn,eY,aH,aN,ah,ak,aB,aF,aC,aG,e1,e2,e3,e4,e5,kQ,iE,Bool.not_true];have e:x.b.put x.x=⟨false,1,λi=>if i=0 then x.x else x.b.e i⟩:=by unfold iw.put;rw[hn];rfl
 rw[e,hn];refine⟨by decide,rfl,rfl,rfl,λq hq=> ?_⟩;have:q=0:=by have:q<1:=hq;omega
 subst this;rfl
theorem He(x:Cj)(hx:x.b.ok/\x.x.may/\x.b.z=false):EI x:=by
 obtain⟨⟨h1,h2⟩,⟨m1,m2,m3,m4,m5,m6⟩,hz⟩:=hx;have hs:=VY (c:=x.x.cls) ⟨m3,m4⟩;have e1:decide (x.x.line>=2)=true:=decide_eq_true m1;have e2:decide (x.x.line<258)=true:=decide_eq_true m2;have e3:decide (spn x.x.cls>0)=true:=decide_eq_true hs;have e4:decide (x.x.anti>= -1)=true:=decide_eq_true m5;have e5:decide (x.x.anti<258)=true:=decide_eq_true m6;unfold EI;simp only[I5,arz];simp only[aZ,aV,aU,aA,aI,bU,bG,aO,aK,ay,aX,aW,bV,bH,bJ,bK,bW,bC,bM,bn,eY,aH,aN,ah,ak,aB,aF,aC,aG,e1,e2,e3,e4,e5,kQ,iE,Bool.not_true];unfold iw.put;refine bf (λh=> ?_) λh=> ?_
 ·have hge: ¬x.b.n<258:=by have:=aS h;omega
  simp only[if_neg hge];exact⟨trivial,trivial,trivial,λq _=>trivial⟩
 ·have hlt:x.b.n<258:=by have:=aT h;omega
  simp only[if_pos hlt];exact⟨rfl,by omega,trivial,trivial,rfl,λq hq=>arA _ _ _ _ _ rfl⟩
theorem Hf(x:Unit):EJ x:=by
 unfold EJ;simp only[vF];simp only[aZ,aV,aU,aA,aI,bU,bG,aO,aK,ay,aX,aW,bV,bH,bJ,bK,bW,bC,bM,bn,eY,aH,aN,ah,ak,aB,aF,aC,aG]
theorem Hg(x:iw)(hx:x.ok/\x.z=false):EK x:=by
 have:=hx.1.1;unfold EK;simp only[ahK];simp only[aZ,aV,aU,aA,aI,bU,bG,aO,aK,ay,aX,aW,bV,bH,bJ,bK,bW,bC,bM,bn,eY,aH,aN,ah,ak,aB,aF,aC,aG];refine⟨aY _,bf (λh=> ?_) λ_=>by omega⟩;have h0:x.n=0:=au h;exact⟨h0,by omega,λq hq=>by omega⟩
theorem EM(x:Unit):zI x:=by
 unfold zI;simp only[apA,aay,vF];simp only[aZ,aV,aU,aA,aI,bU,bG,aO,aK,ay,aX,aW,bV,bH,bJ,bK,bW,bC,bM,bn,eY,aH,aN,ah,ak,aB,aF,aC,aG]
theorem EN(x:Unit):zK x:=by
 unfold zK;simp only[vF,aay];simp only[aZ,aV,aU,aA,aI,bU,bG,aO,aK,ay,aX,aW,bV,bH,bJ,bK,bW,bC,bM,bn,eY,aH,aN,ah,ak,aB,aF,aC,aG]
theorem amK{x:ZLn}(h:x.at_<x.len):x.get 0=x.e x.at_:=by
 unfold ZLn.get;rw[aI,Nat.mod_eq_of_lt h]
theorem EO(x:ZLn)(hx:x.ok/\x.len≠0):zJ x:=by
 obtain⟨⟨o1,o2,o3,o4,o5⟩,hl⟩:=hx;have:=o5 hl;unfold zJ;simp only[apB,ahL,apz];simp only[aZ,aV,aU,aA,aI,bU,bG,aO,aK,ay,aX,aW,bV,bH,bJ,bK,bW,bC,bM,bn,eY,aH,aN,ah,ak,aB,aF,aC,aG];refine bf (λh=> ?_) λh=> ?_
 ·have h0:x.n=0:=by have:=beq_iff_eq.1 h;omega
  rw[show x.head=iQ from if_pos h0,show x.pop=x from if_pos h0,h0];exact⟨⟨⟨rfl,rfl,rfl,rfl,rfl⟩,rfl⟩,⟨⟨rfl,rfl⟩,rfl,rfl⟩,rfl,λq _=>rfl⟩
 ·have h0:x.n≠0:=λe=>by rw[e]at h;exact absurd h (by decide)
  rw[show x.head=x.e x.at_ from (if_neg h0).trans (amK this),show x.pop=⟨x.len,x.cap,(x.at_+1)%x.len,x.n-1,λi=>if i=x.at_ then iQ else x.e i⟩ from if_neg h0];exact⟨⟨by omega,by omega⟩,by omega,⟨by omega,by omega⟩,by omega,⟨by unfold I64;omega,by omega,by unfold I64;omega,⟨⟨rfl,rfl,rfl,rfl,rfl⟩,decide_eq_true h0⟩,⟨⟨rfl,rfl⟩,(Int.ofNat_tmod (x.at_+1) x.len),by show((x.n-1:Nat):Int)=_;omega⟩,rfl,λq _=>VZ _ _ iQ _ _ rfl⟩⟩
theorem Cm(x:ZLnk):wz x:=by
 unfold wz;simp only[yL];simp only[aZ,aV,aU,aA,aI,bU,bG,aO,aK,ay,aX,aW,bV,bH,bJ,bK,bW,bC,bM,bn,eY,aH,aN,ah,ak,aB,aF,aC,aG];refine⟨by unfold I64;omega,by unfold I64;omega,by decide,by decide,by decide,by decide,by decide,by decide,by decide,by decide,rfl,by decide,by unfold I64;omega,⟨rfl,rfl⟩,λq hq=> ?_⟩;have:q=0:=by omega
 subst this;rfl
theorem JK(a b:Nat):((a:Int)+(b:Int))=((a+b:Nat):Int):=by omega
theorem arB{x:ZLn}(s:Nat):x.e ((x.at_+s)%x.len)=x.get s:=rfl
theorem EP(x:ZLn)(hx:x.ok/\x.len≠0):zL x:=by
 obtain⟨⟨o1,o2,o3,o4,o5⟩,hl⟩:=hx;have:=o5 hl;have ht: ∀s:Nat,((x.at_:Int)+(s:Int)).tmod (x.len:Int)=(((x.at_+s)%x.len:Nat):Int):=λs=>by rw[JK];exact(Int.ofNat_tmod _ _).symm
 have hm: ∀s:Nat,(x.at_+s)%x.len<x.len:=λs=>Nat.mod_lt _ (by omega)
 have hm0:=hm 0;have ht0:=ht 0;have hg0:x.e (x.at_%x.len)=x.get 0:=rfl;unfold zL;simp only[vF,acX,I7,ahM];simp only[Int.natCast_zero,Int.add_zero,aI]at ht0 hm0;simp only[aZ,aV,aU,aA,aI,bU,bG,aO,aK,ay,aX,aW,bV,bH,bJ,bK,bW,bC,bM,bn,eY,aH,aN,ah,ak,aB,aF,aC,aG,Int.add_zero,ht,ht0,hg0,arB];refine⟨bf (λh=> ?_) λh=> ?_,λs hs=>bf (λh=> ?_) λh=> ?_⟩
 ·have hn:0<x.n:=by have:=aS h;omega
  refine⟨by unfold I64;omega,by omega,⟨by omega,by omega⟩,by omega,by omega,by unfold I64;omega,1,by omega,by omega,by omega,rfl,λq hq=> ?_⟩;have:q=0:=by omega
  subst this;rfl
 ·exact .inl (by have:=aT h;omega)
 ·have hn:s<x.n:=by have:=aS h;omega
  have:=hm s;refine⟨by unfold I64;omega,by omega,⟨by omega,by omega⟩,by omega,rfl,by omega,by unfold I64;omega,s+1,by omega,by omega,by omega,rfl,λq hq=>VZ _ _ (x.get s) _ _ ?_⟩;split
  ·rename_i e;rw[e]
  ·rfl
 ·exact .inr (by have:=aT h;omega)
theorem CB(x:alh)(hx:x.l.ok/\x.l.len≠0):wB x:=by
 obtain⟨⟨o1,o2,o3,o4,o5⟩,hl⟩:=hx;have hat:=o5 hl;have e1:Nat.beq (x.l.len-x.l.at_) 0=false:=by rw[dD];exact decide_eq_false (by omega)
 have g1: ∀q,q<x.l.len-x.l.at_->x.l.get q=x.l.e (x.l.at_+q):=λq h=>by unfold ZLn.get;rw[Nat.mod_eq_of_lt (by omega)]
 have g2: ∀q,x.l.len-x.l.at_<=q->q<x.l.len->x.l.get q=x.l.e (q-(x.l.len-x.l.at_)):=λq h1 h2=>by
  unfold ZLn.get;rw[show x.l.at_+q=(q-(x.l.len-x.l.at_))+x.l.len by omega,Nat.add_mod_right,Nat.mod_eq_of_lt (by omega)]
 have hz:iQ=⟨⟨#[]⟩,0,0,0,0⟩:=rfl;unfold wB;simp only[aaA,yL,yM,IZ,aax,ahH,aaz,ahI,ahJ];simp only[aZ,aV,aU,aA,aI,bU,bG,aO,aK,ay,aX,aW,bV,bH,bJ,bK,bW,bC,bM,bn,eY,aH,aN,ah,ak,aB,aF,aC,aG,e1,iE];refine bf (λh=> ?_) λh=> ?_
 ·have hn:x.l.n=x.l.len:=by have:=beq_iff_eq.1 h;omega
  have e2:(2*(x.l.n:Int)+1).toNat=2*x.l.len+1:=by omega
  have e3:Nat.ble (x.l.len-x.l.at_) (2*x.l.len+1)=true:=by rw[Nat.ble_eq];omega
  have e4:x.l.push x.x=⟨x.l.len+1,2*x.l.len+1,0,x.l.len+1,λi=>if i<x.l.len then x.l.get i else if i=x.l.len then x.x else iQ⟩:=by rw[<-hn];exact if_pos hn
  simp only[e2,e3,e4,kQ];by_cases ha:x.l.at_=0
  ·have e5:Nat.beq x.l.at_ 0=true:=by rw[ha];rfl
   have e6:Nat.ble (x.l.len-x.l.at_+1) (2*x.l.len+1)=true:=by rw[Nat.ble_eq];omega
   simp only[e5,e6,kQ];refine⟨by unfold I64;omega,by unfold I64;omega,by omega,by omega,by omega,by omega,by omega,λk _=>rfl,by omega,by omega,by omega,by omega,by omega,by omega,rfl,by omega,by unfold I64;omega,⟨⟨by omega,trivial⟩,by omega,by omega⟩,trivial,λq hq=> ?_⟩;rw[EL];simp only[Cs.eff,bY,dA,dD,dK,<-Bool.decide_and];grind
  ·have e5:Nat.beq x.l.at_ 0=false:=by rw[dD];exact decide_eq_false ha
   have e6:Nat.ble (x.l.len-x.l.at_+x.l.at_) (2*x.l.len+1)=true:=by rw[Nat.ble_eq];omega
   have e7:Nat.ble (x.l.len-x.l.at_+x.l.at_+1) (2*x.l.len+1)=true:=by rw[Nat.ble_eq];omega
   simp only[e5,e6,e7,kQ,iE];refine⟨by unfold I64;omega,by unfold I64;omega,by omega,by omega,by omega,by omega,by omega,λk _=>rfl,by omega,by omega,by omega,by omega,by omega,λk _=>rfl,by omega,by omega,rfl,by omega,by unfold I64;omega,⟨⟨by omega,trivial⟩,by omega,by omega⟩,trivial,λq hq=> ?_⟩;rw[EL];simp only[Cs.eff,bY,dA,dD,dK,<-Bool.decide_and];grind
 ·have hn:x.l.n≠x.l.len:=λe=>by rw[e]at h;simp at h
  have ht:((x.l.at_:Int)+(x.l.n:Int)).tmod (x.l.len:Int)=(((x.l.at_+x.l.n)%x.l.len:Nat):Int):=by rw[JK];exact(Int.ofNat_tmod _ _).symm
  have hm:(x.l.at_+x.l.n)%x.l.len<x.l.len:=Nat.mod_lt _ (by omega);rw[show x.l.push x.x=⟨x.l.len,x.l.cap,x.l.at_,x.l.n+1,λi=>if i=(x.l.at_+x.l.n)%x.l.len then x.x else x.l.e i⟩ from if_neg hn];simp only[ht,ay];exact⟨by unfold I64;omega,by omega,⟨by omega,by omega⟩,by omega,by unfold I64;omega,⟨⟨trivial,trivial⟩,trivial,by omega⟩,trivial,λq _=>VZ _ _ x.x _ _ rfl⟩
theorem acY:cO Tryz.prog 66 (rF true).ctr:=dh dG mixed (.cons (bP mQ) .nil) 1 noA 200 5 (λ_=>⟨rfl,rfl,rfl,rfl⟩) λx hx=>Eq.mp (QJ x) (G9 x (aZ.1 hx))
theorem acZ:cO Tryz.prog 66 (rF false).ctr:=dh dG mixed (.cons (bP mQ) .nil) 2 noA 200 5 (λ_=>⟨rfl,rfl,rfl,rfl⟩) λx hx=>Eq.mp (QK x) (He x (aZ.1 hx))
theorem ac0:cO Tryz.prog 278 KJ.ctr:=dh dG mixed dO 1 noA 200 5 (λ_=>⟨rfl,rfl,rfl,rfl⟩) λx _=>Eq.mp (QL x) (Hf x)
theorem ac1:cO Tryz.prog 278 KL.ctr:=dh dG mixed dO 2 noA 200 5 (λ_=>⟨rfl,rfl,rfl,rfl⟩) λx hx=>Eq.mp (QM x) (Hg x (aZ.1 hx))
theorem QN:cO Tryz.prog 254 yJ.ctr:=dh dG mixed dO 1 noA 200 5 (λ_=>⟨rfl,rfl,rfl,rfl⟩) λx _=>Eq.mp (G7 x) (Cm x)
theorem QO:cO Tryz.prog 254 yK.ctr:=dh dG mixed dO 2 noA 200 5 (λ_=>⟨rfl,rfl,rfl,rfl⟩) λx hx=>Eq.mp (G8 x) (CB x (aZ.1 hx))
theorem V3:cO Tryz.prog 255 Dj.ctr:=dh dG mixed dO 1 noA 200 5 (λ_=>⟨rfl,rfl,rfl,rfl⟩) λx _=>Eq.mp (KN x) (EM x)
theorem V4:cO Tryz.prog 255 Dk.ctr:=dh dG mixed dO 2 noA 200 5 (λ_=>⟨rfl,rfl,rfl,rfl⟩) λx hx=>Eq.mp (KO x) (EO x (aZ.1 hx))
theorem V5:cO Tryz.prog 70 Dl.ctr:=dh dG mixed dO 1 noA 200 5 (λ_=>⟨rfl,rfl,rfl,rfl⟩) λx _=>Eq.mp (KP x) (EN x)
theorem V6:cO Tryz.prog 70 Dn.ctr:=dh dG mixed dO 2 auB 200 5 (λ_=>⟨rfl,rfl,rfl,rfl⟩) λx hx=>Eq.mp (KQ x) (EP x (aZ.1 hx))
theorem yN{X:Type}(x:X)(v:AV)(h':Heap):kP x v h' []=False:=by with_unfolding_all rfl
theorem dV{X:Type}(x:X)(v:AV)(h':Heap)(o:Out X)(r:List (Out X)):kP x v h' (o::r)=((∃y,o.post x y/\v=o.ret x y/\h'=hO o.m (o.os x y))\/kP x v h' r):=by with_unfolding_all rfl
theorem jh{X:Type}{x:X}{v:AV}{h':Heap}{o:Out X}(h:kP x v h' [o]): ∃y,o.post x y/\v=o.ret x y/\h'=hO o.m (o.os x y):=by
 rw[dV,yN,or_false]at h;exact h
theorem nZ{X:Type}{x:X}{v:AV}{h':Heap}{o p:Out X}(h:kP x v h' [o,p]):(∃y,o.post x y/\v=o.ret x y/\h'=hO o.m (o.os x y))\/ ∃y,p.post x y/\v=p.ret x y/\h'=hO p.m (p.os x y):=by
 rw[dV,dV,yN,or_false]at h;exact h
theorem eF{X:Type}{x:X}{v:AV}{h':Heap}{o:Out X}{r:List (Out X)}(h: ∃y,o.post x y/\v=o.ret x y/\h'=hO o.m (o.os x y)):kP x v h' (o::r):=by
 rw[dV];exact .inl h
theorem ER{X:Type}{x:X}{v:AV}{h':Heap}{o p:Out X}{r:List (Out X)}(h: ∃y,p.post x y/\v=p.ret x y/\h'=hO p.m (p.os x y)):kP x v h' (o::p::r):=by
 rw[dV,dV];exact .inr (.inl h)
theorem V7{P:Program}{f:FuncId}{X:Type}{args:X->List AV}{k:Nat}{l:X->List PO}{pre:X->Prop}{ret:X->AV}{m:Nat}{l':X->List PO}
  (h: ∀x,pre x-> ∃(Y:Type) (a2:Y->List AV) (l2:Y->List PO) (p2:Y->Prop) (r2:Y->AV) (l2':Y->List PO) (y:Y),cO P f (oJ Y a2 k l2 p2 r2 m l2').ctr/\p2 y/\a2 y=args x/\l2 y=l x/\r2 y=ret x/\l2' y=l' x):
  cO P f (oJ X args k l pre ret m l').ctr:=by
 refine jg λx hx=> ?_
 obtain⟨Y,a2,l2,p2,r2,l2',y,h1,h2,h3,h4,h5,h6⟩:=h x hx;refine⟨_,h1,rfl,y,h2,h3,by simp only[oJ,iW.ctr,h4],λv h' hh=> ?_⟩;obtain⟨u,e1,e2,e3⟩:=jh hh;exact eF ⟨u,trivial,by rw[e2];exact h5,by rw[e3];show hO m ((l2' y).map PO.ab)=hO m ((l' x).map PO.ab);rw[h6]⟩
def ahN:iW:=oJ Cj (λx=>[.ptr 0 0,x.x.av]) 1 (λx=>[.m x.b.os]) (λx=>Hd (x.b.ok/\x.x.may)) (λx=>i64 (if x.b.n<258 then 0 else 11)) 1 (λx=>[.m (x.b.put x.x).os])
def ahO:iW:={X:=iw,args:=λ_=>[.ptr 0 0],k:=1,l:=λb=>[.m b.os],pre:=λb=>Hd b.ok,outs:=[
 {Y:=Unit,post:=λb _=>Hd (b.n=0),ret:=λ_ _=>gQ,m:=1,l:=λb _=>[.m b.os]},
 {Y:=Unit,post:=λ_ _=>Hd True,ret:=λb _=> .slW 1 0 5 b.n,m:=2,l:=λb _=>[.m b.os,.o (.room 70 b.row)]}]}
def QS:iW:=oJ alh (λx=>[.ptr 0 0,x.x.av]) 1 (λx=>[.m x.l.os]) (λx=>Hd x.l.ok) (λ_=> .tup []) 1 (λx=>[.m (x.l.push x.x).os])
def aaB:iW:=oJ ZLn (λ_=>[.ptr 0 0]) 1 (λl=>[.m l.os]) (λl=>Hd l.ok) (λl=> .tup [l.head.av,boo (decide (l.n≠0))]) 1 (λl=>[.m l.pop.os])
def aaC:iW:={X:=ZLn,args:=λ_=>[.ptr 0 0],k:=1,l:=λl=>[.m l.os],pre:=λl=>Hd l.ok,outs:=[
 {Y:=Unit,post:=λl _=>Hd (l.n=0),ret:=λ_ _=>gQ,m:=1,l:=λl _=>[.m l.os]},
 {Y:=Unit,post:=λl _=>Hd (l.n≠0),ret:=λl _=> .slW 1 0 5 l.n,m:=2,l:=λl _=>[.m l.os,.o (.room 41 (l.all l.n))]}]}
theorem ac2{b:iw}{x:gG}(h:b.ok):(b.put x).os=(b.put x).osP\/b.z=false/\(b.put x).os=(b.put x).osP:=by
 left;unfold iw.put;split
 ·rfl
 ·cases hz:b.z with
  |false=>unfold iw.os;rw[hz];rfl
  |true=>have:=h.2 hz;omega
theorem I8{b:iw}(z:Bool)(h:b.z=z):b.os=bif z then iw.osN else b.osP:=by
 unfold iw.os;rw[h]
theorem ahP:cO Tryz.prog 66 ahN.ctr:=V7 λx hx=>by
 have hx:=aZ.1 hx;have e:(x.b.put x.x).os=(x.b.put x.x).osP:=(ac2 hx.1).elim id And.right;cases hz:x.b.z with
 |true=>exact⟨_,_,_,_,_,_,x,acY,aZ.2 ⟨hx.1,hx.2,hz⟩,rfl,by rw[I8 true hz],rfl,by rw[e]⟩
 |false=>exact⟨_,_,_,_,_,_,x,acZ,aZ.2 ⟨hx.1,hx.2,hz⟩,rfl,by rw[I8 false hz],rfl,by rw[e]⟩
theorem ahQ:cO Tryz.prog 278 ahO.ctr:=jg λx hx=>by
 have hx:=aZ.1 hx;cases hz:x.z with
 |true=>
  refine⟨_,ac0,rfl,(),aZ.2 trivial,rfl,by show [_]=[_];rw[I8 true hz];rfl,λv h' hh=> ?_⟩;obtain⟨y,_,h1,h2⟩:=jh hh;exact eF ⟨(),aZ.2 (hx.2 hz),h1,by rw[h2];show hO 1 [_]=hO 1 [_];rw[I8 true hz];rfl⟩
 |false=>
  refine⟨_,ac1,rfl,x,aZ.2 ⟨hx,hz⟩,rfl,by show [_]=[_];rw[I8 false hz];rfl,λv h' hh=> ?_⟩;obtain⟨y,_,h1,h2⟩:=jh hh;exact ER ⟨(),aZ.2 trivial,h1,by rw[h2];show hO 2 [_,_]=hO 2 [_,_];rw[I8 false hz];rfl⟩
theorem QT{l:ZLn}(h:l.len=0):l.os=ZLn.osN:=by unfold ZLn.os;rw[h];rfl
theorem ES{l:ZLn}(h:l.len≠0):l.os=l.osP:=by unfold ZLn.os;rw[dD,decide_eq_false h];rfl
theorem ln_n{l:ZLn}(h:l.ok)(h0:l.len=0):l.n=0:=by have:=h.2.2.1;omega
theorem V8:cO Tryz.prog 254 QS.ctr:=V7 λx hx=>by
 have hx:=aZ.1 hx;by_cases hz:x.l.len=0
 ·have hn:=ln_n hx hz
  have e:x.l.push x.x=⟨1,1,0,1,λi=>if i=0 then x.x else iQ⟩:=by
   unfold ZLn.push;rw[hn,hz,if_pos rfl];simp only[Nat.not_lt_zero,if_false,Nat.mul_zero,aA]
  exact⟨_,_,_,_,_,_,x.x,QN,aZ.2 trivial,rfl,by rw[QT hz],rfl,by rw[e];rfl⟩
 ·have e:(x.l.push x.x).len≠0:=by unfold ZLn.push;split<;>simp_all
  exact⟨_,_,_,_,_,_,x,QO,aZ.2 ⟨hx,hz⟩,rfl,by rw[ES hz],rfl,by rw[ES e]⟩
theorem amL{l:ZLn}(h:l.n=0):l.head=iQ:=if_pos h
theorem ac3:cO Tryz.prog 255 aaB.ctr:=V7 λx hx=>by
 have hx:=aZ.1 hx;by_cases hz:x.len=0
 ·have hn:=ln_n hx hz
  exact⟨_,_,_,_,_,_,(),V3,aZ.2 trivial,rfl,by rw[QT hz],by rw[amL hn,hn];rfl,by rw[show x.pop=x from if_pos hn,QT hz]⟩
 ·have e:x.pop.len≠0:=by unfold ZLn.pop;split<;>exact hz
  exact⟨_,_,_,_,_,_,x,V4,aZ.2 ⟨hx,hz⟩,rfl,by rw[ES hz],rfl,by rw[ES e]⟩
theorem ac4:cO Tryz.prog 70 aaC.ctr:=jg λx hx=>by
 have hx:=aZ.1 hx;by_cases hz:x.len=0
 ·refine⟨_,V5,rfl,(),aZ.2 trivial,rfl,by show [_]=[_];rw[QT hz],λv h' hh=> ?_⟩
  obtain⟨y,_,h1,h2⟩:=jh hh;exact eF ⟨(),aZ.2 (ln_n hx hz),h1,by rw[h2];show hO 1 [_]=hO 1 [_];rw[QT hz]⟩
 ·refine⟨_,V6,rfl,x,aZ.2 ⟨hx,hz⟩,rfl,by show [_]=[_];rw[ES hz],λv h' hh=> ?_⟩
  rcases nZ hh with ⟨y,h0,h1,h2⟩|⟨y,h0,h1,h2⟩
  ·exact eF ⟨(),h0,h1,by rw[h2];show hO 1 [_]=hO 1 [_];rw[ES hz]⟩
  ·exact ER ⟨(),h0,h1,by rw[h2];show hO 2 [_,_]=hO 2 [_,_];rw[ES hz]⟩
structure ZBlk where
 cls:Int
 kind:Int
 id:Int
 ver:Int
 epoch:Int
 key:ByteArray
 value:ByteArray
namespace ZBlk
def av(b:ZBlk):AV:= .agg [i64 b.cls,i64 b.kind,u64 b.id,u64 b.ver,u64 b.epoch,.lit (.string b.key),.lit (.string b.value)]
def num(v:Int):Prop:=1<=v/\v<=2305843009213693952
def nums(b:ZBlk):Prop:=num b.id/\num b.ver/\num b.epoch
def may(b:ZBlk):Prop:=spn b.cls≠0/\(
 b.kind=0/\b.id=0/\b.ver=0/\b.epoch=0/\b.key=⟨#[]⟩/\b.value=⟨#[]⟩\/
 b.kind=1/\1<=b.key.size/\b.key.size<=16/\b.value.size<=400/\ned (b.key.size+b.value.size:Nat)=b.cls/\b.nums\/
 b.kind=2/\b.key=⟨#[]⟩/\b.value.size<=400/\ned (b.key.size+b.value.size:Nat)=b.cls/\b.nums\/
 b.kind=3/\b.key.size+b.value.size=0/\b.cls=0/\b.nums)
def dat(b:ZBlk)(i:Nat):Int:=if i<(b.key++b.value).size then eG (b.key++b.value) i else 0
def h32(b:ZBlk)(k:Nat):Int:=if k=0 then 1 else if k=1 then b.cls else if k=2 then b.kind else if k=3 then b.key.size else if k<6 then(b.value.size:Int)/256^(k-4)%256 else if k<8 then 0 else
 if k<16 then b.id/256^(k-8)%256 else if k<24 then b.ver/256^(k-16)%256 else if k<32 then b.epoch/256^(k-24)%256 else 0
noncomputable def jL(b:ZBlk)(g:Nat->Int)(n:Nat)(k:Nat):Int:=if k<32 then b.h32 k else if k<36 then nI (nI 0 b.h32 32) g n/256^(k-32)%256 else g (k-36)
def iI(b:ZBlk):Nat:=(cpc b.cls).toNat
def dL(b:ZBlk):Nat:=(spn b.cls).toNat
noncomputable def enc(b:ZBlk)(k:Nat):Int:=if k<64 then b.jL b.dat b.iI k else if k%64=0 then 2 else b.dat (28+(k/64-1)*63+(k%64-1))
end ZBlk
noncomputable def ZBlk.OJ(b:ZBlk):Bool:=hide (@decide b.may (Classical.propDecidable _))
theorem yO{b:ZBlk}:b.OJ=true↔b.may:=by unfold ZBlk.OJ;rw[iK];exact @decide_eq_true_iff _ (Classical.propDecidable _)
noncomputable def apC:Ctr:=det ZBlk (λb=>[b.av]) 0 (λ_=>[]) (λb=>Hd (b.key.size<1099511627776/\b.value.size<1099511627776)) (λb=>boo b.OJ) 0 (λ_=>[])
def wV(g:Nat->Int)(a:Nat):Nat->Int
 |0=>0
 |w+1=>wV g a w+g (a+w)*256^w
structure ET where
 b:Bys
 at_:Nat
 w:Nat
def arC:Ctr:=det ET (λx=>[x.b.av 0,i64 x.at_,i64 x.w]) 1 (λx=>[x.b.ro]) (λx=>Hd (x.b.ok/\x.at_+x.w<=x.b.n/\1<=x.w/\x.w<=8)) (λx=> .tup [u64 (wV (λk=>x.b.g (x.b.q+k)) x.at_ x.w),i64 0]) 1 (λx=>[x.b.ro])
def auC(x:ET):FuncId->qL:=λf=>bif Nat.beq f 228 then(λb _ _=>bif Nat.beq b 0 then [
 {σ:=Nat,fr:=λk=>[(19,i64 k),(9,u64 (wV (λk=>x.b.g (x.b.q+k)) x.at_ k))],ob:=λ_=>[],inv:=λk=>Hd (k<=x.w),meas:=λk=>x.w-k}]else [])elseλ_ _ _=>[]
structure CG where
 g:Nat->Int
 at_:Nat
 w:Nat
 v:Int
def V9:Ctr:=det CG (λx=>[.slE 0 0 1 64 64,i64 x.at_,i64 x.w,u64 x.v]) 1 (λx=>[.cells 5 (rowB x.g 64)]) (λx=>Hd (x.at_+x.w<=64/\1<=x.w/\x.w<=8/\0<=x.v/\x.v<256^x.w/\ ∀k,0<=x.g k/\x.g k<256)) (λ_=> .tup []) 1 (λx=>[.cells 5 (rowB (pG x.g x.at_ x.w x.v) 64)])
structure zM where
 b:ZBlk
 d:Bys
def zM.ok(x:zM):Prop:=x.d.ok/\28<=x.d.n/\x.b.key.size<256/\x.b.value.size<65536/\0<=x.b.cls/\x.b.cls<256/\0<=x.b.kind/\x.b.kind<256/\0<=x.b.id/\x.b.id<18446744073709551616/\0<=x.b.ver/\x.b.ver<18446744073709551616/\0<=x.b.epoch/\x.b.epoch<18446744073709551616
noncomputable def Ei:Ctr:=det zM (λx=>[x.b.av,x.d.av 0]) 1 (λx=>[x.d.ro]) (λx=>Hd x.ok) (λ_=> .slE 1 0 1 64 64) 2 (λx=>[x.d.ro,.cells 5 (rowB (x.b.jL (λk=>x.d.g (x.d.q+k)) x.d.n) 64)])
noncomputable def auD:je:=[(171,ami),(170,ctrT apn),(169,ctrT V9)]
noncomputable def tblB0:je:=[(215,ctrT apo)]
def QU(a:ZBlk):Prop:=True/\a.OJ=false/\True
def aaD(a:Int):Prop:=AV.lit (Value.int .i64 a)=AV.lit (Value.int .i64 a)
def QV(a:Int):Prop:=aaD a/\True
def arD(a:ZBlk)(b:Int):Prop:=True/\ ∀y_1:Unit,True->QV a.cls/\cP (bne (ned b) a.cls) (∃y_2:Unit,QU a) (cP (decide (a.id>=(1:Int))) (cP (decide (a.id<=2305843009213693952)) (cP (decide (a.ver>=(1:Int))) (cP (decide (a.ver<=2305843009213693952)) (cP (decide (a.epoch>=(1:Int))) (∃y_2:Unit,True/\a.OJ=decide (a.epoch<=2305843009213693952)/\True) (∃y_2:Unit,QU a)) (∃y_2:Unit,QU a)) (∃y_2:Unit,QU a)) (∃y_2:Unit,QU a)) (∃y_2:Unit,QU a))
def pI(a:ZBlk):Prop:= ∃y_1:Unit,QU a
def QW(a:ZBlk):Prop:=(AV.lit (Value.tuple (@List.toArray Value (@List.nil Value)))=AV.lit (Value.tuple (@List.toArray Value (@List.nil Value)))/\True)/\pI a
def arE(a:ZBlk):Prop:=cP (decide ((a.key.size:Int)+(a.value.size:Int)-(a.key.size:Int)>(400:Int))) (QW a) (I64 ((a.key.size:Int)+((a.key.size:Int)+(a.value.size:Int)-(a.key.size:Int)))/\ ∃x_1:Int,True/\(x_1=(a.key.size:Int)+((a.key.size:Int)+(a.value.size:Int)-(a.key.size:Int))/\True)/\arD a x_1)
def arF(a:ZBlk):Prop:=cP (decide ((a.key.size:Int)+(a.value.size:Int)>(400:Int))) (QW a) (I64 ((a.key.size:Int)+((a.key.size:Int)+(a.value.size:Int)))/\ ∃x_1:Int,True/\(x_1=(a.key.size:Int)+((a.key.size:Int)+(a.value.size:Int))/\True)/\arD a x_1)
def ac5(a:CG):Prop:=Hd (a.at_+a.w<=64/\1<=a.w/\a.w<=8/\0<=a.v/\a.v< @HPow.hPow Int Nat Int (@instHPow Int Nat (@instPowNat Int @Int.instNatPow)) (256:Int) a.w/\ ∀k:Nat,0<=a.g k/\a.g k<256)
def QX(a:CG)(b:CG):Prop:=(64=64/\ ∀q:Nat,q<64->[Value.int .u8 (a.g q)]=[Value.int .u8 (pG b.g b.at_ b.w b.v q)])/\True
def yP(a:Bys):Prop:=rowB a.g a.N=rowB a.g a.N/\true=true
def BH:Prop:=0=0/\64=64/\64=64
def ahR(a:ET):Prop:= ∃y:Unit,True/\(wV (λ(k:Nat)=>a.b.g (a.b.q+k)) a.at_ a.w=0/\(0:Int)=1/\True)/\yP a.b/\True
def ahS(a:Bys)(b:Nat):Prop:=(Nat.beq (List.length [Value.int .u8 (a.g (a.q+b))]) 1&&List.all [Value.int .u8 (a.g (a.q+b))] Value.oneCell')=true
def ahT(a:uS)(b:Nat):Prop:=(Nat.beq (List.length [Value.int .u8 (a.res (0+b))]) 1&&List.all [Value.int .u8 (a.res (0+b))] Value.oneCell')=true
def aaE(a:ByteArray):Prop:=AV.lit (Value.string a)=AV.lit (Value.string a)
def arG(b:ZBlk):Prop:=
 ∃x:Int,True/\(x=b.cls/\True)/\True/\ ∀y:Unit,True->cP (BEq.beq (spn x) (0:Int)) (pI b) (I64 ((b.key.size:Int)+(b.value.size:Int))/\cP (BEq.beq b.kind (0:Int)) (∃y_1:Unit,True/\b.OJ=(BEq.beq b.cls b.cls&&(BEq.beq b.kind (0:Int)&&(BEq.beq b.id (0:Int)&&(BEq.beq b.ver (0:Int)&&(BEq.beq b.epoch (0:Int)&&(BEq.beq (ByteArray.toList b.key) (ByteArray.toList (ByteArray.mk #[]))&&(BEq.beq (ByteArray.toList b.value) (ByteArray.toList (ByteArray.mk #[]))&&true)))))))/\True) (cP (BEq.beq b.kind (1:Int)) (cP (decide ((b.key.size:Int)<1)) (pI b) (cP (decide ((b.key.size:Int)>(16:Int))) (pI b) (I64 ((b.key.size:Int)+(b.value.size:Int)-(b.key.size:Int))/\cP (BEq.beq b.kind (2:Int)) (cP (Bool.not (BEq.beq (ByteArray.toList b.key) (ByteArray.toList (ByteArray.mk #[])))) (QW b) (arE b)) (arE b)))) (cP (BEq.beq b.kind (2:Int)) (cP (BEq.beq b.kind (2:Int)) (cP (Bool.not (BEq.beq (ByteArray.toList b.key) (ByteArray.toList (ByteArray.mk #[])))) (QW b) (arF b)) (arF b)) (cP (BEq.beq b.kind (3:Int)) (cP (bne ((b.key.size:Int)+(b.value.size:Int)) (0:Int)) (pI b) (cP (bne b.cls (0:Int)) (pI b) (cP (decide (b.id>=(1:Int))) (cP (decide (b.id<=2305843009213693952)) (cP (decide (b.ver>=(1:Int))) (cP (decide (b.ver<=2305843009213693952)) (cP (decide (b.epoch>=(1:Int))) (∃y_1:Unit,True/\b.OJ=decide (b.epoch<=2305843009213693952)/\True) (pI b)) (pI b)) (pI b)) (pI b)) (pI b)))) (pI b)))))
theorem amM(b:ZBlk):arG b=wpF Tryz.prog [(113,ctrT zH),(201,ctrT Vx)] tt (noA b) 200 5 229 (apC.args b) (hO apC.k (apC.os b)) (λv h'=>eX apC.k b v h' apC.outs):=by kernel_rfl
def arH(x:ET):Prop:=
 cP (decide ((x.w:Int)<1)) (ahR x) (cP (decide ((x.w:Int)>(8:Int))) (ahR x) (I64 ((x.b.n:Int)-(x.w:Int))/\cP (decide ((x.at_:Int)>(x.b.n:Int)-(x.w:Int))) (∃y:Unit,True/\(wV (λ(k:Nat)=>x.b.g (x.b.q+k)) x.at_ x.w=0/\(0:Int)=2/\True)/\yP x.b/\True) ((∃s:Nat,Hd (s<=x.w)/\True/\((s:Int)=0/\wV (λ(k:Nat)=>x.b.g (x.b.q+k)) x.at_ s=0/\True)/\yP x.b/\True)/\(∀s:Nat,Hd (s<=x.w)->cP (decide ((s:Int)<(x.w:Int))) (I64 ((x.at_:Int)+(s:Int))/\(0<=(x.at_:Int)+(s:Int)/\(x.at_:Int)+(s:Int)<(x.b.n:Int))/\x.b.q+Int.toNat ((x.at_:Int)+(s:Int))<x.b.N/\I64 (8*(s:Int))/\0<=8*(s:Int)/\I64 ((s:Int)+1)/\ ∃s_1:Nat,Hd (s_1<=x.w)/\x.w-s_1<x.w-s/\((s_1:Int)=(s:Int)+1/\wV (λ(k:Nat)=>x.b.g (x.b.q+k)) x.at_ s_1=IntKind.wrap .u64 ((@BitVec.toNat 64 (@HOr.hOr (@BitVec 64) (@BitVec 64) (@BitVec 64) (@instHOrOfOrOp (@BitVec 64) (@BitVec.instOrOp 64)) (@BitVec.ofInt 64 (wV (λ(k:Nat)=>x.b.g (x.b.q+k)) x.at_ s)) (@BitVec.ofInt 64 (IntKind.wrap .u64 (IntKind.wrap .u64 (x.b.g (x.b.q+Int.toNat ((x.at_:Int)+(s:Int))))* @HPow.hPow Int Nat Int (@instHPow Int Nat (@instPowNat Int @Int.instNatPow)) (2:Int) (@Min.min Nat @instMinNat (Int.toNat (8*(s:Int))) 64))))):Nat):Int)/\True)/\yP x.b/\True) (∃y:Unit,True/\(wV (λ(k:Nat)=>x.b.g (x.b.q+k)) x.at_ x.w=wV (λ(k:Nat)=>x.b.g (x.b.q+k)) x.at_ s/\(0:Int)=0/\True)/\yP x.b/\True))/\True)))
theorem amN(x:ET):arH x=wpF Tryz.prog [] tt (auC x) 200 5 228 (arC.args x) (hO arC.k (arC.os x)) (λv h'=>eX arC.k x v h' arC.outs):=by kernel_rfl
def ahU(x:zM):Prop:=
 ((0:Int)<=64/\(0:Int)<=0/\(0:Int)<=281474976710592/\(0:Int)<=4611686018427387839)/\((0:Int)<=0/\(0:Int)<=63)/\0<64/\(aaE x.b.key/\aaD x.b.kind/\QV x.b.cls)/\((0:Int)<=1/\(0:Int)<=62)/\1<64/\(aaE x.b.key/\QV x.b.kind)/\((0:Int)<=2/\(0:Int)<=61)/\2<64/\(aaE x.b.key/\True)/\((0:Int)<=3/\(0:Int)<=60)/\3<64/\True/\ ∃x_1:CG,ac5 x_1/\(BH/\(x_1.at_:Int)=4/\(x_1.w:Int)=2/\x_1.v=IntKind.wrap .u64 (x.b.value.size:Int)/\True)/\((64=64/\ ∀q:Nat,q<64->[Value.int .u8 (x_1.g q)]=Cs.eff (λ(x_2:Nat)=>[Value.int .u8 0]) [(3,[Value.int .u8 (IntKind.wrap .u8 (x.b.key.size:Int))]),(2,[Value.int .u8 (IntKind.wrap .u8 x.b.kind)]),(1,[Value.int .u8 (IntKind.wrap .u8 x.b.cls)]),(0,[Value.int .u8 1])] q)/\True)/\ ∀y:Unit,True-> ∃x_2:CG,ac5 x_2/\(BH/\(x_2.at_:Int)=8/\(x_2.w:Int)=8/\x_2.v=x.b.id/\True)/\QX x_2 x_1/\ ∀y_1:Unit,True-> ∃x_3:CG,ac5 x_3/\(BH/\(x_3.at_:Int)=16/\(x_3.w:Int)=8/\x_3.v=x.b.ver/\True)/\QX x_3 x_2/\ ∀y_2:Unit,True-> ∃x_4:CG,ac5 x_4/\(BH/\(x_4.at_:Int)=24/\(x_4.w:Int)=8/\x_4.v=x.b.epoch/\True)/\QX x_4 x_3/\ ∀y_3:Unit,True->(0:Int)<=32/\(0<=32/\32<=64/\64<=64)/\32<=64/\ ∃n:Nat,∃g: ∀a:Nat,Int,32=n/\n<1099511627776/\(∀k:Nat,k<n->[Value.int .u8 (pG x_4.g x_4.at_ x_4.w x_4.v (0+k))]=[Value.int .u8 (g k)])/\(∀k:Nat,0<=g k/\g k<256)/\ ∃x_5:aq7,Hd (U32 x_5.c/\x_5.b.ok)/\(x_5.c=nI (0:Int) g n/\(x_5.b.q=x.d.q/\x_5.b.n=x.d.n)/\True)/\((x_5.b.N=x.d.N/\ ∀q:Nat,q<x_5.b.N->[Value.int .u8 (x_5.b.g q)]=[Value.int .u8 (x.d.g q)])/\True)/\
 ∀y_4:Unit,True-> ∃x_6:CG,ac5 x_6/\(BH/\(x_6.at_:Int)=32/\(x_6.w:Int)=4/\x_6.v=IntKind.wrap .u64 (nI x_5.c (λ(k:Nat)=>x_5.b.g (x_5.b.q+k)) x_5.b.n)/\True)/\QX x_6 x_4/\ ∀y_5:Unit,True->(0:Int)<=36/\(36<=64/\64<=64/\64<=64)/\64<=64/\cP (Nat.ble x.d.n 28) (x.d.q+x.d.n<=x.d.N/\(∀k:Nat,k<x.d.n->ahS x.d k)/\ ∃y_6:Unit,True/\BH/\yP x.d/\(64=64/\ ∀q:Nat,q<64->[Value.int .u8 (x.b.jL (λ(k:Nat)=>x.d.g (x.d.q+k)) x.d.n q)]=Cs.eff (λ(p:Nat)=>cond (Nat.ble 36 p&&Nat.blt p (36+x.d.n)) [Value.int .u8 (x.d.g (x.d.q+(p-36)))] [Value.int .u8 (pG x_6.g x_6.at_ x_6.w x_6.v p)]) [] q)/\True) (x.d.q+28<=x.d.N/\(∀k:Nat,k<28->ahS x.d k)/\ ∃y_6:Unit,True/\BH/\yP x.d/\(64=64/\ ∀q:Nat,q<64->[Value.int .u8 (x.b.jL (λ(k:Nat)=>x.d.g (x.d.q+k)) x.d.n q)]=Cs.eff (λ(p:Nat)=>cond (Nat.ble 36 p&&Nat.blt p 64) [Value.int .u8 (x.d.g (x.d.q+(p-36)))] [Value.int .u8 (pG x_6.g x_6.at_ x_6.w x_6.v p)]) [] q)/\True)
theorem ahV(x:zM):ahU x=wpF Tryz.prog auD tt (noA x) 200 5 114 (Ei.args x) (hO Ei.k (Ei.os x)) (λv h'=>eX Ei.k x v h' Ei.outs):=by kernel_rfl
def ahW(x:CG):Prop:=
 ∃x_1:uS,Hd x_1.ok/\((x_1.b.q=0/\x_1.b.n=64/\x_1.c=64)/\(x_1.at_:Int)=(x.at_:Int)/\(x_1.w:Int)=(x.w:Int)/\x_1.v=x.v/\True)/\((x_1.b.N=64/\ ∀q:Nat,q<x_1.b.N->[Value.int .u8 (x_1.b.g q)]=[Value.int .u8 (x.g q)])/\True)/\ ∀y:Unit,True->64<=64/\cP (Nat.ble x_1.b.n 64) (0+x_1.b.n<=x_1.b.n/\(∀k:Nat,k<x_1.b.n->ahT x_1 k)/\ ∃y_1:Unit,True/\True/\(64=64/\ ∀q:Nat,q<64->[Value.int .u8 (pG x.g x.at_ x.w x.v q)]=Cs.eff (λ(p:Nat)=>cond (Nat.ble 0 p&&Nat.blt p (0+x_1.b.n)) [Value.int .u8 (x_1.res (0+(p-0)))] [Value.int .u8 (x.g p)]) [] q)/\True) (64<=x_1.b.n/\(∀k:Nat,k<64->ahT x_1 k)/\ ∃y_1:Unit,True/\True/\(64=64/\ ∀q:Nat,q<64->[Value.int .u8 (pG x.g x.at_ x.w x.v q)]=Cs.eff (λ(p:Nat)=>cond (Nat.ble 0 p&&Nat.blt p 64) [Value.int .u8 (x_1.res (0+(p-0)))] [Value.int .u8 (x.g p)]) [] q)/\True)
theorem ahX(x:CG):ahW x=wpF Tryz.prog tblB0 tt (noA x) 200 5 169 (V9.args x) (hO V9.k (V9.os x)) (λv h'=>eX V9.k x v h' V9.outs):=by kernel_rfl
theorem qG{b:Bool}{x y:Prop}:cP b x y↔(b=true->x)/\(b=false->y):=⟨λh=>by cases b with
 |true=>exact⟨λ_=>h,λe=>nomatch e⟩
 |false=>exact⟨λe=>(nomatch e),λ_=>h⟩,λh=>bf h.1 h.2⟩
theorem Wh(x:CG)(hx:x.at_+x.w<=64/\1<=x.w/\x.w<=8/\0<=x.v/\x.v<256^x.w/\ ∀k,0<=x.g k/\x.g k<256):ahW x:=by
 obtain⟨h1,h2,h3,h4,h5,h6⟩:=hx;have e1:Nat.ble 64 64=true:=rfl;unfold ahW;simp only[ahT];simp only[aZ,aV,aU,aA,aI,bU,bG,aO,aK,ay,aX,aW,bV,bH,bJ,bK,bW,bC,bM,bn,eY,aH,aN,ah,ak,aB,aF,aC,aG];simp only[qG];refine⟨⟨⟨x.g,0,64,64⟩,x.at_,x.w,x.v,64⟩,⟨⟨by simp,by simp,h6⟩,h1,h2,h3,h4,h5⟩,⟨⟨rfl,rfl,rfl⟩,rfl,rfl,rfl⟩,⟨rfl,λq _=>rfl⟩,?_⟩;have key: ∀q,q<64->pG x.g x.at_ x.w x.v q=bif Nat.blt q 64 then(uS.mk ⟨x.g,0,64,64⟩ x.at_ x.w x.v 64).res q else x.g q:=λq hq=>by
  rw[bg.2 hq,aP];simp only[uS.res,aA]
 exact⟨aY _,λ_=>⟨aY _,λq hq=>key q hq⟩,λh=>absurd (show Nat.ble 64 64=false from h) (by decide)⟩
theorem ahY{g:Nat->Int}(hg: ∀k,0<=g k/\g k<256)(a:Nat): ∀w,0<=wV g a w/\wV g a w<256^w
 |0=>⟨Int.le_refl _,by show(0:Int)<256^0;decide⟩
 |w+1=>by
  have ih:=ahY hg a w;have h:=hg (a+w);have hp:(0:Int)<256^w:=Int.pow_pos (by omega);simp only[wV];have h1:0<=g (a+w)*256^w:=Int.mul_nonneg h.1 (Int.le_of_lt hp);have h2:g (a+w)*256^w<=255*256^w:=Int.mul_le_mul_of_nonneg_right (by omega) (Int.le_of_lt hp);rw[Int.pow_succ];omega
theorem or64{a b:Int}{s:Nat}(ha:0<=a)(ha2:a<256^s)(hb:0<=b)(hb2:b<256)(hs:s<8):IntKind.u64.wrap (((BitVec.ofInt 64 a|||BitVec.ofInt 64 (IntKind.u64.wrap (b*256^s))).toNat:Nat):Int)=a+b*256^s:=by
 obtain⟨x,rfl⟩:=Int.eq_ofNat_of_zero_le ha;obtain⟨y,rfl⟩:=Int.eq_ofNat_of_zero_le hb;have hx:x<2^(8*s):=by
  rw[Nat.pow_mul];have:((256:Nat):Int)^s=((256^s:Nat):Int):=(Int.natCast_pow 256 s).symm;have h2:(x:Int)<((256^s:Nat):Int):=by rw[<-this];exact ha2
  exact Int.ofNat_lt.1 h2
 have hy:y<256:=by omega
 have e1:(y:Int)*256^s=((y*2^(8*s):Nat):Int):=by rw[Nat.pow_mul,show(2:Nat)^8=256 from rfl,Int.natCast_mul,Int.natCast_pow];rfl
 have hp:2^(8*s)<=2^56:=Nat.pow_le_pow_right (by decide) (by omega);have hlt:y*2^(8*s)<2^64:=by
  have:y*2^(8*s)<=255*2^56:=Nat.mul_le_mul (by omega) hp;omega
 have hor:x|||y*2^(8*s)=x+y*2^(8*s):=by
  rw[Nat.or_comm,Nat.add_comm,<-Nat.shiftLeft_eq,Nat.shiftLeft_add_eq_or_of_lt hx]
 have hx64:x<2^64:=by omega
 have hsum:x+y*2^(8*s)<2^64:=by
  have:y*2^(8*s)<=255*2^(8*s):=Nat.mul_le_mul_right _ (by omega);omega
 have hw: ∀n:Nat,n<2^64->IntKind.u64.wrap (n:Int)=(n:Int):=λn hn=>by
  unfold IntKind.wrap;simp only[IntKind.bits,IntKind.signed];have:(n:Int)%(2^64)=n:=Int.emod_eq_of_lt (by omega) (by omega);simpa using this
 rw[e1,hw _ hlt,show BitVec.ofInt 64 ((x:Nat):Int)=BitVec.ofNat 64 x from BitVec.ofInt_natCast ..,show BitVec.ofInt 64 ((y*2^(8*s):Nat):Int)=BitVec.ofNat 64 (y*2^(8*s)) from BitVec.ofInt_natCast ..,BitVec.toNat_or,BitVec.toNat_ofNat,BitVec.toNat_ofNat,Nat.mod_eq_of_lt hx64,Nat.mod_eq_of_lt hlt,hor,hw _ hsum];omega
theorem amO{z:Int}(h:0<=z/\z<256):IntKind.u64.wrap z=z:=by
 unfold IntKind.wrap;simp only[IntKind.bits,IntKind.signed];have:z%(2^64)=z:=Int.emod_eq_of_lt (by omega) (by omega);simpa using this
theorem ac6(x:ET)(hx:x.b.ok/\x.at_+x.w<=x.b.n/\1<=x.w/\x.w<=8):arH x:=by
 obtain⟨⟨h1,h2,h3⟩,h4,h5,h6⟩:=hx;unfold arH;simp only[ahR,yP];simp only[aZ,aV,aU,aA,aI,bU,bG,aO,aK,ay,aX,aW,bV,bH,bJ,bK,bW,bC,bM,bn,eY,aH,aN,ah,ak,aB,aF,aC,aG];refine bf (λh=>absurd (aS h) (by omega)) λ_=>bf (λh=>absurd (aS h) (by omega)) λ_=>⟨by unfold I64;omega,bf (λh=>absurd (aS h) (by omega)) λ_=>⟨⟨0,by omega,rfl,rfl⟩,λs hs=>bf (λh=> ?_) λh=> ?_⟩⟩
 ·have hs':s<x.w:=by have:=aS h;omega
  refine⟨by unfold I64;omega,⟨by omega,by omega⟩,by omega,by unfold I64;omega,by omega,by unfold I64;omega,s+1,by omega,by omega,by omega,?_⟩;have hb:=ahY (g:=λk=>x.b.g (x.b.q+k)) (λk=>h3 _) x.at_ s;rw[show((x.at_:Int)+(s:Int)).toNat=x.at_+s by omega,amO (h3 _),U6 (by omega),or64 hb.1 hb.2 (h3 _).1 (h3 _).2 (by omega)];rfl
 ·rw[show x.w=s by have:=aT h;omega]
theorem ahZ(a b:ByteArray):(a.toList==b.toList)=true↔a=b:=by
 rw[beq_iff_eq];exact⟨λh=>by rw[toList_data,toList_data]at h;cases a;cases b;simp at h;simp[h],λh=>by rw[h]⟩
theorem ac7(b:ZBlk)(hb:b.key.size<1099511627776/\b.value.size<1099511627776):arG b:=by
 unfold arG;simp only[pI,QW,arE,arF,arD,QV,QU,aaD];simp only[aZ,aV,aU,aA,aI,bU,bG,aO,aK,ay,aX,aW,bV,bH,bJ,bK,bW,bC,bM,bn,eY,aH,aN,ah,ak,aB,aF,aC,aG];have hF: ¬b.may->b.OJ=false:=λh=>by
  cases hm:b.OJ with
  |true=>exact absurd (yO.1 hm) h
  |false=>rfl
 have hT:b.may->b.OJ=true:=yO.2;have hB: ∀x:Bool,(x=true↔b.may)->b.OJ=x:=λx h=>by
  cases hx:x with
  |true=>exact hT (h.1 hx)
  |false=>exact hF λhm=>by rw[h.2 hm]at hx;cases hx
 have n1:((b.key.size:Int)+((b.key.size:Int)+(b.value.size:Int)-(b.key.size:Int)))=((b.key.size+b.value.size:Nat):Int):=by omega
 have n2:((b.key.size:Int)+(b.value.size:Int)-(b.key.size:Int))=(b.value.size:Int):=by omega
 have kz:b.key=⟨#[]⟩->b.key.size=0:=λh=>by rw[h];rfl
 have vz:b.value=⟨#[]⟩->b.value.size=0:=λh=>by rw[h];rfl
 obtain⟨b1,b2⟩:=hb;have ek:=ahZ b.key ⟨#[]⟩;have ev:=ahZ b.value ⟨#[]⟩;generalize hek:(b.key.toList==ByteArray.toList ⟨#[]⟩)=kk at ek ⊢;generalize hev:(b.value.toList==ByteArray.toList ⟨#[]⟩)=vv at ev ⊢;simp only[n1,n2,I64,beq_self_eq_true,aH,Bool.and_true];unfold ZBlk.may ZBlk.nums ZBlk.num at hB hF hT;clear hek hev;generalize b.OJ=m at hB hF hT ⊢;by_cases s0:spn b.cls=0
 ·rw[show(spn b.cls==0)=true from beq_iff_eq.2 s0]
  exact hF λh=>h.1 s0
 rw[show(spn b.cls==0)=false from beq_eq_false_iff_ne.2 s0];refine⟨by omega,?_⟩;by_cases k0:b.kind=0
 ·simp only[k0,beq_self_eq_true,kQ]
  exact hB _ (by grind)
 by_cases k1:b.kind=1
 ·simp only[k1,qG]
  simp only[k1]at hT hF;clear hB ek ev kz vz;grind (splits:=30)
 by_cases k2:b.kind=2
 ·by_cases hk:b.key=⟨#[]⟩
  ·have k0':=kz hk
   have n3:((0:Nat):Int)+(((0:Nat):Int)+(b.value.size:Int))=((0+b.value.size:Nat):Int):=by omega
   have hkk:=ek.2 hk;simp only[k2,k0',hkk,hk,n3,qG]at hF hT ⊢;clear hB ek ev kz vz;grind (splits:=30)
  ·have hkk:kk=false:=by
    cases h:kk with
    |false=>rfl
    |true=>exact absurd (ek.1 h) hk
   simp only[k2,hkk,qG]at hT hF ⊢;clear hB ek ev kz vz;grind
 by_cases k3:b.kind=3
 ·simp only[k3,qG]
  simp only[k3]at hT hF;clear hB ek ev kz vz;grind (splits:=30)
 ·rw[show(b.kind==0)=false from beq_eq_false_iff_ne.2 k0,show(b.kind==1)=false from beq_eq_false_iff_ne.2 k1,show(b.kind==2)=false from beq_eq_false_iff_ne.2 k2,show(b.kind==3)=false from beq_eq_false_iff_ne.2 k3]
  exact hF (by grind)
theorem jf{z:Int}(h:0<=z)(h2:z<18446744073709551616):IntKind.u64.wrap z=z:=by
 unfold IntKind.wrap;simp only[IntKind.bits,IntKind.signed];have:z%(2^64)=z:=Int.emod_eq_of_lt h (by omega);simpa using this
theorem arI(b:ZBlk)(q:Nat):pG (pG (pG (pG (λq=>if q=0 then 1 else if q=1 then b.cls else if q=2 then b.kind else if q=3 then(b.key.size:Int)else 0) 4 2 b.value.size) 8 8 b.id) 16 8 b.ver) 24 8 b.epoch q=b.h32 q:=by
 unfold pG ZBlk.h32;grind (splits:=30)
theorem Wi(x:zM)(hx:x.ok):ahU x:=by
 obtain⟨⟨d1,d2,d3⟩,dn,h1,h2,h3,h4,h5,h6,h7,h8,h9,h10,h11,h12⟩:=hx;let g0:Nat->Int:=λq=>if q=0 then 1 else if q=1 then x.b.cls else if q=2 then x.b.kind else if q=3 then(x.b.key.size:Int)else 0
 have hg0: ∀k,0<=g0 k/\g0 k<256:=λk=>by simp only[g0];grind
 let g1:=pG g0 4 2 x.b.value.size
 have hg1: ∀k,0<=g1 k/\g1 k<256:=zG hg0 _ _ _;let g2:=pG g1 8 8 x.b.id
 have hg2: ∀k,0<=g2 k/\g2 k<256:=zG hg1 _ _ _;let g3:=pG g2 16 8 x.b.ver
 have hg3: ∀k,0<=g3 k/\g3 k<256:=zG hg2 _ _ _;let g4:=pG g3 24 8 x.b.epoch
 have hg4: ∀k,0<=g4 k/\g4 k<256:=zG hg3 _ _ _;have e4: ∀q,g4 q=x.b.h32 q:=λq=>arI x.b q
 have hU1:=ZX 0 g4 32;have hU:=ZX (nI 0 g4 32) (λk=>x.d.g (x.d.q+k)) x.d.n;have w1:IntKind.u64.wrap (x.b.value.size:Int)=x.b.value.size:=jf (by omega) (by omega);have w2:IntKind.u64.wrap (nI (nI 0 g4 32) (λk=>x.d.g (x.d.q+k)) x.d.n)=nI (nI 0 g4 32) (λk=>x.d.g (x.d.q+k)) x.d.n:=jf hU.1 (by have:=hU.2;omega);have ub: ∀z:Int,0<=z->z<256->IntKind.u8.wrap z=z:=λz a b=>by rw[apr];exact Int.emod_eq_of_lt a b
 have fin: ∀q,q<64->x.b.jL (λk=>x.d.g (x.d.q+k)) x.d.n q=if 36<=q then x.d.g (x.d.q+(q-36))else pG g4 32 4 (nI (nI 0 g4 32) (λk=>x.d.g (x.d.q+k)) x.d.n) q:=λq hq=>by
  unfold ZBlk.jL;have ea:nI 0 g4 32=nI 0 x.b.h32 32:=zF λk _=>e4 k
  rw[ea];unfold pG;by_cases q1:q<32
  ·rw[if_pos q1,if_neg (by omega),if_neg (by omega),e4]
  ·rw[if_neg q1]
   by_cases q2:q<36
   ·rw[if_pos q2,if_neg (by omega),if_pos (by omega)]
   ·rw[if_neg q2,if_pos (by omega)]
 unfold ahU;simp only[aaE,aaD,QV,ac5,BH,QX,ahS,yP];simp only[aZ,aV,aU,aA,aI,bU,bG,aO,aK,ay,aX,aW,bV,bH,bJ,bK,bW,bC,bM,bn,eY,aH,aN,ah,ak,aB,aF,aC,aG,w1,ub _ h3 h4,ub _ h5 h6,ub _ (show(0:Int)<=x.b.key.size by omega) (show(x.b.key.size:Int)<256 by omega)]
 refine⟨by decide,by decide,by decide,by decide,by decide,by decide,by decide,by decide,by decide,
  ⟨g0,4,2,x.b.value.size⟩,⟨show 4+2<=64 by decide,show 1<=2 by decide,show 2<=8 by decide,show(0:Int)<=x.b.value.size by omega,show(x.b.value.size:Int)<256^2 by omega,hg0⟩,⟨rfl,rfl,rfl⟩,λq _=> ?_,
  ⟨g1,8,8,x.b.id⟩,⟨show 8+8<=64 by decide,show 1<=8 by decide,show 8<=8 by decide,h7,h8,hg1⟩,⟨rfl,rfl,rfl⟩,λq _=>rfl,
  ⟨g2,16,8,x.b.ver⟩,⟨show 16+8<=64 by decide,show 1<=8 by decide,show 8<=8 by decide,h9,h10,hg2⟩,⟨rfl,rfl,rfl⟩,λq _=>rfl,
  ⟨g3,24,8,x.b.epoch⟩,⟨show 24+8<=64 by decide,show 1<=8 by decide,show 8<=8 by decide,h11,h12,hg3⟩,⟨rfl,rfl,rfl⟩,λq _=>rfl,
  by decide,by decide,by decide,32,g4,rfl,by decide,λk _=>rfl,hg4,⟨nI 0 g4 32,x.d⟩,⟨hU1,d1,d2,d3⟩,⟨rfl,rfl,rfl⟩,⟨rfl,λq _=>rfl⟩,
  ⟨g4,32,4,nI (nI 0 g4 32) (λk=>x.d.g (x.d.q+k)) x.d.n⟩,⟨show 32+4<=64 by decide,show 1<=4 by decide,show 4<=8 by decide,hU.1,hU.2,hg4⟩,⟨rfl,rfl,w2.symm⟩,λq _=>rfl,?_⟩
 ·simp only[Cs.eff,bY,dA,dD,dK,<-Bool.decide_and,g0]
  split
  ·grind
  ·grind
 ·simp only[qG]
  refine⟨by decide,by decide,by decide,λhb=>⟨d1,λq hq=> ?_⟩,λhb=>⟨by omega,λq hq=> ?_⟩⟩
  ·rw[fin q hq]
   have hn:x.d.n=28:=by have:=Nat.le_of_ble_eq_true hb;omega
   simp only[Cs.eff,bY,dA,dD,dK,<-Bool.decide_and,hn];grind
  ·rw[fin q hq]
   simp only[Cs.eff,bY,dA,dD,dK,<-Bool.decide_and];grind
theorem ah0:cO Tryz.prog 229 apC:=dM dG mixed (.cons (bP mQ) (.cons (bP aha) .nil)) noA 200 5 (λ_=>rfl) (λ_=>rfl) λx hx=>Eq.mp (amM x) (ac7 x (aZ.1 hx))
theorem auE:cO Tryz.prog 228 arC:=dM dG mixed .nil auC 200 5 (λ_=>rfl) (λ_=>rfl) λx hx=>Eq.mp (amN x) (ac6 x (aZ.1 hx))
theorem arJ:cO Tryz.prog 169 V9:=dM dG mixed (.cons (bP aps) .nil) noA 200 5 (λ_=>rfl) (λ_=>rfl) λx hx=>Eq.mp (ahX x) (Wh x (aZ.1 hx))
theorem amP:dZ Tryz.prog auD:= .cons ZY (.cons (bP apq) (.cons (bP arJ) .nil))
theorem arK:cO Tryz.prog 114 Ei:=dM dG mixed amP noA 200 5 (λ_=>rfl) (λ_=>rfl) λx hx=>Eq.mp (ahV x) (Wi x (aZ.1 hx))
noncomputable def apD:Ctr:={X:=ZBlk,args:=λb=>[b.av],k:=0,os:=λ_=>[],pre:=λb=>Hd (b.may/\b.key.size<1099511627776/\b.value.size<1099511627776),outs:=[
 {Y:=Unit,post:=λb _=>Hd (b.cls=0),ret:=λ_ _=> .tup [.slE 0 0 1 64 64,i64 0],m:=1,os:=λb _=>[.cells 5 (rowB b.enc 64)]},
 {Y:=Unit,post:=λb _=>Hd (b.cls≠0),ret:=λb _=> .tup [.slW 0 0 1 (64*b.dL),i64 0],m:=1,os:=λb _=>[.room 5 (rowB b.enc (64*b.dL))]}]}
noncomputable def auF(x:ZBlk):FuncId->qL:=λf=>bif Nat.beq f 180 then(λb _ _=>bif Nat.beq b 0 then [
 {σ:=Unit,fr:=λ_=>[(31,i64 0),(4,.slE 1 28 1 (x.iI-28) (x.iI-28)),(5,.slE 2 0 1 64 64)],ob:=λ_=>[],inv:=λ_=>Hd True,meas:=λ_=>x.dL+1,test:=λfr _=>(match SE.look fr 5 with| .slE .. =>true|_=>false)},
 {σ:=Nat,fr:=λi=>[(31,i64 i),(4,.slE 1 (28+63*i) 1 (x.iI-28-63*i) (x.iI-28-63*i)),(5,.slW 3 0 1 (64*(i+1)))],ob:=λi=>[(3,some (.room 5 (rowB x.enc (64*(i+1)))))],inv:=λi=>Hd (1<=i/\i+1<=x.dL),meas:=λi=>x.dL-i,nx:=1,test:=λfr _=>(match SE.look fr 5 with| .slE .. =>false|_=>true)}]else [])elseλ_ _ _=>[]
noncomputable def EU:Ctr:=det Int (λc=>[i64 c]) 0 (λ_=>[]) (λc=>Hd (0<=c/\c<=3)) (λ_=> .slE 0 0 1 64 64) 1 (λc=>[.cells 5 (rowB ((ZBlk.mk c 0 0 0 0 ⟨#[]⟩ ⟨#[]⟩).jL (λ_=>0) (cpc c).toNat) 64)])
structure BI where
 b:Bys
 s:Nat
def BI.at_(x:BI)(i:Nat):Int:=if i<28 then x.b.g (x.b.q+(36+i))else x.b.g (x.b.q+(64*((i-28)/63+1)+1+(i-28)%63))
def BI.str(x:BI):ByteArray:=mkStr (28+63*(x.s-1)) (λi=>UInt8.ofNat (x.at_ i).toNat)
def Wj:Ctr:=det BI (λx=>[x.b.av 0]) 1 (λx=>[x.b.ro]) (λx=>Hd (x.b.ok/\x.b.n=64*x.s/\1<=x.s/\x.s<=8)) (λx=> .lit (.string x.str)) 1 (λx=>[x.b.ro])
def apE(x:BI):FuncId->qL:=λf=>bif Nat.beq f 179 then(λb _ h=>bif Nat.beq b 0 then [
 {σ:=Unit,fr:=λ_=>[(4,i64 64),(3,.slW 2 0 1 28)],ob:=λ_=>[(2,some (.room 5 (rowB x.at_ 28)))],inv:=λ_=>Hd True,meas:=λ_=>x.s+1,test:=λfr _=>(match SE.look fr 3 with| .slW i _ _ _=>Nat.beq i 2|_=>false)},
 {σ:=Nat,fr:=λi=>[(4,i64 (64+64*i:Nat)),(3,.slW 3 0 1 (28+63*i))],ob:=λi=>[(2,none),(3,some (.room 5 (rowB x.at_ (28+63*i))))],inv:=λi=>Hd (1<=i/\i+1<=x.s),meas:=λi=>x.s-i,nx:=1,test:=λfr _=>(match SE.look fr 3 with| .slW i _ _ _=> !Nat.beq i 2|_=>false)}]else [])elseλ_ _ _=>[]
structure ah1 where
 b:ZBlk
 g:Nat->Int
noncomputable def arL:Ctr:=det ah1 (λx=>[.slW 0 0 1 (64*x.b.dL)]) 1 (λx=>[.room 5 (rowB x.g (64*x.b.dL))]) (λx=>Hd (x.b.may/\x.b.key.size<1099511627776/\x.b.value.size<1099511627776/\ ∀k,k<64*x.b.dL->x.g k=x.b.enc k)) (λx=> .tup [x.b.av,boo true]) 1 (λx=>[.room 5 (rowB x.g (64*x.b.dL))])
noncomputable def arM:je:=[(113,ctrT zH),(115,ctrT apu),(229,ctrT apC),(114,ctrT Ei)]
noncomputable def auG:je:=[(113,ctrT zH),(228,ctrT arC),(179,ctrT Wj),(180,ctrT apD)]
end Go.Proofs.YtenfleoejgjklaaGreat
end
