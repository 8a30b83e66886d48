import Derived.Test.YtenfleoejgjklaaGreatUa
import Derived.Test.YtenfleoejgjklaaGreatUb
import Derived.Test.YtenfleoejgjklaaGreatUc
import Derived.Test.YtenfleoejgjklaaGreatUd
import Derived.Test.YtenfleoejgjklaaGreatRows
import Derived.KernelRfl
set_option linter.unusedVariables false
set_option linter.unusedSimpArgs false
set_option linter.unnecessarySimpa false
section
namespace Go.Proofs.YtenfleoejgjklaaGreat
open Go SE
noncomputable def tt:TT:=avU Tryz.prog
theorem dB:tt.ok Tryz.prog:=fun _ _ h=>h
set_option maxRecDepth 20000
theorem mixed:Tryz.prog.follows .mixedOrders=true:=by kernel_rfl
def i64(n:Int):AV:= .lit (.int .i64 n)
end Go.Proofs.YtenfleoejgjklaaGreat
end
section
namespace Go.Proofs.YtenfleoejgjklaaGreat
open Go SE
def x32(a b:Int):Int:=IntKind.u32.wrap ((BitVec.ofInt 32 a^^^BitVec.ofInt 32 b).toNat:Nat)
def awy(c:Int):Int:=bif decide (c%2=0)then c/2 else x32 (c/2) 3988292384
def yP(c:Int):Nat->Int
 |0=>c
 |k+1=>awy (yP c k)
def stepM(c x:Int):Int:=yP (x32 c x) 8
def U32(c:Int):Prop:=0<=c/\c<4294967296
theorem wrap_u32(z:Int):U32 (IntKind.u32.wrap z):=by
 unfold IntKind.wrap U32
 simp[IntKind.bits,IntKind.signed]
 omega
theorem Ik{z:Int}(h:U32 z):IntKind.u32.wrap z=z:=by
 unfold IntKind.wrap U32 at*
 simp[IntKind.bits,IntKind.signed]
 omega
theorem akD(a b:Int):U32 (x32 a b):=wrap_u32 _
theorem awz{c:Int}(h:U32 c):U32 (awy c):=by
 unfold awy
 cases decide (c%2=0)
 ·exact akD _ _
 ·unfold U32 at*;simp only[aO];omega
theorem ZY{c:Int}(h:U32 c): ∀k,U32 (yP c k)
 |0=>h
 |k+1=>awz (ZY h k)
def u32(c:Int):AV:= .lit (.int .u32 c)
def Z4:Ctr:=det (Int×Int) (fun p=>[u32 p.1,.lit (.int .u8 p.2)]) 0 (fun _=>[]) (fun p=>U32 p.1/\0<=p.2/\p.2<256) (fun p=>u32 (stepM p.1 p.2)) 0 (fun _=>[])
def asf(p:Int×Int):FuncId->tK:=fun f=>
 bif Nat.beq f 216 then(fun b fr h=>bif Nat.beq b 0 then [{σ:=Nat,fr:=fun k=>[(5,i64 k),(0,u32 (yP (x32 p.1 p.2) k))],ob:=fun _=>[],inv:=fun k=>k<=8,meas:=fun k=>8-k}]else [])else
 fun _ _ _=>[]
def akE(p:Int×Int):Prop:=
 (∃s:Nat,s<=8/\True/\((s:Int)=0/\yP (x32 p.1 p.2) s=IntKind.wrap .u32 ((@BitVec.toNat 32 (@HXor.hXor (@BitVec 32) (@BitVec 32) (@BitVec 32) (@instHXorOfXorOp (@BitVec 32) (@BitVec.instXorOp 32)) (@BitVec.ofInt 32 p.1) (@BitVec.ofInt 32 (IntKind.wrap .u32 p.2))):Nat):Int)/\True)/\True)/\(∀s:Nat,s<=8->cP (decide ((s:Int)<8)) (I64 ((s:Int)+1)/\((2:Int)=0->False)/\cP (BEq.beq (Int.tmod (yP (x32 p.1 p.2) s) (2:Int)) (0:Int)) (((2:Int)=0->False)/\ ∃s_1:Nat,s_1<=8/\8-s_1<8-s/\((s_1:Int)=(s:Int)+1/\yP (x32 p.1 p.2) s_1=IntKind.wrap .u32 (Int.tdiv (yP (x32 p.1 p.2) s) (2:Int))/\True)/\True) (((2:Int)=0->False)/\ ∃s_1:Nat,s_1<=8/\8-s_1<8-s/\((s_1:Int)=(s:Int)+1/\yP (x32 p.1 p.2) s_1=IntKind.wrap .u32 ((@BitVec.toNat 32 (@HXor.hXor (@BitVec 32) (@BitVec 32) (@BitVec 32) (@instHXorOfXorOp (@BitVec 32) (@BitVec.instXorOp 32)) (@BitVec.ofInt 32 (IntKind.wrap .u32 (Int.tdiv (yP (x32 p.1 p.2) s) (2:Int)))) (@BitVec.ofInt 32 (3988292384:Int))):Nat):Int)/\True)/\True)) (∃y:Unit,True/\stepM p.1 p.2=yP (x32 p.1 p.2) s/\True))/\True
theorem akF(p:Int×Int):akE p=wpF Tryz.prog [] tt (asf p) 200 5 216 (Z4.args p) (hO Z4.k (Z4.os p)) (fun v h'=>fA Z4.k p v h' Z4.outs):=by kernel_rfl
theorem half{c:Int}(h:U32 c):Int.tmod c 2=c%2/\IntKind.u32.wrap (Int.tdiv c 2)=c/2:=by
 have e:Int.tdiv c 2=c/2:=Int.tdiv_eq_ediv_of_nonneg h.1
 refine⟨Int.tmod_eq_emod_of_nonneg h.1,?_⟩
 rw[e];exact Ik (by unfold U32 at*;omega)
theorem Z5(p:Int×Int)(hp:U32 p.1/\0<=p.2/\p.2<256):akE p:=by
 unfold akE
 have hw:IntKind.u32.wrap p.2=p.2:=Ik (by unfold U32;omega)
 have hx: ∀a b,IntKind.u32.wrap ((BitVec.ofInt 32 a^^^BitVec.ofInt 32 b).toNat:Nat)=x32 a b:=fun _ _=>rfl
 simp only[aU,aT,hw,hx]
 refine⟨⟨0,by omega,rfl,rfl⟩,fun s hs=>bg (fun hb=> ?_) (fun hb=> ?_)⟩
 ·have hb:=aQ hb
  obtain⟨h1,h2⟩:=half (ZY (akD p.1 p.2) s)
  rw[h1,h2]
  refine⟨by unfold I64;omega,by omega,bg (fun hc=> ?_) (fun hc=> ?_)⟩
  ·have hc:yP (x32 p.1 p.2) s%2=0:=by simpa using hc
   exact⟨by omega,s+1,by omega,by omega,rfl,by simp[yP,awy,hc]⟩
  ·have hc:yP (x32 p.1 p.2) s%2≠0:=by simpa using hc
   exact⟨by omega,s+1,by omega,by omega,rfl,by simp only[yP,awy,hc,decide_false,aP]⟩
 ·have:s=8:=by have:=aS hb;omega
  subst this
  exact⟨(),rfl⟩
theorem step_ok:bZ Tryz.prog 216 Z4:=dV dB mixed fJ.nil asf 200 5 (fun _=>rfl) (fun _=>rfl) fun x hx=>Eq.mp (akF x) (Z5 x hx)
theorem bQ(g:Nat->List Value)(q:Nat):Cs.eff g [] q=g q:=rfl
theorem dZ(q:Nat):Nat.ble 0 q=true:=by simp
theorem cO(a b:Nat):Nat.blt a b=decide (a<b):=by
 by_cases h:a<b
 ·rw[bW.2 h];simp[h]
 ·have:Nat.blt a b=false:=by
   cases hb:Nat.blt a b with
   |false=>rfl
   |true=>exact absurd (bW.1 hb) h
  rw[this];simp[h]
theorem dR(a b:Nat):Nat.ble a b=decide (a<=b):=by
 by_cases h:a<=b
 ·rw[show Nat.ble a b=true by simpa using h];simp[h]
 ·have:Nat.ble a b=false:=by
   cases hb:Nat.ble a b with
   |false=>rfl
   |true=>exact absurd (by simpa using hb) h
  rw[this];simp[h]
theorem eX{α:Type}{p:Prop} [Decidable p]{x y:α}:(bif decide p then x else y)=if p then x else y:=by by_cases h:p<;>simp[h]
theorem dQ(a b:Nat):Nat.beq a b=decide (a=b):=by
 by_cases h:a=b
 ·subst h;simp
 ·rw[jm h];simp[h]
theorem bF{b:Bool}{x y:Value}:(bif b then [x]else [y])=[bif b then x else y]:=by cases b<;>rfl
theorem bG{b:Bool}{k:IntKind}{x y:Int}:(bif b then Value.int k x else Value.int k y)= .int k (bif b then x else y):=by cases b<;>rfl
theorem aZ{b:Bool}{x y:Bool}:(bif b then Value.bool x else Value.bool y)= .bool (bif b then x else y):=by cases b<;>rfl
theorem bH{k:IntKind}{x:Int}:([Value.int k x].length.beq 1&&[Value.int k x].all Value.oneCell')=true:=rfl
theorem bf{x:Bool}:([Value.bool x].length.beq 1&&[Value.bool x].all Value.oneCell')=true:=rfl
theorem bT{k:IntKind}{x y:Int}:([Value.int k x]=[Value.int k y])=(x=y):=by simp
theorem bJ{x y:Bool}:([Value.bool x]=[Value.bool y])=(x=y):=by simp
def u8(n:Int):AV:= .lit (.int .u8 n)
def u64(n:Int):AV:= .lit (.int .u64 n)
def rowB(g:Nat->Int)(n:Nat):Cs:= .row 1 n (fun k=>[.int .u8 (g k)]) []
structure Bys where
 g:Nat->Int
 q:Nat
 n:Nat
 N:Nat
namespace Bys
def ok(b:Bys):Prop:=b.q+b.n<=b.N/\b.n<1099511627776/\ ∀k,0<=b.g k/\b.g k<256
def ro(b:Bys):dw:= .ro (rowB b.g b.N)
def av(b:Bys)(i:Nat):AV:= .slR i b.q 1 b.n
end Bys
def Fv(c:Int)(g:Nat->Int):Nat->Int
 |0=>c
 |i+1=>stepM (Fv c g i) (g i)
noncomputable def pV(c:Int)(g:Nat->Int)(n:Nat):Int:=hide (x32 (Fv (x32 c 4294967295) g n) 4294967295)
theorem atE{c:Int}(h:U32 c)(g:Nat->Int): ∀n,U32 (Fv c g n)
 |0=>h
 |n+1=>ZY (akD _ _) 8
theorem adz(c:Int)(g:Nat->Int)(n:Nat):U32 (pV c g n):=by unfold pV;rw[qI];exact akD _ _
structure atF where
 c:Int
 b:Bys
noncomputable def asg:Ctr:=det atF (fun x=>[u32 x.c,x.b.av 0]) 1 (fun x=>[x.b.ro]) (fun x=>Hd (U32 x.c/\x.b.ok)) (fun x=>u32 (pV x.c (fun k=>x.b.g (x.b.q+k)) x.b.n)) 1 (fun x=>[x.b.ro])
def awC(x:atF):FuncId->tK:=fun f=>
 bif Nat.beq f 170 then(fun b fr h=>bif Nat.beq b 0 then [{σ:=Nat,fr:=fun k=>[(11,i64 k),(0,u32 (Fv (x32 x.c 4294967295) (fun k=>x.b.g (x.b.q+k)) k))],ob:=fun _=>[],inv:=fun k=>k<=x.b.n,meas:=fun k=>x.b.n-k}]else [])else
 fun _ _ _=>[]
def qX(g:Nat->Int)(at_ w:Nat)(v:Int)(k:Nat):Int:=if at_<=k/\k<at_+w then v/256^(k-at_)%256 else g k
structure xK where
 b:Bys
 at_:Nat
 w:Nat
 v:Int
 c:Nat
def xK.ok(x:xK):Prop:=x.b.ok/\x.at_+x.w<=x.b.n/\1<=x.w/\x.w<=8/\0<=x.v/\x.v<256^x.w
def xK.res(x:xK):Nat->Int:=qX (fun k=>x.b.g (x.b.q+k)) x.at_ x.w x.v
noncomputable def ash:Ctr:=det xK (fun x=>[.slE 0 x.b.q 1 x.b.n x.c,i64 x.at_,i64 x.w,u64 x.v]) 1 (fun x=>[x.b.ro]) (fun x=>Hd x.ok) (fun x=> .tup [.slW 1 0 1 x.b.n,i64 0]) 2 (fun x=>[x.b.ro,.room 5 (rowB x.res x.b.n)])
def awD(x:xK):FuncId->tK:=fun f=>
 bif Nat.beq f 215 then(fun b fr h=>bif Nat.beq b 0 then [{σ:=Nat,fr:=fun k=>[(32,i64 k)],ob:=fun k=>[(1,none),(2,some (.room 5 (rowB (qX (fun k=>x.b.g (x.b.q+k)) x.at_ k x.v) x.b.n)))],inv:=fun k=>k<=x.w,meas:=fun k=>x.w-k,nx:=0}]else [])else
 fun _ _ _=>[]
def Aq(a:Bys):Prop:=rowB a.g a.N=rowB a.g a.N/\true=true
def atG(a:xK):Prop:=a.b.q+a.b.n<=a.b.N/\cP (Nat.beq a.b.n 0) ((∃s:Nat,s<=a.w/\True/\((s:Int)=0/\True)/\Aq a.b/\True)/\(∀s:Nat,s<=a.w->cP (decide ((s:Int)<(a.w:Int))) (I64 ((a.at_:Int)+(s:Int))/\I64 (8*(s:Int))/\0<=8*(s:Int)/\(0<=(a.at_:Int)+(s:Int)/\(a.at_:Int)+(s:Int)<0)/\False) (∃y:Unit,True/\((a.b.n=0/\0=0/\0=0)/\(0:Int)=0/\True)/\Aq a.b/\False/\True))/\True) ((2*(0+a.b.n)+1000)*1<=281474976710656/\(∃s:Nat,s<=a.w/\True/\((s:Int)=0/\True)/\(a.b.n=0+a.b.n/\ ∀q:Nat,q<a.b.n->[Value.int .u8 (qX (fun(k:Nat)=>a.b.g (a.b.q+k)) a.at_ s a.v q)]=[Value.int .u8 (a.b.g (a.b.q+(q-0)))])/\Aq a.b/\True)/\(∀s:Nat,s<=a.w->cP (decide ((s:Int)<(a.w:Int))) (I64 ((a.at_:Int)+(s:Int))/\I64 (8*(s:Int))/\0<=8*(s:Int)/\(0<=(a.at_:Int)+(s:Int)/\(a.at_:Int)+(s:Int)<((0+a.b.n:Nat):Int))/\0+Int.toNat ((a.at_:Int)+(s:Int))<a.b.n/\I64 ((s:Int)+1)/\ ∃s_1:Nat,s_1<=a.w/\a.w-s_1<a.w-s/\((s_1:Int)=(s:Int)+1/\True)/\(a.b.n=a.b.n/\ ∀q:Nat,q<a.b.n->[Value.int .u8 (qX (fun(k:Nat)=>a.b.g (a.b.q+k)) a.at_ s_1 a.v q)]=Cs.eff (fun(k:Nat)=>[Value.int .u8 (qX (fun(k_1:Nat)=>a.b.g (a.b.q+k_1)) a.at_ s a.v k)]) [(0+Int.toNat ((a.at_:Int)+(s:Int)),[Value.int .u8 (IntKind.wrap .u8 (Int.fdiv a.v (@HPow.hPow Int Nat Int (@instHPow Int Nat (@instPowNat Int @Int.instNatPow)) (2:Int) (@Min.min Nat @instMinNat (Int.toNat (8*(s:Int))) 64))))])] q)/\Aq a.b/\True) (∃y:Unit,True/\((0=0/\a.b.n=0+a.b.n)/\(0:Int)=0/\True)/\Aq a.b/\(a.b.n=a.b.n/\
 ∀q:Nat,q<a.b.n->[Value.int .u8 (a.res q)]=[Value.int .u8 (qX (fun(k:Nat)=>a.b.g (a.b.q+k)) a.at_ s a.v q)])/\True))/\True)
def atH(x:atF):Prop:=
 (∃s:Nat,s<=x.b.n/\True/\((s:Int)=0/\Fv (x32 x.c (4294967295:Int)) (fun(k:Nat)=>x.b.g (x.b.q+k)) s=IntKind.wrap .u32 ((@BitVec.toNat 32 (@HXor.hXor (@BitVec 32) (@BitVec 32) (@BitVec 32) (@instHXorOfXorOp (@BitVec 32) (@BitVec.instXorOp 32)) (@BitVec.ofInt 32 x.c) (@BitVec.ofInt 32 (4294967295:Int))):Nat):Int)/\True)/\Aq x.b/\True)/\(∀s:Nat,s<=x.b.n->cP (decide ((s:Int)<(x.b.n:Int))) ((0<=(s:Int)/\(s:Int)<(x.b.n:Int))/\x.b.q+s<x.b.N/\ ∃x_1:Prod Int Int,((0<=x_1.1/\x_1.1<4294967296)/\0<=x_1.2/\x_1.2<256)/\(x_1.1=Fv (x32 x.c (4294967295:Int)) (fun(k:Nat)=>x.b.g (x.b.q+k)) s/\x_1.2=x.b.g (x.b.q+s)/\True)/\True/\ ∀y:Unit,True->I64 ((s:Int)+1)/\ ∃s_1:Nat,s_1<=x.b.n/\x.b.n-s_1<x.b.n-s/\((s_1:Int)=(s:Int)+1/\Fv (x32 x.c (4294967295:Int)) (fun(k:Nat)=>x.b.g (x.b.q+k)) s_1=stepM x_1.1 x_1.2/\True)/\Aq x.b/\True) (∃y:Unit,True/\pV x.c (fun(k:Nat)=>x.b.g (x.b.q+k)) x.b.n=IntKind.wrap .u32 ((@BitVec.toNat 32 (@HXor.hXor (@BitVec 32) (@BitVec 32) (@BitVec 32) (@instHXorOfXorOp (@BitVec 32) (@BitVec.instXorOp 32)) (@BitVec.ofInt 32 (Fv (x32 x.c (4294967295:Int)) (fun(k:Nat)=>x.b.g (x.b.q+k)) s)) (@BitVec.ofInt 32 (4294967295:Int))):Nat):Int)/\Aq x.b/\True))/\True
theorem apW(x:atF):atH x=wpF Tryz.prog [(216,eG Z4)] tt (awC x) 200 5 170 (asg.args x) (hO asg.k (asg.os x)) (fun v h'=>fA asg.k x v h' asg.outs):=by kernel_rfl
def atJ(x:xK):Prop:=
 cP (decide ((x.w:Int)<1)) (∃y:Unit,True/\(False/\(0:Int)=1/\True)/\Aq x.b/\False/\True) (cP (decide ((x.w:Int)>(8:Int))) (∃y:Unit,True/\(False/\(0:Int)=1/\True)/\Aq x.b/\False/\True) (I64 ((x.b.n:Int)-(x.w:Int))/\cP (decide ((x.at_:Int)>(x.b.n:Int)-(x.w:Int))) (∃y:Unit,True/\(False/\(0:Int)=2/\True)/\Aq x.b/\False/\True) (cP (decide ((x.w:Int)<8)) (I64 (8*(x.w:Int))/\0<=8*(x.w:Int)/\cP (bne (Int.fdiv x.v (@HPow.hPow Int Nat Int (@instHPow Int Nat (@instPowNat Int @Int.instNatPow)) (2:Int) (@Min.min Nat @instMinNat (Int.toNat (8*(x.w:Int))) 64))) (0:Int)) (∃y:Unit,True/\(False/\(0:Int)=11/\True)/\Aq x.b/\False/\True) (atG x)) (atG x))))
theorem apX(x:xK):atJ x=wpF Tryz.prog [] tt (awD x) 200 5 215 (ash.args x) (hO ash.k (ash.os x)) (fun v h'=>fA ash.k x v h' ash.outs):=by kernel_rfl
theorem ag4(x:atF)(hx:U32 x.c/\x.b.ok):atH x:=by
 obtain⟨hc,h1,h2,h3⟩:=hx
 unfold atH
 simp only[Aq]
 have hw: ∀a b,IntKind.u32.wrap ((BitVec.ofInt 32 a^^^BitVec.ofInt 32 b).toNat:Nat)=x32 a b:=fun _ _=>rfl
 simp only[aY,aU,aT,ay,aH,bP,bC,aN,aJ,au,aW,aV,hw]
 refine⟨⟨0,by omega,rfl,rfl⟩,fun s hs=>bg (fun hb=> ?_) (fun hb=> ?_)⟩
 ·have hb:=aQ hb
  refine⟨⟨by omega,by omega⟩,by omega,(Fv (x32 x.c 4294967295) (fun k=>x.b.g (x.b.q+k)) s,x.b.g (x.b.q+s)),⟨atE (akD _ _) _ s,h3 _⟩,⟨rfl,rfl⟩,by unfold I64;omega,s+1,by omega,by omega,by omega,rfl⟩
 ·have:s=x.b.n:=by have:=aS hb;omega
  subst this
  unfold pV;rw[qI]
theorem Il{c:Int}{g g':Nat->Int}: ∀{n:Nat},(∀k,k<n->g k=g' k)->Fv c g n=Fv c g' n
 |0,_=>rfl
 |n+1,h=>by simp only[Fv];rw[Il (n:=n) fun k hk=>h k (by omega),h n (by omega)]
theorem CZ{c:Int}{g g':Nat->Int}{n:Nat}(h: ∀k,k<n->g k=g' k):pV c g n=pV c g' n:=by unfold pV;rw[qI,qI,Il h]
theorem asi:bZ Tryz.prog 170 asg:=dV dB mixed (.cons (bU step_ok) .nil) awC 200 5 (fun _=>rfl) (fun _=>rfl) fun x hx=>Eq.mp (apW x) (ag4 x (aY.1 hx))
theorem Z7{s:Nat}(h:s<=8):(2:Int)^(min (((8:Int)*(s:Nat)).toNat) 64)=256^s:=by
 have e:((8:Int)*(s:Nat)).toNat=8*s:=by omega
 rw[e,Nat.min_eq_left (by omega)]
 rw[show(256:Int)=2^8 by rfl,<-Int.pow_mul]
theorem asj(z:Int):IntKind.u8.wrap z=z%256:=by
 unfold IntKind.wrap
 simp[IntKind.bits,IntKind.signed]
theorem akG(g:Nat->Int)(a s:Nat)(v:Int)(q:Nat):qX g a (s+1) v q=if q=a+s then v/256^s%256 else qX g a s v q:=by
 unfold qX
 by_cases h:q=a+s
 ·subst h;simp
 ·rw[if_neg h]
  by_cases h2:a<=q/\q<a+s
  ·rw[if_pos h2,if_pos (by omega)]
  ·rw[if_neg h2,if_neg (by omega)]
theorem ag5(x:xK)(hx:x.ok):atJ x:=by
 obtain⟨⟨h1,h2,h3⟩,h4,h5,h6,h7,h8⟩:=hx
 have z0: ∀(g:Nat->Int) a v q,qX g a 0 v q=g q:=fun g a v q=>by unfold qX;rw[if_neg (by omega)]
 have key: ∀s:Nat,s<x.w-> ∀q,[Value.int .u8 (qX (fun k=>x.b.g (x.b.q+k)) x.at_ (s+1) x.v q)]=Cs.eff (fun k=>[Value.int .u8 (qX (fun k=>x.b.g (x.b.q+k)) x.at_ s x.v k)]) [((((x.at_:Int)+(s:Int)).toNat),[Value.int .u8 (IntKind.u8.wrap (Int.fdiv x.v (2^(min ((8*(s:Int)).toNat) 64))))])] q:=fun s hs q=>by
  rw[Z7 (by omega),asj,show((x.at_:Int)+(s:Int)).toNat=x.at_+s by omega,akG]
  simp only[Cs.eff]
  by_cases h:q=x.at_+s
  ·subst h
   have:Int.fdiv x.v (256^s)=x.v/256^s:=Int.fdiv_eq_ediv_of_nonneg _ (Int.le_of_lt (Int.pow_pos (by omega)))
   simp[this]
  ·simp[h,jm h]
 unfold atJ
 simp only[Aq,atG]
 have hn:x.b.n≠0:=by omega
 simp only[aY,aU,aT,ay,aH,bP,bC,aN,aJ,au,aW,aV,z0]
 have i64: ∀z:Int,-9223372036854775808<=z->z<=9223372036854775807->I64 z:=fun z a b=>⟨a,b⟩
 refine bg (fun h=>absurd (aQ h) (by omega)) fun _=>bg (fun h=>absurd (aQ h) (by omega)) fun _=>⟨i64 _ (by omega) (by omega),bg (fun h=>absurd (aQ h) (by omega)) fun _=>
  bg (fun hb=>⟨i64 _ (by omega) (by omega),by omega,bg (fun h=> ?_) (fun _=> ?_)⟩) (fun _=> ?_)⟩
 ·rw[Z7 h6,show Int.fdiv x.v (256^x.w)=0 by rw[Int.fdiv_eq_ediv_of_nonneg _ (Int.le_of_lt (Int.pow_pos (by omega)))];exact Int.ediv_eq_zero_of_lt h7 h8]at h
  cases h
 all_goals
  refine⟨h1,bg (fun h=>absurd (ak h) hn) fun _=>⟨by omega,⟨0,by omega,rfl,fun q _=>by rw[z0];rfl⟩,fun s hs=>bg (fun h=> ?_) (fun h=> ?_)⟩⟩
  ·have h:=aQ h
   exact⟨i64 _ (by omega) (by omega),i64 _ (by omega) (by omega),by omega,⟨by omega,by omega⟩,by omega,i64 _ (by omega) (by omega),s+1,by omega,by omega,by omega,fun q _=>key s (by omega) q⟩
  ·have:s=x.w:=by have:=aS h;omega
   subst this
   exact fun q _=>rfl
theorem asl:bZ Tryz.prog 215 ash:=dV dB mixed fJ.nil awD 200 5 (fun _=>rfl) (fun _=>rfl) fun x hx=>Eq.mp (apX x) (ag5 x (aY.1 hx))
noncomputable def ag6:Ctr:=det Bys (fun b=>[b.av 0]) 1 (fun b=>[b.ro]) (fun b=>Hd b.ok) (fun b=>u32 (pV 0 (fun k=>b.g (b.q+k)) b.n)) 1 (fun b=>[b.ro])
noncomputable def apY:WTr:=fun args h K=>match args with
 |[x]=>ag1 h x 1 fun e=> ∃(n:Nat) (g:Nat->Int),e.len=n/\n<1099511627776/\(∀k,k<n->e.el k=[.int .u8 (g k)])/\(∀k,0<=g k/\g k<256)/\K (u32 (pV 0 g n)) h
 |_=>False
def isE:List AV->Bool
 | .slE .. ::_=>true
 |_=>false
def ag7(v:Int)(k:Nat):Int:=if k=0 then 3 else v/256^(k-1)%256
noncomputable def jw(v:Int)(k:Nat):Int:=if k<9 then ag7 v k else if k<13 then pV 0 (ag7 v) 9/256^(k-9)%256 else 0
noncomputable def En:Ctr:=det Int (fun v=>[u64 v]) 0 (fun _=>[]) (fun v=>Hd (0<=v/\v<18446744073709551616)) (fun _=> .slE 0 0 1 64 64) 1 (fun v=>[.cells 312 (rowB (jw v) 64)])
noncomputable def tblK:jY:=[(171,apY),(215,orT isE (eG ash) (fun args h K=>wpF Tryz.prog [] tt (fun _ _ _ _=>[]) 200 5 215 args h K))]
def atK(a:xK)(b:Nat):Prop:=(Nat.beq (List.length [Value.int .u8 (a.res (0+b))]) 1&&List.all [Value.int .u8 (a.res (0+b))] Value.oneCell')=true
def apZ(a:xK):Prop:= ∀k:Nat,k<a.b.n->atK a k
def ap0(a:xK):Prop:= ∀k:Nat,k<64->atK a k
def KO:Prop:=0<=64/\64<=64/\64<=64
def atM(a:xK)(b: ∀a:Nat,Int)(c:Nat):Prop:=(a.b.q=0/\a.b.n=64/\a.c=64)/\(a.at_:Int)=9/\(a.w:Int)=4/\a.v=IntKind.wrap .u64 (pV (0:Int) b c)/\True
def akH:Prop:=0=0/\64=64/\64=64
def akI(b:Bys):Prop:=
 ∃x:atF,Hd (U32 x.c/\x.b.ok)/\(x.c=0/\(x.b.q=b.q/\x.b.n=b.n)/\True)/\((x.b.N=b.N/\ ∀q:Nat,q<x.b.N->[Value.int .u8 (x.b.g q)]=[Value.int .u8 (b.g q)])/\True)/\ ∀y:Unit,True-> ∃y_1:Unit,True/\pV (0:Int) (fun(k:Nat)=>b.g (b.q+k)) b.n=pV x.c (fun(k:Nat)=>x.b.g (x.b.q+k)) x.b.n/\(rowB b.g b.N=rowB b.g b.N/\true=true)/\True
theorem akJ(b:Bys):akI b=wpF Tryz.prog [(170,eG asg)] tt (fun _ _ _ _=>[]) 200 5 171 (ag6.args b) (hO ag6.k (ag6.os b)) (fun v h'=>fA ag6.k b v h' ag6.outs):=by kernel_rfl
def Z8(x:Int):Prop:=
 ∃x_1:xK,Hd x_1.ok/\((x_1.b.q=0/\x_1.b.n=9/\x_1.c=9)/\(x_1.at_:Int)=1/\(x_1.w:Int)=8/\x_1.v=x/\True)/\((x_1.b.N=9/\ ∀q:Nat,q<x_1.b.N->[Value.int .u8 (x_1.b.g q)]=[List.getD [Value.int .u8 3,Value.int .u8 0,Value.int .u8 0,Value.int .u8 0,Value.int .u8 0,Value.int .u8 0,Value.int .u8 0,Value.int .u8 0,Value.int .u8 0] q (@Inhabited.default Value @instInhabitedValue)])/\True)/\ ∀y:Unit,True->KO/\64<=64/\cP (Nat.ble x_1.b.n 64) (0+x_1.b.n<=x_1.b.n/\apZ x_1/\KO/\0+x_1.b.n<=x_1.b.n/\ ∃n:Nat,∃g: ∀a:Nat,Int,x_1.b.n=n/\n<1099511627776/\(∀k:Nat,k<n->[Value.int .u8 (x_1.res (0+k))]=[Value.int .u8 (g k)])/\(∀k:Nat,0<=g k/\g k<256)/\True/\ ∃x_2:xK,Hd x_2.ok/\atM x_2 g n/\((x_2.b.N=64/\ ∀q:Nat,q<x_2.b.N->[Value.int .u8 (x_2.b.g q)]=Cs.eff (fun(p:Nat)=>cond (Nat.ble 0 p&&Nat.blt p (0+x_1.b.n)) [Value.int .u8 (x_1.res (0+(p-0)))] [Value.int .u8 0]) [] q)/\True)/\ ∀y_1:Unit,True->True/\KO/\64<=64/\cP (Nat.ble x_2.b.n 64) (0+x_2.b.n<=x_2.b.n/\apZ x_2/\(∀k:Nat,k<64->(Nat.beq (List.length (Cs.eff (fun(p:Nat)=>cond (Nat.ble 0 p&&Nat.blt p (0+x_2.b.n)) [Value.int .u8 (x_2.res (0+(p-0)))] (Cs.eff (fun(p_1:Nat)=>cond (Nat.ble 0 p_1&&Nat.blt p_1 (0+x_1.b.n)) [Value.int .u8 (x_1.res (0+(p_1-0)))] [Value.int .u8 0]) [] p)) [] k)) 1&&List.all (Cs.eff (fun(p:Nat)=>cond (Nat.ble 0 p&&Nat.blt p (0+x_2.b.n)) [Value.int .u8 (x_2.res (0+(p-0)))] (Cs.eff (fun(p_1:Nat)=>cond (Nat.ble 0 p_1&&Nat.blt p_1 (0+x_1.b.n)) [Value.int .u8 (x_1.res (0+(p_1-0)))] [Value.int .u8 0]) [] p)) [] k) Value.oneCell')=true)/\
 (∀k:Nat,k<64->(Nat.beq (List.length (Cs.eff (Cs.eff (fun(p:Nat)=>cond (Nat.ble 0 p&&Nat.blt p (0+x_2.b.n)) [Value.int .u8 (x_2.res (0+(p-0)))] (Cs.eff (fun(p_1:Nat)=>cond (Nat.ble 0 p_1&&Nat.blt p_1 (0+x_1.b.n)) [Value.int .u8 (x_1.res (0+(p_1-0)))] [Value.int .u8 0]) [] p)) []) [] k)) 1&&List.all (Cs.eff (Cs.eff (fun(p:Nat)=>cond (Nat.ble 0 p&&Nat.blt p (0+x_2.b.n)) [Value.int .u8 (x_2.res (0+(p-0)))] (Cs.eff (fun(p_1:Nat)=>cond (Nat.ble 0 p_1&&Nat.blt p_1 (0+x_1.b.n)) [Value.int .u8 (x_1.res (0+(p_1-0)))] [Value.int .u8 0]) [] p)) []) [] k) Value.oneCell')=true)/\(∀k:Nat,k<64->(Nat.beq (List.length (Cs.eff (Cs.eff (Cs.eff (fun(p:Nat)=>cond (Nat.ble 0 p&&Nat.blt p (0+x_2.b.n)) [Value.int .u8 (x_2.res (0+(p-0)))] (Cs.eff (fun(p_1:Nat)=>cond (Nat.ble 0 p_1&&Nat.blt p_1 (0+x_1.b.n)) [Value.int .u8 (x_1.res (0+(p_1-0)))] [Value.int .u8 0]) [] p)) []) []) [] k)) 1&&List.all (Cs.eff (Cs.eff (Cs.eff (fun(p:Nat)=>cond (Nat.ble 0 p&&Nat.blt p (0+x_2.b.n)) [Value.int .u8 (x_2.res (0+(p-0)))] (Cs.eff (fun(p_1:Nat)=>cond (Nat.ble 0 p_1&&Nat.blt p_1 (0+x_1.b.n)) [Value.int .u8 (x_1.res (0+(p_1-0)))] [Value.int .u8 0]) [] p)) []) []) [] k) Value.oneCell')=true)/\KO/\ ∃y_2:Unit,True/\akH/\(64=64/\ ∀q:Nat,q<64->[Value.int .u8 (jw x q)]=Cs.eff (Cs.eff (Cs.eff (Cs.eff (fun(p:Nat)=>cond (Nat.ble 0 p&&Nat.blt p (0+x_2.b.n)) [Value.int .u8 (x_2.res (0+(p-0)))] (Cs.eff (fun(p_1:Nat)=>cond (Nat.ble 0 p_1&&Nat.blt p_1 (0+x_1.b.n)) [Value.int .u8 (x_1.res (0+(p_1-0)))] [Value.int .u8 0]) [] p)) []) []) []) [] q)/\True) (64<=x_2.b.n/\ap0 x_2/\
 (∀k:Nat,k<64->(Nat.beq (List.length (Cs.eff (fun(p:Nat)=>cond (Nat.ble 0 p&&Nat.blt p 64) [Value.int .u8 (x_2.res (0+(p-0)))] (Cs.eff (fun(p_1:Nat)=>cond (Nat.ble 0 p_1&&Nat.blt p_1 (0+x_1.b.n)) [Value.int .u8 (x_1.res (0+(p_1-0)))] [Value.int .u8 0]) [] p)) [] k)) 1&&List.all (Cs.eff (fun(p:Nat)=>cond (Nat.ble 0 p&&Nat.blt p 64) [Value.int .u8 (x_2.res (0+(p-0)))] (Cs.eff (fun(p_1:Nat)=>cond (Nat.ble 0 p_1&&Nat.blt p_1 (0+x_1.b.n)) [Value.int .u8 (x_1.res (0+(p_1-0)))] [Value.int .u8 0]) [] p)) [] k) Value.oneCell')=true)/\(∀k:Nat,k<64->(Nat.beq (List.length (Cs.eff (Cs.eff (fun(p:Nat)=>cond (Nat.ble 0 p&&Nat.blt p 64) [Value.int .u8 (x_2.res (0+(p-0)))] (Cs.eff (fun(p_1:Nat)=>cond (Nat.ble 0 p_1&&Nat.blt p_1 (0+x_1.b.n)) [Value.int .u8 (x_1.res (0+(p_1-0)))] [Value.int .u8 0]) [] p)) []) [] k)) 1&&List.all (Cs.eff (Cs.eff (fun(p:Nat)=>cond (Nat.ble 0 p&&Nat.blt p 64) [Value.int .u8 (x_2.res (0+(p-0)))] (Cs.eff (fun(p_1:Nat)=>cond (Nat.ble 0 p_1&&Nat.blt p_1 (0+x_1.b.n)) [Value.int .u8 (x_1.res (0+(p_1-0)))] [Value.int .u8 0]) [] p)) []) [] k) Value.oneCell')=true)/\
 (∀k:Nat,k<64->(Nat.beq (List.length (Cs.eff (Cs.eff (Cs.eff (fun(p:Nat)=>cond (Nat.ble 0 p&&Nat.blt p 64) [Value.int .u8 (x_2.res (0+(p-0)))] (Cs.eff (fun(p_1:Nat)=>cond (Nat.ble 0 p_1&&Nat.blt p_1 (0+x_1.b.n)) [Value.int .u8 (x_1.res (0+(p_1-0)))] [Value.int .u8 0]) [] p)) []) []) [] k)) 1&&List.all (Cs.eff (Cs.eff (Cs.eff (fun(p:Nat)=>cond (Nat.ble 0 p&&Nat.blt p 64) [Value.int .u8 (x_2.res (0+(p-0)))] (Cs.eff (fun(p_1:Nat)=>cond (Nat.ble 0 p_1&&Nat.blt p_1 (0+x_1.b.n)) [Value.int .u8 (x_1.res (0+(p_1-0)))] [Value.int .u8 0]) [] p)) []) []) [] k) Value.oneCell')=true)/\KO/\ ∃y_2:Unit,True/\akH/\(64=64/\ ∀q:Nat,q<64->[Value.int .u8 (jw x q)]=Cs.eff (Cs.eff (Cs.eff (Cs.eff (fun(p:Nat)=>cond (Nat.ble 0 p&&Nat.blt p 64) [Value.int .u8 (x_2.res (0+(p-0)))] (Cs.eff (fun(p_1:Nat)=>cond (Nat.ble 0 p_1&&Nat.blt p_1 (0+x_1.b.n)) [Value.int .u8 (x_1.res (0+(p_1-0)))] [Value.int .u8 0]) [] p)) []) []) []) [] q)/\True)) (64<=x_1.b.n/\ap0 x_1/\KO/\0+x_1.b.n<=x_1.b.n/\ ∃n:Nat,∃g: ∀a:Nat,Int,x_1.b.n=n/\n<1099511627776/\(∀k:Nat,k<n->[Value.int .u8 (x_1.res (0+k))]=[Value.int .u8 (g k)])/\(∀k:Nat,0<=g k/\g k<256)/\True/\ ∃x_2:xK,Hd x_2.ok/\atM x_2 g n/\((x_2.b.N=64/\ ∀q:Nat,q<x_2.b.N->[Value.int .u8 (x_2.b.g q)]=Cs.eff (fun(p:Nat)=>cond (Nat.ble 0 p&&Nat.blt p 64) [Value.int .u8 (x_1.res (0+(p-0)))] [Value.int .u8 0]) [] q)/\True)/\ ∀y_1:Unit,True->True/\KO/\64<=64/\cP (Nat.ble x_2.b.n 64) (0+x_2.b.n<=x_2.b.n/\apZ x_2/\
 (∀k:Nat,k<64->(Nat.beq (List.length (Cs.eff (fun(p:Nat)=>cond (Nat.ble 0 p&&Nat.blt p (0+x_2.b.n)) [Value.int .u8 (x_2.res (0+(p-0)))] (Cs.eff (fun(p_1:Nat)=>cond (Nat.ble 0 p_1&&Nat.blt p_1 64) [Value.int .u8 (x_1.res (0+(p_1-0)))] [Value.int .u8 0]) [] p)) [] k)) 1&&List.all (Cs.eff (fun(p:Nat)=>cond (Nat.ble 0 p&&Nat.blt p (0+x_2.b.n)) [Value.int .u8 (x_2.res (0+(p-0)))] (Cs.eff (fun(p_1:Nat)=>cond (Nat.ble 0 p_1&&Nat.blt p_1 64) [Value.int .u8 (x_1.res (0+(p_1-0)))] [Value.int .u8 0]) [] p)) [] k) Value.oneCell')=true)/\(∀k:Nat,k<64->(Nat.beq (List.length (Cs.eff (Cs.eff (fun(p:Nat)=>cond (Nat.ble 0 p&&Nat.blt p (0+x_2.b.n)) [Value.int .u8 (x_2.res (0+(p-0)))] (Cs.eff (fun(p_1:Nat)=>cond (Nat.ble 0 p_1&&Nat.blt p_1 64) [Value.int .u8 (x_1.res (0+(p_1-0)))] [Value.int .u8 0]) [] p)) []) [] k)) 1&&List.all (Cs.eff (Cs.eff (fun(p:Nat)=>cond (Nat.ble 0 p&&Nat.blt p (0+x_2.b.n)) [Value.int .u8 (x_2.res (0+(p-0)))] (Cs.eff (fun(p_1:Nat)=>cond (Nat.ble 0 p_1&&Nat.blt p_1 64) [Value.int .u8 (x_1.res (0+(p_1-0)))] [Value.int .u8 0]) [] p)) []) [] k) Value.oneCell')=true)/\
 (∀k:Nat,k<64->(Nat.beq (List.length (Cs.eff (Cs.eff (Cs.eff (fun(p:Nat)=>cond (Nat.ble 0 p&&Nat.blt p (0+x_2.b.n)) [Value.int .u8 (x_2.res (0+(p-0)))] (Cs.eff (fun(p_1:Nat)=>cond (Nat.ble 0 p_1&&Nat.blt p_1 64) [Value.int .u8 (x_1.res (0+(p_1-0)))] [Value.int .u8 0]) [] p)) []) []) [] k)) 1&&List.all (Cs.eff (Cs.eff (Cs.eff (fun(p:Nat)=>cond (Nat.ble 0 p&&Nat.blt p (0+x_2.b.n)) [Value.int .u8 (x_2.res (0+(p-0)))] (Cs.eff (fun(p_1:Nat)=>cond (Nat.ble 0 p_1&&Nat.blt p_1 64) [Value.int .u8 (x_1.res (0+(p_1-0)))] [Value.int .u8 0]) [] p)) []) []) [] k) Value.oneCell')=true)/\KO/\ ∃y_2:Unit,True/\akH/\(64=64/\ ∀q:Nat,q<64->[Value.int .u8 (jw x q)]=Cs.eff (Cs.eff (Cs.eff (Cs.eff (fun(p:Nat)=>cond (Nat.ble 0 p&&Nat.blt p (0+x_2.b.n)) [Value.int .u8 (x_2.res (0+(p-0)))] (Cs.eff (fun(p_1:Nat)=>cond (Nat.ble 0 p_1&&Nat.blt p_1 64) [Value.int .u8 (x_1.res (0+(p_1-0)))] [Value.int .u8 0]) [] p)) []) []) []) [] q)/\True) (64<=x_2.b.n/\ap0 x_2/\(∀k:Nat,k<64->(Nat.beq (List.length (Cs.eff (fun(p:Nat)=>cond (Nat.ble 0 p&&Nat.blt p 64) [Value.int .u8 (x_2.res (0+(p-0)))] (Cs.eff (fun(p_1:Nat)=>cond (Nat.ble 0 p_1&&Nat.blt p_1 64) [Value.int .u8 (x_1.res (0+(p_1-0)))] [Value.int .u8 0]) [] p)) [] k)) 1&&List.all (Cs.eff (fun(p:Nat)=>cond (Nat.ble 0 p&&Nat.blt p 64) [Value.int .u8 (x_2.res (0+(p-0)))] (Cs.eff (fun(p_1:Nat)=>cond (Nat.ble 0 p_1&&Nat.blt p_1 64) [Value.int .u8 (x_1.res (0+(p_1-0)))] [Value.int .u8 0]) [] p)) [] k) Value.oneCell')=true)/\
 (∀k:Nat,k<64->(Nat.beq (List.length (Cs.eff (Cs.eff (fun(p:Nat)=>cond (Nat.ble 0 p&&Nat.blt p 64) [Value.int .u8 (x_2.res (0+(p-0)))] (Cs.eff (fun(p_1:Nat)=>cond (Nat.ble 0 p_1&&Nat.blt p_1 64) [Value.int .u8 (x_1.res (0+(p_1-0)))] [Value.int .u8 0]) [] p)) []) [] k)) 1&&List.all (Cs.eff (Cs.eff (fun(p:Nat)=>cond (Nat.ble 0 p&&Nat.blt p 64) [Value.int .u8 (x_2.res (0+(p-0)))] (Cs.eff (fun(p_1:Nat)=>cond (Nat.ble 0 p_1&&Nat.blt p_1 64) [Value.int .u8 (x_1.res (0+(p_1-0)))] [Value.int .u8 0]) [] p)) []) [] k) Value.oneCell')=true)/\(∀k:Nat,k<64->(Nat.beq (List.length (Cs.eff (Cs.eff (Cs.eff (fun(p:Nat)=>cond (Nat.ble 0 p&&Nat.blt p 64) [Value.int .u8 (x_2.res (0+(p-0)))] (Cs.eff (fun(p_1:Nat)=>cond (Nat.ble 0 p_1&&Nat.blt p_1 64) [Value.int .u8 (x_1.res (0+(p_1-0)))] [Value.int .u8 0]) [] p)) []) []) [] k)) 1&&List.all (Cs.eff (Cs.eff (Cs.eff (fun(p:Nat)=>cond (Nat.ble 0 p&&Nat.blt p 64) [Value.int .u8 (x_2.res (0+(p-0)))] (Cs.eff (fun(p_1:Nat)=>cond (Nat.ble 0 p_1&&Nat.blt p_1 64) [Value.int .u8 (x_1.res (0+(p_1-0)))] [Value.int .u8 0]) [] p)) []) []) [] k) Value.oneCell')=true)/\KO/\ ∃y_2:Unit,True/\akH/\(64=64/\ ∀q:Nat,q<64->[Value.int .u8 (jw x q)]=Cs.eff (Cs.eff (Cs.eff (Cs.eff (fun(p:Nat)=>cond (Nat.ble 0 p&&Nat.blt p 64) [Value.int .u8 (x_2.res (0+(p-0)))] (Cs.eff (fun(p_1:Nat)=>cond (Nat.ble 0 p_1&&Nat.blt p_1 64) [Value.int .u8 (x_1.res (0+(p_1-0)))] [Value.int .u8 0]) [] p)) []) []) []) [] q)/\True))
theorem ag8(x:Int):Z8 x=wpF Tryz.prog tblK tt (fun _ _ _ _=>[]) 200 5 150 (En.args x) (hO En.k (En.os x)) (fun v h'=>fA En.k x v h' En.outs):=by kernel_rfl
theorem Z9(b:Bys)(hb:b.ok):akI b:=by
 unfold akI
 simp only[aY,aU,aT,ay,aH,bP,bC,aN,aJ,au,aW,aV]
 exact⟨⟨0,b⟩,⟨(show U32 0 from ⟨by omega,by omega⟩),hb⟩,⟨rfl,rfl,rfl⟩,⟨rfl,fun _ _=>rfl⟩,rfl⟩
theorem oG(v:Int)(k:Nat):0<=v/256^k%256/\v/256^k%256<256:=⟨Int.emod_nonneg _ (by omega),Int.emod_lt_of_pos _ (by omega)⟩
theorem C9{g:Nat->Int}(h: ∀k,0<=g k/\g k<256)(a w:Nat)(v:Int)(k:Nat):0<=qX g a w v k/\qX g a w v k<256:=by
 unfold qX
 split
 ·exact oG _ _
 ·exact h k
theorem VN(v:Int)(hv:0<=v/\v<18446744073709551616):Z8 v:=by
 unfold Z8
 simp only[KO,apZ,atM,akH,ap0,atK]
 simp only[aY,aU,aT,ay,aH,bP,bC,aN,aJ,au,aW,aV]
 let b0:Bys:=⟨fun k=>if k=0 then 3 else 0,0,9,9⟩
 let x1:xK:=⟨b0,1,8,v,9⟩
 have ok1:x1.ok:=⟨⟨by simp[x1,b0],by simp[x1,b0],fun k=>by simp only[x1,b0];split<;>omega⟩,by simp[x1,b0],by simp[x1],by simp[x1],hv.1,hv.2⟩
 have r1: ∀k,k<9->x1.res k=ag7 v k:=fun k hk=>by
  simp only[xK.res,qX,ag7,x1,b0]
  by_cases h:k=0
  ·subst h;simp
  ·rw[if_pos (by omega),if_neg h]
 have u1: ∀k,0<=x1.res k/\x1.res k<256:=C9 (fun k=>ok1.1.2.2 _) _ _ _
 let b1:Bys:=⟨fun k=>if k<9 then x1.res k else 0,0,64,64⟩
 let x2:xK:=⟨b1,9,4,pV 0 x1.res 9,64⟩
 have c1:pV 0 x1.res 9=pV 0 (ag7 v) 9:=CZ r1
 have hU:=adz 0 x1.res 9
 have ok2:x2.ok:=⟨⟨by simp[x2,b1],by simp[x2,b1],fun k=>by
  show 0<=(if k<9 then x1.res k else 0)/\(if k<9 then x1.res k else 0)<256
  split
  ·exact u1 k
  ·exact⟨by omega,by omega⟩⟩,by simp[x2,b1],by simp[x2],by simp[x2],hU.1,hU.2⟩
 have w64:IntKind.u64.wrap (pV 0 x1.res 9)=pV 0 x1.res 9:=by
  have:=hU.1;have:=hU.2
  unfold IntKind.wrap;simp[IntKind.bits,IntKind.signed];omega
 have nb:x1.b.n=9:=rfl
 have nb2:x2.b.n=64:=rfl
 have ble9:Nat.ble 9 64=true:=rfl
 have atN:Nat.ble 64 64=true:=rfl
 refine⟨x1,ok1,⟨⟨rfl,rfl,rfl⟩,rfl,rfl,rfl⟩,⟨rfl,fun q hq=> ?_⟩,by omega,by omega,?_⟩
 ·have hq:q<9:=hq
  match q,hq with
  |0,_|1,_|2,_|3,_|4,_|5,_|6,_|7,_|8,_=>rfl
 simp only[nb,ble9,cP,bQ,bF,bG,bH,bT,bf,bJ,aZ,dZ,aG,aK,ah,aj,aA,aC,aB,aF,aJ,aT]
 refine⟨by omega,by omega,by omega,9,x1.res,rfl,by omega,fun _ _=>rfl,u1,x2,ok2,⟨⟨rfl,rfl,rfl⟩,rfl,rfl,w64.symm⟩,⟨rfl,fun q hq=> ?_⟩,by omega,by omega,?_⟩
 ·show(if q<9 then x1.res q else 0)=_
  rw[cO,eX]
 simp only[nb2,atN,cP,bQ,bF,bG,bH,bT,bf,bJ,aZ,dZ,aG,aK,ah,aj,aA,aC,aB,aF,aJ,aT]
 refine⟨by omega,by omega,fun q hq=> ?_⟩
 simp[bW.2 hq]
 show jw v q=qX (fun k=>if 0+k<9 then x1.res (0+k)else 0) 9 4 (pV 0 x1.res 9) q
 simp only[jw,qX,c1,ay]
 by_cases h:q<9
 ·rw[if_pos h,if_neg (by omega),if_pos h,r1 q h]
 ·by_cases h2:q<13
  ·rw[if_neg h,if_pos h2,if_pos (by omega)]
  ·rw[if_neg h,if_neg h2,if_neg (by omega),if_neg h]
theorem aac{P:Program}{f:FuncId}{X:Type}{args:X->List AV}{k m:Nat}{os os':X->List dw}{pre:X->Prop}{ret:X->AV}(hC:bZ P f (det X args k os pre ret m os'))(x:X)(hp:pre x):Sp P f (args x) (hO k (os x)) (fun v _=>v=ret x):=
 (hC x hp).2.mono fun _ _ hh=>by
  have ha:Qn x (fun v _=>v=ret x) (det X args k os pre ret m os').outs:=fun _ _=>rfl
  exact CV ha hh
theorem akK:bZ Tryz.prog 171 ag6:=dV dB mixed (.cons (bU asi) .nil) (fun _ _ _ _ _=>[]) 200 5 (fun _=>rfl) (fun _=>rfl) fun x hx=>Eq.mp (akJ x) (Z9 x (aY.1 hx))
theorem adA(args:List AV)(h:Heap)(K:AV->Heap->Prop)(hq:apY args h K):Sp Tryz.prog 171 args h K:=by
 unfold apY at hq
 split at hq
 ·refine apO (akK ⟨fun _=>0,0,0,0⟩ (aY.2 ⟨by simp,by simp,fun _=>by simp⟩)).2.1 (by omega) hq fun e he=> ?_
  obtain⟨n,g,h1,h2,h3,h4,hK⟩:=he
  have hs:=aac akK ⟨g,0,n,n⟩ (aY.2 ⟨by simp,h2,h4⟩)
  refine⟨n,fun k=>[.int .u8 (g k)],u32 (pV 0 (fun k=>g (0+k)) n),h1,h3,rfl,?_,hs⟩
  simpa only[ay]using hK
 ·exact hq.elim
theorem akL:fJ Tryz.prog tblK:= .cons adA (.cons (aww (bU asl) fun _ _ _ hq=>xY dB mixed fJ.nil _ _ _ _ _ _ _ hq) .nil)
theorem adB:bZ Tryz.prog 150 En:=dV dB mixed akL (fun _ _ _ _ _=>[]) 200 5 (fun _=>rfl) (fun _=>rfl) fun x hx=>Eq.mp (ag8 x) (VN x (aY.1 hx))
theorem Nq:Ap Tryz.prog 102 (Extern.Atomic.loadT (.int .u64)):=⟨Tryz.f102,by kernel_rfl,by kernel_rfl,by kernel_rfl,by kernel_rfl,by kernel_rfl⟩
def adC:jY:=[(102,apT .u64)]
theorem aad:fJ Tryz.prog adC:= .Ql (fun _ _ _ hq=>adx _ _ _ Nq hq) .nil
theorem aae:Ap Tryz.prog 104 Extern.Atomic.storeT:=⟨Tryz.f104,by kernel_rfl,by kernel_rfl,by kernel_rfl,by kernel_rfl,by kernel_rfl⟩
def VO:jY:=[(104,adw .u64)]
theorem VP:fJ Tryz.prog VO:= .Ql (fun _ _ _ hq=>VJ _ _ _ aae hq) .nil
theorem akM:Ap Tryz.prog 103 (Extern.Atomic.casT (.int .u64)):=⟨Tryz.f103,by kernel_rfl,by kernel_rfl,by kernel_rfl,by kernel_rfl,by kernel_rfl⟩
def akN:jY:=[(103,casX .u64)]
theorem ag9:fJ Tryz.prog akN:= .Ql (fun _ _ _ hq=>atD _ _ _ akM hq) .nil
theorem akO:Ap Tryz.prog 108 (Extern.Atomic.update (Op.intArith .add) .u64 true):=⟨Tryz.f108,by kernel_rfl,by kernel_rfl,by kernel_rfl,by kernel_rfl,by kernel_rfl⟩
def akP:jY:=[(108,addX .u64)]
theorem aha:fJ Tryz.prog akP:= .Ql (fun _ _ _ hq=>akw _ _ _ akO hq) .nil
theorem ahb:Ap Tryz.prog 285 (Extern.Atomic.swapT (.int .u64)):=⟨Tryz.f285,by kernel_rfl,by kernel_rfl,by kernel_rfl,by kernel_rfl,by kernel_rfl⟩
def adD:jY:=[(285,atA .u64)]
theorem aaf:fJ Tryz.prog adD:= .Ql (fun _ _ _ hq=>apU _ _ _ ahb hq) .nil
theorem ahc:Ap Tryz.prog 168 (Extern.Atomic.update (Op.intArith .add) .i64 true):=⟨Tryz.f168,by kernel_rfl,by kernel_rfl,by kernel_rfl,by kernel_rfl,by kernel_rfl⟩
def adE:jY:=[(168,addX .i64)]
theorem aag:fJ Tryz.prog adE:= .Ql (fun _ _ _ hq=>akw _ _ _ ahc hq) .nil
def VQ:jY:=[]
theorem VR:fJ Tryz.prog VQ:= .nil
theorem ahd:Ap Tryz.prog 193 (Extern.Atomic.loadT (.int .u32)):=⟨Tryz.f193,by kernel_rfl,by kernel_rfl,by kernel_rfl,by kernel_rfl,by kernel_rfl⟩
def adF:jY:=[(193,apT .u32)]
theorem aah:fJ Tryz.prog adF:= .Ql (fun _ _ _ hq=>adx _ _ _ ahd hq) .nil
theorem aai:Ap Tryz.prog 239 Extern.Atomic.storeT:=⟨Tryz.f239,by kernel_rfl,by kernel_rfl,by kernel_rfl,by kernel_rfl,by kernel_rfl⟩
def VT:jY:=[(239,adw .u32)]
theorem VU:fJ Tryz.prog VT:= .Ql (fun _ _ _ hq=>VJ _ _ _ aai hq) .nil
noncomputable def tV:jY:=adC++VO++akN++akP++adD++adE++VQ++adF++VT
theorem fC:fJ Tryz.prog tV:= .append (.append (.append (.append (.append (.append (.append (.append (aad) VP) ag9) aha) aaf) aag) VR) aah) VU
structure dS where
 n:Nat
 b:Nat->Int
 s:Nat->Bool
 st:Int
 fl:Int
 fe:Int
 ba:Int
 cu:Int
def small(z:Int):Prop:=0<=z/\z<1099511627776
noncomputable def iL(d:dS)(p:Nat):List Value:=hide [if p%193=192 then .bool (d.s (p/193))else .int .u8 (d.b p)]
theorem qK(d:dS)(p:Nat):iL d p=[if p%193=192 then .bool (d.s (p/193))else .int .u8 (d.b p)]:=qI _
namespace dS
def ok(d:dS):Prop:=d.n<=258/\(∀p,0<=d.b p/\d.b p<256)/\small d.st/\small d.fl/\small d.fe/\small d.ba/\small d.cu
def dev(i:Nat)(d:dS):dw:= .cells 201 (.av [.slE i 0 193 d.n d.n,i64 d.st,i64 d.fl,i64 d.fe,i64 d.ba,i64 d.cu])
noncomputable def cells(d:dS):dw:= .cells 229 (.row 1 (d.n*193) (iL d) [])
noncomputable def os(d:dS):List dw:=[d.dev 1,d.cells]
def _root_.Go.Proofs.YtenfleoejgjklaaGreat.xZ(n:Nat):dS:=⟨n,fun _=>0,fun _=>false,0,0,0,0,0⟩
def flush(d:dS)(k:Nat):dS:={d with b:=fun p=>if k*193+128<=p/\p<k*193+192 then d.b (p-128)else d.b p,s:=fun q=>if q=k then true else d.s q,fl:=if k<d.n then d.fl+1 else d.fl}
def jF(d:dS)(k:Nat):dS:={d with b:=fun p=>if p/193<k/\d.s (p/193)=true/\64<=p%193/\p%193<128 then d.b (p+64)else d.b p,s:=fun q=>if q<k then false else d.s q}
def fence(d:dS):dS:={d.jF d.n with fe:=d.fe+1}
def store(d:dS)(k a n:Nat)(g:Nat->Int):dS:={d with b:=fun p=>if k*193+a<=p/\p<k*193+a+n then g (p-(k*193+a))else d.b p,st:=d.st+1}
end dS
structure Qu where
 d:dS
 k:Nat
noncomputable def Eo:Ctr:=det Qu (fun x=>[.ptr 0 0,i64 x.k]) 2 (fun x=>x.d.os) (fun x=>Hd (x.d.ok/\x.k<258)) (fun x=>i64 (if x.k<x.d.n then 0 else 2)) 2 (fun x=>(x.d.flush x.k).os)
noncomputable def Ep:Ctr:=det dS (fun _=>[.ptr 0 0]) 2 (fun d=>d.os) (fun d=>Hd d.ok) (fun _=>i64 0) 2 (fun d=>d.fence.os)
noncomputable def akQ(d:dS):FuncId->tK:=fun f=>
 bif Nat.beq f 106 then(fun b fr h=>bif Nat.beq b 0 then [{σ:=Nat,fr:=fun k=>[(12,i64 k)],ob:=fun k=>[(1,some (d.jF k).cells)],inv:=fun k=>k<=d.n,meas:=fun k=>d.n-k}]else [])else
 fun _ _ _=>[]
structure pW where
 d:dS
 k:Nat
 a:Nat
 b:Bys
noncomputable def Es:Ctr:=det pW (fun x=>[.ptr 0 0,i64 x.k,i64 x.a,x.b.av 2]) 3 (fun x=>x.d.os++[x.b.ro]) (fun x=>Hd (x.d.ok/\x.k<x.d.n/\x.b.ok/\x.a+x.b.n<=64)) (fun _=>i64 0) 3 (fun x=>(x.d.store x.k x.a x.b.n (fun q=>x.b.g (x.b.q+q))).os++[x.b.ro])
def ahe(a:dS):Prop:=a.ba=a.ba/\a.cu=a.cu/\True
def aaj(a:dS):Prop:=a.fe=a.fe/\ahe a
def aak(a:dS):Prop:=a.fl=a.fl/\aaj a
def VW(a:Bys):Prop:=(rowB a.g a.N=rowB a.g a.N/\true=true)/\True
def nC(a:Nat):Prop:=a*193=a*193
def qm(a:Nat):Prop:=0=0/\a=a/\a=a
def ap1(a:pW):Prop:= ∃y:Unit,True/\(0:Int)=2/\(qm a.d.n/\a.d.st+1=a.d.st/\aak a.d)/\(nC a.d.n/\ ∀q:Nat,q<a.d.n*193->Cs.eff (iL (a.d.store a.k a.a a.b.n (fun(q_1:Nat)=>a.b.g (a.b.q+q_1)))) [] q=Cs.eff (iL a.d) [] q)/\VW a.b
def ap2(a:dS):Prop:=(qm a.n/\a.st=a.st/\aak a)/\True
def adG(a:Bys)(b:Nat):Prop:=(Nat.beq (List.length [Value.int .u8 (a.g (a.q+b))]) 1&&List.all [Value.int .u8 (a.g (a.q+b))] Value.oneCell')=true
def adH:Prop:= ∃y:Unit,True/\(False/\(0:Int)=2/\True)/\False/\False/\True
def akR(n:Nat):Prop:=
 cP (decide ((n:Int)<1)) adH (cP (decide ((n:Int)>(258:Int))) adH ((0<=(n:Int)/\(n:Int)<=(n:Int)/\193*(n:Int)<=281474976710656/\(n:Int)<4611686018427387904)/\ ∃y:Unit,True/\(0=0/\(0:Int)=0/\True)/\(qm n/\(0:Int)=0/\(0:Int)=0/\(0:Int)=0/\(0:Int)=0/\(0:Int)=0/\True)/\(nC n/\ ∀q:Nat,∀j:Nat,q<n->j<193-> ∃v:Value,getElem? (List.replicate 192 (Value.int .u8 0)++[Value.bool false]) j=some v/\Cs.eff (iL (xZ n)) [] (q*193+j)=[v])/\True))
def aal(x:Qu):Prop:=
 cP (decide ((x.k:Int)>=(x.d.n:Int))) (∃y:Unit,True/\ite (x.k<x.d.n) (0:Int) (2:Int)=2/\(qm x.d.n/\x.d.st=x.d.st/\ite (x.k<x.d.n) (x.d.fl+1) x.d.fl=x.d.fl/\aaj x.d)/\(nC x.d.n/\ ∀q:Nat,q<x.d.n*193->Cs.eff (iL (x.d.flush x.k)) [] q=Cs.eff (iL x.d) [] q)/\True) (I64 (64:Int)/\(0<=(x.k:Int)/\(x.k:Int)<(x.d.n:Int))/\(0+x.k)*193+0+64<=x.d.n*193/\(0+x.k)*193+128+64<=x.d.n*193/\(∀k:Nat,k<64->(Nat.beq (List.length (Cs.eff (iL x.d) [] ((0+x.k)*193+0+k))) 1&&List.all (Cs.eff (iL x.d) [] ((0+x.k)*193+0+k)) Value.oneCell')=true)/\(0+x.k)*193+192<x.d.n*193/\I64 (x.d.fl+1)/\ ∃y:Unit,True/\ite (x.k<x.d.n) (0:Int) (2:Int)=0/\(qm x.d.n/\x.d.st=x.d.st/\ite (x.k<x.d.n) (x.d.fl+1) x.d.fl=x.d.fl+1/\aaj x.d)/\(nC x.d.n/\ ∀q:Nat,q<x.d.n*193->Cs.eff (iL (x.d.flush x.k)) [] q=Cs.eff (fun(p:Nat)=>cond (Nat.ble ((0+x.k)*193+128) p&&Nat.blt p ((0+x.k)*193+128+64)) (Cs.eff (iL x.d) [] ((0+x.k)*193+0+(p-((0+x.k)*193+128)))) (Cs.eff (iL x.d) [] p)) [((0+x.k)*193+192,[Value.bool true])] q)/\True)
theorem ahf(x:Qu):aal x=wpF Tryz.prog tV tt (fun _ _ _ _=>[]) 200 5 105 (Eo.args x) (hO Eo.k (Eo.os x)) (fun v h'=>fA Eo.k x v h' Eo.outs):=by kernel_rfl
def aam(d:dS):Prop:=
 (∃s:Nat,s<=d.n/\True/\((s:Int)=0/\True)/\(nC d.n/\ ∀q:Nat,q<d.n*193->Cs.eff (iL (d.jF s)) [] q=Cs.eff (iL d) [] q)/\ap2 d)/\(∀s:Nat,s<=d.n->cP (decide ((s:Int)<(d.n:Int))) ((0<=(s:Int)/\(s:Int)<(d.n:Int))/\(0+s)*193+192<d.n*193/\ ∃b:Bool,getElem? (iL (d.jF s) ((0+s)*193+192)) 0=some (Value.bool b)/\cP b ((0+s)*193+128+64<=d.n*193/\(0+s)*193+64+64<=d.n*193/\(∀k:Nat,k<64->(Nat.beq (List.length (Cs.eff (iL (d.jF s)) [] ((0+s)*193+128+k))) 1&&List.all (Cs.eff (iL (d.jF s)) [] ((0+s)*193+128+k)) Value.oneCell')=true)/\(0+s)*193+192<d.n*193/\I64 ((s:Int)+1)/\ ∃s_1:Nat,s_1<=d.n/\d.n-s_1<d.n-s/\((s_1:Int)=(s:Int)+1/\True)/\(nC d.n/\ ∀q:Nat,q<d.n*193->Cs.eff (iL (d.jF s_1)) [] q=Cs.eff (fun(p:Nat)=>cond (Nat.ble ((0+s)*193+64) p&&Nat.blt p ((0+s)*193+64+64)) (Cs.eff (iL (d.jF s)) [] ((0+s)*193+128+(p-((0+s)*193+64)))) (Cs.eff (iL (d.jF s)) [] p)) [((0+s)*193+192,[Value.bool false])] q)/\ap2 d) (I64 ((s:Int)+1)/\ ∃s_1:Nat,s_1<=d.n/\d.n-s_1<d.n-s/\((s_1:Int)=(s:Int)+1/\True)/\(nC d.n/\ ∀q:Nat,q<d.n*193->Cs.eff (iL (d.jF s_1)) [] q=Cs.eff (iL (d.jF s)) [] q)/\ap2 d)) (I64 (d.fe+1)/\ ∃y:Unit,True/\(0:Int)=0/\(qm d.n/\d.st=d.st/\d.fl=d.fl/\d.fe+1=d.fe+1/\ahe d)/\(nC d.n/\ ∀q:Nat,q<d.n*193->Cs.eff (iL d.fence) [] q=Cs.eff (iL (d.jF s)) [] q)/\True))/\True
theorem ahg(d:dS):aam d=wpF Tryz.prog tV tt (akQ d) 200 5 106 (Ep.args d) (hO Ep.k (Ep.os d)) (fun v h'=>fA Ep.k d v h' Ep.outs):=by kernel_rfl
def Qv(x:pW):Prop:=
 cP (decide ((x.k:Int)>=(x.d.n:Int))) (ap1 x) (I64 (64-(x.b.n:Int))/\cP (decide ((x.a:Int)>64-(x.b.n:Int))) (ap1 x) ((0<=(x.k:Int)/\(x.k:Int)<(x.d.n:Int))/\0<=(x.a:Int)/\(x.a<=64/\64<=64/\64<=64)/\(0+x.k)*193+0+x.a+(64-x.a)<=x.d.n*193/\cP (Nat.ble x.b.n (64-x.a)) (x.b.q+x.b.n<=x.b.N/\(∀k:Nat,k<x.b.n->adG x.b k)/\I64 (x.d.st+1)/\ ∃y:Unit,True/\(0:Int)=0/\(qm x.d.n/\x.d.st+1=x.d.st+1/\aak x.d)/\(nC x.d.n/\ ∀q:Nat,q<x.d.n*193->Cs.eff (iL (x.d.store x.k x.a x.b.n (fun(q_1:Nat)=>x.b.g (x.b.q+q_1)))) [] q=Cs.eff (fun(p:Nat)=>cond (Nat.ble ((0+x.k)*193+0+x.a) p&&Nat.blt p ((0+x.k)*193+0+x.a+x.b.n)) [Value.int .u8 (x.b.g (x.b.q+(p-((0+x.k)*193+0+x.a))))] (Cs.eff (iL x.d) [] p)) [] q)/\VW x.b) (x.b.q+(64-x.a)<=x.b.N/\(∀k:Nat,k<64-x.a->adG x.b k)/\I64 (x.d.st+1)/\ ∃y:Unit,True/\(0:Int)=0/\(qm x.d.n/\x.d.st+1=x.d.st+1/\aak x.d)/\(nC x.d.n/\ ∀q:Nat,q<x.d.n*193->Cs.eff (iL (x.d.store x.k x.a x.b.n (fun(q_1:Nat)=>x.b.g (x.b.q+q_1)))) [] q=Cs.eff (fun(p:Nat)=>cond (Nat.ble ((0+x.k)*193+0+x.a) p&&Nat.blt p ((0+x.k)*193+0+x.a+(64-x.a))) [Value.int .u8 (x.b.g (x.b.q+(p-((0+x.k)*193+0+x.a))))] (Cs.eff (iL x.d) [] p)) [] q)/\VW x.b)))
theorem ahh(x:pW):Qv x=wpF Tryz.prog tV tt (fun _ _ _ _=>[]) 200 5 62 (Es.args x) (hO Es.k (Es.os x)) (fun v h'=>fA Es.k x v h' Es.outs):=by kernel_rfl
theorem akS(d:dS)(p:Nat):((iL d p).length.beq 1&&(iL d p).all Value.oneCell')=true:=by
 rw[qK]
 split<;>rfl
theorem aan(n:Nat)(hn:1<=n/\n<=258):akR n:=by
 unfold akR
 simp only[adH,qm,nC]
 simp only[aY,aU,aT,ay,aH,bP,bC,aN,aJ,au,aW,aV,bQ,bF,bG,bH,bT,bf,bJ,aZ,dZ,aG,aK,ah,aj,aA,aC,aB,aF]
 refine bg (fun h=>absurd (aQ h) (by omega)) fun _=>bg (fun h=>absurd (aQ h) (by omega)) fun _=>⟨by omega,fun q j _ hj=> ?_⟩
 rw[qK,show(q*193+j)%193=j by omega]
 by_cases h:j=192
 ·subst h;exact⟨_,rfl,rfl⟩
 ·rw[if_neg h]
  refine⟨.int .u8 0,?_,rfl⟩
  rw[List.getElem?_append_left (by rw[List.length_replicate];omega),List.getElem?_replicate,if_pos (by omega)]
theorem VX(x:Qu)(hx:x.d.ok/\x.k<258):aal x:=by
 obtain⟨⟨h1,h2,h3,h4,h5,h6⟩,hk⟩:=hx
 unfold small at*
 unfold aal
 simp only[qm,aaj,nC,ahe]
 simp only[aY,aU,aT,ay,aH,bP,bC,aN,aJ,au,aW,aV,bQ,bF,bG,bH,bT,bf,bJ,aZ,dZ,aG,aK,ah,aj,aA,aC,aB,aF]
 refine bg (fun h=> ?_) fun h=> ?_
 ·have h:=aQ h
  refine⟨by rw[if_neg (by omega)],by rw[if_neg (by omega)],fun q hq=> ?_⟩
  simp only[qK,dS.flush]
  grind
 ·have h:x.k<x.d.n:=by have:=aS h;omega
  rw[if_pos h,if_pos h]
  refine⟨by unfold I64;omega,by omega,by omega,by omega,fun k _=>akS _ _,by omega,by unfold I64;omega,rfl,rfl,fun q hq=> ?_⟩
  simp only[Cs.eff,cO,dR,dQ,eX,<-Bool.decide_and,qK,dS.flush]
  grind
theorem VY(d:dS)(hd:d.ok):aam d:=by
 obtain⟨h1,h2,h3,h4,h5,h6⟩:=hd
 unfold small at*
 unfold aam
 simp only[nC,ap2,qm,ahe,aak,aaj]
 simp only[aY,aU,aT,ay,aH,bP,bC,aN,aJ,au,aW,aV,bQ,bF,bG,bH,bT,bf,bJ,aZ,dZ,aG,aK,ah,aj,aA,aC,aB,aF]
 refine⟨⟨0,by omega,by omega,fun q hq=> ?_⟩,fun s hs=>bg (fun hb=> ?_) (fun hb=> ?_)⟩
 ·simp only[qK,dS.jF];grind
 ·have hb:=aQ hb
  refine⟨by omega,by omega,d.s s,?_,bg (fun hc=> ?_) (fun hc=> ?_)⟩
  ·simp only[qK,dS.jF];grind
  ·refine⟨by omega,by omega,fun k _=>akS _ _,by omega,by unfold I64;omega,s+1,by omega,by omega,by omega,fun q hq=> ?_⟩
   simp only[Cs.eff,cO,dR,dQ,eX,<-Bool.decide_and,qK,dS.jF];grind (splits:=30)
  ·refine⟨by unfold I64;omega,s+1,by omega,by omega,by omega,fun q hq=> ?_⟩
   simp only[qK,dS.jF];grind
 ·have:s=d.n:=by have:=aS hb;omega
  subst this
  exact⟨by unfold I64;omega,fun q _=>rfl⟩
theorem Et(x:pW)(hx:x.d.ok/\x.k<x.d.n/\x.b.ok/\x.a+x.b.n<=64):Qv x:=by
 obtain⟨⟨h1,h2,h3,h4,h5,h6⟩,hk,hb,ha⟩:=hx
 unfold small at*
 unfold Qv
 simp only[ap1,adG,qm,aak,nC,VW,aaj,ahe]
 simp only[aY,aU,aT,ay,aH,bP,bC,aN,aJ,au,aW,aV,bQ,bF,bG,bH,bT,bf,bJ,aZ,dZ,aG,aK,ah,aj,aA,aC,aB,aF]
 obtain⟨b1,b2,b3⟩:=hb
 refine bg (fun h=>absurd (aQ h) (by omega)) fun _=>⟨by unfold I64;omega,bg (fun h=>absurd (aQ h) (by omega)) fun _=>⟨by omega,by omega,by omega,by omega,bg (fun h=> ?_) (fun h=> ?_)⟩⟩
 ·refine⟨b1,by unfold I64;omega,fun q hq=> ?_⟩
  simp only[Cs.eff,cO,dR,dQ,eX,<-Bool.decide_and,qK,dS.store];grind
 ·have: ¬x.b.n<=64-x.a:=fun hh=>by rw[show Nat.ble x.b.n (64-x.a)=true by simpa using hh]at h;cases h
  omega
theorem adI:bZ Tryz.prog 105 Eo:=dV dB mixed fC (fun _ _ _ _ _=>[]) 200 5 (fun _=>rfl) (fun _=>rfl) fun x hx=>Eq.mp (ahf x) (VX x (aY.1 hx))
theorem adJ:bZ Tryz.prog 106 Ep:=dV dB mixed fC akQ 200 5 (fun _=>rfl) (fun _=>rfl) fun x hx=>Eq.mp (ahg x) (VY x (aY.1 hx))
theorem adK:bZ Tryz.prog 62 Es:=dV dB mixed fC (fun _ _ _ _ _=>[]) 200 5 (fun _=>rfl) (fun _=>rfl) fun x hx=>Eq.mp (ahh x) (Et x (aY.1 hx))
structure fD where
 t:Nat
 now:Int
 dur:Int
 jU:Int
 o:Nat->Int
 N:Nat->Bool
 L:Nat->Bool
def awE(f:Nat->Bool):Cs:= .row 1 258 (fun k=>[.bool (f k)]) []
def U64(z:Int):Prop:=0<=z/\z<4611686018427387904
def stA(i:Nat):Nat->AV
 |0=> .lit .nilFunc
 |1=> .fn (.func 57) [.ptr i 0] []
 |2=> .fn (.func 107) [.ptr i 0] []
 |3=> .fn (.func 165) [.ptr i 0] []
 |_=> .fn (.func 212) [.ptr i 0] []
def stV(ph:Nat):AV:=stA 0 ph
namespace fD
def ok(c:fD):Prop:=1<=c.t/\c.t<=4/\U64 c.now/\U64 c.dur/\U64 c.jU/\ ∀k,small (c.o k)
def clkA(c:fD)(i:Nat)(st:AV):dw:= .cells 131 (.cat (.av [u64 c.now,u64 c.dur,u64 c.jU,.slE i 0 1 c.t c.t]) (.cat (awE c.N) (.cat (awE c.L) (.av [st]))))
def clk(c:fD)(ph:Nat):dw:=c.clkA 1 (stV ph)
def owed(c:fD):dw:= .cells 3 (.row 1 c.t (fun k=>[.int .i64 (c.o k)]) [])
def os(c:fD)(ph:Nat):List dw:=[c.clk ph,c.owed]
def note(c:fD)(t:Nat)(l:Int):fD:={c with o:=fun k=>if k=t/\0<=l/\l<258 then c.o k+1 else c.o k,N:=fun q=>c.N q||decide (l=(q:Nat))}
def start(c:fD):fD:={c with now:=c.now+1,jU:=c.now,o:=fun _=>0,N:=fun _=>false,L:=c.N}
def adL(c:fD)(k:Nat):fD:={c with L:=fun q=>if q=k then false else c.L q}
def fin(c:fD):fD:={c with dur:=c.jU,jU:=0}
end fD
def adM(t:Nat)(d:Int):fD:=⟨t,d+1,d,0,fun _=>0,fun _=>false,fun _=>false⟩
structure Zg where
 c:fD
 t:Nat
 l:Int
def Io:Ctr:=det fD (fun _=>[.ptr 0 0]) 2 (fun c=>c.os 0) (fun c=>Hd (c.ok/\c.jU=0)) (fun _=>i64 0) 2 (fun c=>c.start.os 1)
structure rU where
 c:fD
 d:dS
namespace rU
def ok(x:rU):Prop:=x.c.ok/\x.d.ok/\x.c.jU≠0/\1<x.d.n
noncomputable def os(x:rU)(ph:Nat):List dw:=x.c.os ph++[x.d.dev 3,x.d.cells]
end rU
def KP(a:Int):AV:= .tup [i64 a,i64 0]
noncomputable def Ip:Ctr:={X:=rU,args:=fun _=>[.ptr 0 0,.ptr 2 0],k:=4,os:=fun x=>x.os 1,pre:=fun x=>Hd x.ok,outs:=[
 {Y:=Nat,post:=fun x k=>Hd (k<258/\x.c.L k=true/\ ∀j,j<k->x.c.L j=false),ret:=fun _ _=>KP 1,m:=4,os:=fun x k=>rU.os ⟨x.c.adL k,x.d.flush k⟩ 1},
 {Y:=Unit,post:=fun x _=>Hd (∀j,j<258->x.c.L j=false),ret:=fun _ _=>KP 2,m:=4,os:=fun x _=>rU.os ⟨x.c,x.d.fence⟩ 2}]}
def akT(x:rU):FuncId->tK:=fun f=>
 bif Nat.beq f 57 then(fun b fr h=>bif Nat.beq b 0 then [{σ:=Nat,fr:=fun k=>[(11,i64 k)],ob:=fun _=>[],inv:=fun k=>Hd (k<=258/\ ∀j,j<k->x.c.L j=false),meas:=fun k=>258-k}]else [])else
 fun _ _ _=>[]
noncomputable def Iq:Ctr:=det rU (fun _=>[.ptr 0 0,.ptr 2 0]) 4 (fun x=>x.os 2) (fun x=>Hd x.ok) (fun _=>KP 3) 4 (fun x=>rU.os ⟨x.c,x.d.store 1 0 64 (jw x.c.jU)⟩ 3)
noncomputable def Ir:Ctr:=det rU (fun _=>[.ptr 0 0,.ptr 2 0]) 4 (fun x=>x.os 3) (fun x=>Hd x.ok) (fun _=>KP 1) 4 (fun x=>rU.os ⟨x.c,x.d.flush 1⟩ 4)
noncomputable def Iu:Ctr:=det rU (fun _=>[.ptr 0 0,.ptr 2 0]) 4 (fun x=>x.os 4) (fun x=>Hd x.ok) (fun _=>KP 2) 4 (fun x=>rU.os ⟨x.c.fin,x.d.fence⟩ 0)
noncomputable def awF:jY:=tV++[(105,eG Eo),(106,eG Ep),(62,eG Es),(150,eG En)]
theorem Qw:fJ Tryz.prog awF:= .append fC (.cons (bU adI) (.cons (bU adJ) (.cons (bU adK) (.cons (bU adB) .nil))))
def nD(a:Nat):Prop:=0=0/\a=a/\a=a
def vk(a:fD):Prop:=a.now=a.now/\a.dur=a.dur/\a.jU=a.jU/\nD a.t/\True
def yQ(a:fD):Prop:=a.t=a.t/\ ∀q:Nat,q<a.t->[Value.int .i64 (a.o q)]=[Value.int .i64 (a.o q)]
def xQ(a:fD):Prop:=258=258/\ ∀q:Nat,q<258->[Value.bool (a.L q)]=[Value.bool (a.L q)]
def Eu:Prop:=Value.nilFunc=Value.nilFunc/\True
def ap3(a:Zg):Prop:=(vk a.c/\(258=258/\ ∀q:Nat,q<258->[Value.bool (Bool.or (a.c.N q) (decide (a.l=(q:Int))))]=[Value.bool (a.c.N q)])/\xQ a.c/\Eu)/\(a.c.t=a.c.t/\ ∀q:Nat,q<a.c.t->[Value.int .i64 (ite (q=a.t/\0<=a.l/\a.l<258) (a.c.o q+1) (a.c.o q))]=[Value.int .i64 (a.c.o q)])/\True
def sF(a:fD):Prop:=258=258/\ ∀q:Nat,q<258->[Value.bool (a.N q)]=[Value.bool (a.N q)]
def tX(a:Nat)(b:Nat):Prop:=0=0/\a=b/\a=b
def Ew(a:dS)(b:dS):Prop:=a.ba=b.ba/\a.cu=b.cu/\True
def Iw(a:dS)(b:dS):Prop:=a.fe=b.fe/\Ew a b
def Nr(a:dS)(b:dS):Prop:=a.fl=b.fl/\Iw a b
def Ns(a:dS)(b:dS):Prop:=a.st=b.st/\Nr a b
def Nu(a:dS)(b:dS):Prop:=a.n*193=b.n*193/\ ∀q:Nat,q<a.n*193->Cs.eff (iL a) [] q=Cs.eff (iL b) [] q
def aao(a:dS)(b:dS):Prop:=(tX a.n b.n/\Ns a b)/\Nu a b/\True
def qo:Prop:=(0=0/\True)/\True
def adN:Prop:=(@Fn.func (57: @FuncId)= @Fn.func (57: @FuncId)/\qo)/\True
def Nv(a:dS):Prop:=a.ba=a.ba/\a.cu=a.cu/\True
def Iy(a:dS):Prop:=a.fe=a.fe/\Nv a
def akU(a:rU):Prop:=(a.d.n*193=a.d.n*193/\ ∀q:Nat,q<a.d.n*193->Cs.eff (iL a.d) [] q=Cs.eff (iL a.d) [] q)/\(nD a.d.n/\a.d.st=a.d.st/\a.d.fl=a.d.fl/\Iy a.d)/\yQ a.c/\(vk a.c/\sF a.c/\xQ a.c/\adN)/\True
def adO(a:rU):Prop:=yQ a.c/\(nD a.d.n/\a.d.st=a.d.st/\a.d.fl=a.d.fl/\a.d.fe+1=a.d.fe/\Nv a.d)/\(a.d.n*193=a.d.n*193/\ ∀q:Nat,q<a.d.n*193->Cs.eff (iL a.d.fence) [] q=Cs.eff (iL a.d) [] q)/\True
def adP(a:rU)(b:dS):Prop:=yQ a.c/\(tX a.d.n b.n/\a.d.st=b.st/\a.d.fl=b.fl/\a.d.fe+1=b.fe+1/\Ew a.d b)/\(a.d.n*193=b.n*193/\ ∀q:Nat,q<a.d.n*193->Cs.eff (iL a.d.fence) [] q=Cs.eff (iL b.fence) [] q)/\True
def Nw:Prop:=258=258/\ ∀q:Nat,q<258->[Value.bool false]=[Value.bool false]
def adQ(a:Nat)(b:fD):Prop:=Hd (a<258/\b.L a=true/\ ∀j:Nat,j<a->b.L j=false)
def adR:Prop:= ∃y:Unit,True/\(False/\(0:Int)=2/\True)/\False/\False/\True
def Ar:Prop:=(0:Int)=12/\True
def akV(p:Nat×Int):Prop:=
 cP (decide ((p.1:Int)<1)) adR (cP (decide ((p.1:Int)>(4:Int))) adR (cP (decide (p.2>(1152921504606846976:Int))) (∃y:Unit,True/\(False/\(0:Int)=10/\True)/\False/\False/\True) ((0<=(p.1:Int)/\(p.1:Int)<=(p.1:Int)/\8*(p.1:Int)<=281474976710656/\(p.1:Int)<4611686018427387904)/\ ∃y:Unit,True/\(0=0/\(0:Int)=0/\True)/\((p.2+1=IntKind.wrap .u64 (p.2+1)/\p.2=p.2/\(0:Int)=0/\(0=0/\p.1=p.1/\p.1=p.1)/\True)/\Nw/\Nw/\Eu)/\(p.1=p.1/\ ∀q:Nat,q<p.1->[Value.int .i64 0]=[Value.int .i64 0])/\True)))
def asn(x:Zg):Prop:=
 cP (decide ((x.t:Int)>=(x.c.t:Int))) (∃y:Unit,True/\ite (0<=x.l/\x.l<258) (0:Int) (2:Int)=1/\ap3 x) (cP (decide (x.l<0)) (∃y:Unit,True/\ite (0<=x.l/\x.l<258) (0:Int) (2:Int)=2/\ap3 x) (cP (decide (x.l>=(258:Int))) (∃y:Unit,True/\ite (0<=x.l/\x.l<258) (0:Int) (2:Int)=2/\ap3 x) ((0<=(x.t:Int)/\(x.t:Int)<(x.c.t:Int))/\0+x.t<x.c.t/\I64 (x.c.o (0+x.t)+1)/\(0<=(x.t:Int)/\(x.t:Int)<(x.c.t:Int))/\0+x.t<x.c.t/\(0<=x.l/\x.l<258)/\Int.toNat x.l<258/\ ∃y:Unit,True/\ite (0<=x.l/\x.l<258) (0:Int) (2:Int)=0/\(vk x.c/\(258=258/\ ∀q:Nat,q<258->[Value.bool (Bool.or (x.c.N q) (decide (x.l=(q:Int))))]=Cs.eff (fun(k:Nat)=>[Value.bool (x.c.N k)]) [(Int.toNat x.l,[Value.bool true])] q)/\xQ x.c/\Eu)/\(x.c.t=x.c.t/\ ∀q:Nat,q<x.c.t->[Value.int .i64 (ite (q=x.t/\0<=x.l/\x.l<258) (x.c.o q+1) (x.c.o q))]=Cs.eff (fun(k:Nat)=>[Value.int .i64 (x.c.o k)]) [(0+x.t,[Value.int .i64 (x.c.o (0+x.t)+1)])] q)/\True)))
def aap(c:fD):Prop:=
 cP (decide (c.jU=0)) ((∀k:Nat,k<258->(Nat.beq (List.length [Value.bool (c.N k)]) 1&&List.all [Value.bool (c.N k)] Value.oneCell')=true)/\(∀k:Nat,k<258->(Nat.beq (List.length [Value.bool false]) 1&&List.all [Value.bool false] Value.oneCell')=true)/\0+c.t<=c.t/\ ∃y:Unit,True/\(0:Int)=0/\((c.now+1=IntKind.wrap .u64 (c.now+1)/\c.dur=c.dur/\c.now=c.now/\nD c.t/\True)/\Nw/\sF c/\(@Fn.func (57: @FuncId)= @Fn.func 57/\qo)/\True)/\(c.t=c.t/\ ∀q:Nat,q<c.t->[Value.int .i64 0]=Cs.eff (fun(p:Nat)=>cond (Nat.ble 0 p&&Nat.blt p (0+c.t)) [Value.int .i64 0] [Value.int .i64 (c.o p)]) [] q)/\True) (∃y:Unit,True/\(0:Int)=7/\((c.now+1=c.now/\c.dur=c.dur/\c.now=c.jU/\nD c.t/\True)/\(258=258/\ ∀q:Nat,q<258->[Value.bool false]=[Value.bool (c.N q)])/\(258=258/\ ∀q:Nat,q<258->[Value.bool (c.N q)]=[Value.bool (c.L q)])/\False/\True)/\(c.t=c.t/\ ∀q:Nat,q<c.t->[Value.int .i64 0]=[Value.int .i64 (c.o q)])/\True)
theorem ahi(c:fD):aap c=wpF Tryz.prog tV tt (fun _ _ _ _=>[]) 200 5 23 (Io.args c) (hO Io.k (Io.os c)) (fun v h'=>fA Io.k c v h' Io.outs):=by kernel_rfl
def aaq(x:rU):Prop:=
 cP (BEq.beq x.c.jU (0:Int)) ((∃y:Nat,adQ y x.c/\((1:Int)=0/\Ar)/\(vk x.c/\sF x.c/\(258=258/\ ∀q:Nat,q<258->[Value.bool (ite (q=y) false (x.c.L q))]=[Value.bool (x.c.L q)])/\adN)/\yQ x.c/\(nD x.d.n/\x.d.st=x.d.st/\ite (y<x.d.n) (x.d.fl+1) x.d.fl=x.d.fl/\Iy x.d)/\(x.d.n*193=x.d.n*193/\ ∀q:Nat,q<x.d.n*193->Cs.eff (iL (x.d.flush y)) [] q=Cs.eff (iL x.d) [] q)/\True)\/ ∃y:Unit,Hd (∀j:Nat,j<258->x.c.L j=false)/\((2:Int)=0/\Ar)/\(vk x.c/\sF x.c/\xQ x.c/\(@Fn.func (107: @FuncId)= @Fn.func (57: @FuncId)/\qo)/\True)/\adO x) ((∃s:Nat,Hd (s<=258/\ ∀j:Nat,j<s->x.c.L j=false)/\True/\((s:Int)=0/\True)/\akU x)/\(∀s:Nat,Hd (s<=258/\ ∀j:Nat,j<s->x.c.L j=false)->cP (decide ((s:Int)<258)) ((0<=(s:Int)/\(s:Int)<258)/\s<258/\ ∃b:Bool,some (Value.bool (x.c.L s))=some (Value.bool b)/\cP b ((0<=(s:Int)/\(s:Int)<258)/\s<258/\ ∃x_1:Qu,Hd (x_1.d.ok/\x_1.k<258)/\(0=0/\(x_1.k:Int)=(s:Int)/\True)/\aao x_1.d x.d/\ ∀y:Unit,True->(∃y_1:Nat,adQ y_1 x.c/\((1:Int)=1/\(0:Int)=0/\True)/\(vk x.c/\sF x.c/\(258=258/\ ∀q:Nat,q<258->[Value.bool (ite (q=y_1) false (x.c.L q))]=Cs.eff (fun(k:Nat)=>[Value.bool (x.c.L k)]) [(s,[Value.bool false])] q)/\adN)/\yQ x.c/\(tX x.d.n x_1.d.n/\x.d.st=x_1.d.st/\ite (y_1<x.d.n) (x.d.fl+1) x.d.fl=ite (x_1.k<x_1.d.n) (x_1.d.fl+1) x_1.d.fl/\Iw x.d x_1.d)/\(x.d.n*193=x_1.d.n*193/\ ∀q:Nat,q<x.d.n*193->Cs.eff (iL (x.d.flush y_1)) [] q=Cs.eff (iL (x_1.d.flush x_1.k)) [] q)/\True)\/ ∃y_1:Unit,Hd (∀j:Nat,j<258->x.c.L j=false)/\
 ((2:Int)=1/\(0:Int)=0/\True)/\(vk x.c/\sF x.c/\(258=258/\ ∀q:Nat,q<258->[Value.bool (x.c.L q)]=Cs.eff (fun(k:Nat)=>[Value.bool (x.c.L k)]) [(s,[Value.bool false])] q)/\(@Fn.func (107: @FuncId)= @Fn.func (57: @FuncId)/\qo)/\True)/\yQ x.c/\(tX x.d.n x_1.d.n/\x.d.st=x_1.d.st/\x.d.fl=ite (x_1.k<x_1.d.n) (x_1.d.fl+1) x_1.d.fl/\x.d.fe+1=x_1.d.fe/\Ew x.d x_1.d)/\(x.d.n*193=x_1.d.n*193/\ ∀q:Nat,q<x.d.n*193->Cs.eff (iL x.d.fence) [] q=Cs.eff (iL (x_1.d.flush x_1.k)) [] q)/\True) (I64 ((s:Int)+1)/\ ∃s_1:Nat,Hd (s_1<=258/\ ∀j:Nat,j<s_1->x.c.L j=false)/\258-s_1<258-s/\((s_1:Int)=(s:Int)+1/\True)/\akU x)) (∃x_1:dS,Hd x_1.ok/\(0=0/\True)/\aao x_1 x.d/\ ∀y:Unit,True->(∃y_1:Nat,adQ y_1 x.c/\((1:Int)=2/\(0:Int)=0/\True)/\(vk x.c/\sF x.c/\(258=258/\ ∀q:Nat,q<258->[Value.bool (ite (q=y_1) false (x.c.L q))]=[Value.bool (x.c.L q)])/\(@Fn.func (57: @FuncId)= @Fn.func 107/\qo)/\True)/\yQ x.c/\(tX x.d.n x_1.n/\x.d.st=x_1.st/\ite (y_1<x.d.n) (x.d.fl+1) x.d.fl=x_1.fl/\x.d.fe=x_1.fe+1/\Ew x.d x_1)/\(x.d.n*193=x_1.n*193/\ ∀q:Nat,q<x.d.n*193->Cs.eff (iL (x.d.flush y_1)) [] q=Cs.eff (iL x_1.fence) [] q)/\True)\/ ∃y_1:Unit,Hd (∀j:Nat,j<258->x.c.L j=false)/\((2:Int)=2/\(0:Int)=0/\True)/\(vk x.c/\sF x.c/\xQ x.c/\(@Fn.func (107: @FuncId)= @Fn.func 107/\qo)/\True)/\adP x x_1))/\True)
theorem ahj(x:rU):aaq x=wpF Tryz.prog awF tt (akT x) 200 5 24 (Ip.args x) (hO Ip.k (Ip.os x)) (fun v h'=>fA Ip.k x v h' Ip.outs):=by kernel_rfl
def aar(x:rU):Prop:=
 cP (BEq.beq x.c.jU (0:Int)) (∃y:Unit,True/\((3:Int)=0/\Ar)/\(vk x.c/\sF x.c/\xQ x.c/\(@Fn.func (165: @FuncId)= @Fn.func (107: @FuncId)/\qo)/\True)/\yQ x.c/\(nD x.d.n/\x.d.st+1=x.d.st/\x.d.fl=x.d.fl/\Iy x.d)/\(x.d.n*193=x.d.n*193/\ ∀q:Nat,q<x.d.n*193->Cs.eff (iL (x.d.store 1 0 64 (jw x.c.jU))) [] q=Cs.eff (iL x.d) [] q)/\True) (∃x_1:Int,Hd (0<=x_1/\x_1<18446744073709551616)/\(x_1=x.c.jU/\True)/\True/\ ∀y:Unit,True-> ∃x_2:pW,Hd (x_2.d.ok/\x_2.k<x_2.d.n/\x_2.b.ok/\x_2.a+x_2.b.n<=64)/\(0=0/\(x_2.k:Int)=1/\(x_2.a:Int)=0/\(x_2.b.q=0/\x_2.b.n=64)/\True)/\((tX x_2.d.n x.d.n/\Ns x_2.d x.d)/\Nu x_2.d x.d/\(x_2.b.N=64/\ ∀q:Nat,q<x_2.b.N->[Value.int .u8 (x_2.b.g q)]=[Value.int .u8 (jw x_1 q)])/\True)/\ ∀y_1:Unit,True-> ∃y_2:Unit,True/\((3:Int)=3/\(0:Int)=0/\True)/\(vk x.c/\sF x.c/\xQ x.c/\(@Fn.func (165: @FuncId)= @Fn.func 165/\qo)/\True)/\yQ x.c/\(tX x.d.n x_2.d.n/\x.d.st+1=x_2.d.st+1/\Nr x.d x_2.d)/\(x.d.n*193=x_2.d.n*193/\ ∀q:Nat,q<x.d.n*193->Cs.eff (iL (x.d.store 1 0 64 (jw x.c.jU))) [] q=Cs.eff (iL (x_2.d.store x_2.k x_2.a x_2.b.n (fun(q_1:Nat)=>x_2.b.g (x_2.b.q+q_1)))) [] q)/\True)
theorem ahk(x:rU):aar x=wpF Tryz.prog awF tt (fun _ _ _ _=>[]) 200 5 24 (Iq.args x) (hO Iq.k (Iq.os x)) (fun v h'=>fA Iq.k x v h' Iq.outs):=by kernel_rfl
def aas(x:rU):Prop:=
 cP (BEq.beq x.c.jU (0:Int)) (∃y:Unit,True/\((1:Int)=0/\Ar)/\(vk x.c/\sF x.c/\xQ x.c/\(@Fn.func (212: @FuncId)= @Fn.func (165: @FuncId)/\qo)/\True)/\yQ x.c/\(nD x.d.n/\x.d.st=x.d.st/\ite (1<x.d.n) (x.d.fl+1) x.d.fl=x.d.fl/\Iy x.d)/\(x.d.n*193=x.d.n*193/\ ∀q:Nat,q<x.d.n*193->Cs.eff (iL (x.d.flush 1)) [] q=Cs.eff (iL x.d) [] q)/\True) (∃x_1:Qu,Hd (x_1.d.ok/\x_1.k<258)/\(0=0/\(x_1.k:Int)=1/\True)/\aao x_1.d x.d/\ ∀y:Unit,True-> ∃y_1:Unit,True/\((1:Int)=1/\(0:Int)=0/\True)/\(vk x.c/\sF x.c/\xQ x.c/\(@Fn.func (212: @FuncId)= @Fn.func 212/\qo)/\True)/\yQ x.c/\(tX x.d.n x_1.d.n/\x.d.st=x_1.d.st/\ite (1<x.d.n) (x.d.fl+1) x.d.fl=ite (x_1.k<x_1.d.n) (x_1.d.fl+1) x_1.d.fl/\Iw x.d x_1.d)/\(x.d.n*193=x_1.d.n*193/\ ∀q:Nat,q<x.d.n*193->Cs.eff (iL (x.d.flush 1)) [] q=Cs.eff (iL (x_1.d.flush x_1.k)) [] q)/\True)
theorem ahl(x:rU):aas x=wpF Tryz.prog awF tt (fun _ _ _ _=>[]) 200 5 24 (Ir.args x) (hO Ir.k (Ir.os x)) (fun v h'=>fA Ir.k x v h' Ir.outs):=by kernel_rfl
def aat(x:rU):Prop:=
 cP (BEq.beq x.c.jU (0:Int)) (∃y:Unit,True/\((2:Int)=0/\Ar)/\((x.c.now=x.c.now/\x.c.jU=x.c.dur/\0=x.c.jU/\nD x.c.t/\True)/\sF x.c/\xQ x.c/\False/\True)/\adO x) (∃x_1:dS,Hd x_1.ok/\(0=0/\True)/\aao x_1 x.d/\ ∀y:Unit,True->True/\True/\ ∃y_1:Unit,True/\((2:Int)=2/\(0:Int)=0/\True)/\((x.c.now=x.c.now/\x.c.jU=x.c.jU/\(0:Int)=0/\nD x.c.t/\True)/\sF x.c/\xQ x.c/\Eu)/\adP x x_1)
theorem ahm(x:rU):aat x=wpF Tryz.prog awF tt (fun _ _ _ _=>[]) 200 5 24 (Iu.args x) (hO Iu.k (Iu.os x)) (fun v h'=>fA Iu.k x v h' Iu.outs):=by kernel_rfl
theorem aau(p:Nat×Int)(hp:1<=p.1/\p.1<=4/\0<=p.2/\p.2<=1152921504606846976):akV p:=by
 unfold akV
 simp only[adR,Nw,Eu]
 simp only[aY,aU,aT,ay,aH,bP,bC,aN,aJ,au,aW,aV,bQ,bF,bG,bH,bT,bf,bJ,aZ,dZ,aG,aK,ah,aj,aA,aC,aB,aF]
 refine bg (fun h=>absurd (aQ h) (by omega)) fun _=>bg (fun h=>absurd (aQ h) (by omega)) fun _=>bg (fun h=>absurd (aQ h) (by omega)) fun _=>⟨by omega,?_⟩
 unfold IntKind.wrap;simp[IntKind.bits,IntKind.signed];omega
theorem aav(x:Zg)(hx:x.c.ok/\x.t<x.c.t):asn x:=by
 obtain⟨⟨h1,h2,h3,h4,h5,h6⟩,ht⟩:=hx
 have hs:=h6 x.t
 unfold small at hs
 unfold asn
 simp only[ap3,vk,xQ,Eu,nD]
 simp only[aY,aU,aT,ay,aH,bP,bC,aN,aJ,au,aW,aV,bQ,bF,bG,bH,bT,bf,bJ,aZ,dZ,aG,aK,ah,aj,aA,aC,aB,aF]
 refine bg (fun h=>absurd (aQ h) (by omega)) fun _=>bg (fun h=> ?_) fun h=>bg (fun h2=> ?_) fun h2=> ?_
 ·have h:=aQ h
  exact⟨by rw[if_neg (by omega)],fun q hq=>by simp;intro;omega,fun q hq=>by rw[if_neg (by omega)]⟩
 ·have h:=aQ h2
  exact⟨by rw[if_neg (by omega)],fun q hq=>by simp;intro;omega,fun q hq=>by rw[if_neg (by omega)]⟩
 ·have h:=aS h
  have h2:=aS h2
  have hl:0<=x.l/\x.l<258:=by omega
  refine⟨by omega,by omega,by unfold I64;omega,by omega,by omega,hl,by omega,by rw[if_pos hl],fun q hq=> ?_,fun q hq=> ?_⟩
  ·simp only[Cs.eff,cO,dR,dQ,eX,<-Bool.decide_and]
   by_cases e:q=x.l.toNat
   ·rw[if_pos e,show decide (x.l=(q:Int))=true by simp;omega,Bool.or_true]
   ·rw[if_neg e,show decide (x.l=(q:Int))=false by simp;omega,Bool.or_false]
  ·simp only[Cs.eff,cO,dR,dQ,eX,<-Bool.decide_and]
   by_cases e:q=x.t
   ·subst e;rw[if_pos ⟨rfl,hl⟩,if_pos rfl]
   ·rw[if_neg (by omega),if_neg e]
theorem VZ(c:fD)(hx:c.ok/\c.jU=0):aap c:=by
 obtain⟨⟨h1,h2,h3,h4,h5,h6⟩,hc⟩:=hx
 unfold U64 at*
 unfold aap
 simp only[nD,Nw,sF,qo]
 simp only[aY,aU,aT,ay,aH,bP,bC,aN,aJ,au,aW,aV,bQ,bF,bG,bH,bT,bf,bJ,aZ,dZ,aG,aK,ah,aj,aA,aC,aB,aF]
 refine bg (fun h=>⟨by omega,?_,fun q hq=>by rw[bW.2 hq];rfl⟩) fun h=>absurd hc (aS h)
 unfold IntKind.wrap;simp[IntKind.bits,IntKind.signed];omega
set_option maxRecDepth 8000 in
theorem V3(x:rU)(hx:x.ok):aaq x:=by
 obtain⟨hc,hd,hz,hn⟩:=hx
 unfold aaq
 simp only[adQ,Ar,vk,sF,adN,yQ,nD,Iy,xQ,qo,adO,akU,aao,tX,Iw,Ew,adP,Ns,Nu,Nr,Nv]
 simp only[aY,aU,aT,ay,aH,bP,bC,aN,aJ,au,aW,aV,bQ,bF,bG,bH,bT,bf,bJ,aZ,dZ,aG,aK,ah,aj,aA,aC,aB,aF]
 refine bg (fun h=>absurd (by simpa using h) hz) fun _=>⟨⟨0,⟨Nat.zero_le _,fun j hj=>absurd hj (Nat.not_lt_zero j)⟩,Int.natCast_zero⟩,fun s hs=>bg (fun h=> ?_) fun h=> ?_⟩
 ·have h:=aQ h
  refine⟨by omega,by omega,bg (fun hl=> ?_) fun hl=> ?_⟩
  ·refine⟨by omega,by omega,⟨x.d,s⟩,⟨hd,(show s<258 by omega)⟩,rfl,⟨⟨rfl,rfl,rfl,rfl,rfl,rfl⟩,rfl,fun _ _=>rfl⟩,.inl ⟨s,⟨by omega,hl,hs.2⟩,fun q hq=> ?_,⟨rfl,rfl,rfl,rfl,rfl,rfl⟩,rfl,fun _ _=>rfl⟩⟩
   simp only[Cs.eff,cO,dR,dQ,eX,<-Bool.decide_and]
   by_cases e:q=s
   ·rw[if_pos e,if_pos e]
   ·rw[if_neg e,if_neg e]
  ·refine⟨by unfold I64;omega,s+1,⟨by omega,fun j hj=> ?_⟩,by omega,by omega⟩
   by_cases e:j=s
   ·subst e;exact hl
   ·exact hs.2 j (by omega)
 ·have h:=aS h
  have:s=258:=by omega
  subst this
  exact⟨x.d,hd,⟨⟨rfl,rfl,rfl,rfl,rfl,rfl⟩,rfl,fun _ _=>rfl⟩,.inr ⟨hs.2,⟨rfl,rfl,rfl,rfl,rfl,rfl⟩,rfl,fun _ _=>rfl⟩⟩
theorem Au(v:Int)(k:Nat):0<=jw v k/\jw v k<256:=by
 unfold jw ag7
 split
 ·split
  ·omega
  ·exact oG _ _
 ·split
  ·exact oG _ _
  ·omega
theorem V4(x:rU)(hx:x.ok):aar x:=by
 obtain⟨hc,hd,hz,hn⟩:=hx
 have hU:=hc.2.2.2.2.1
 unfold U64 at hU
 unfold aar
 simp only[Ar,vk,sF,xQ,qo,yQ,nD,Iy,tX,Ns,Nu,Nr,Iw,Ew,Nv]
 simp only[aY,aU,aT,ay,aH,bP,bC,aN,aJ,au,aW,aV,bQ,bF,bG,bH,bT,bf,bJ,aZ,dZ,aG,aK,ah,aj,aA,aC,aB,aF]
 refine bg (fun h=>absurd (by simpa using h) hz) fun _=>⟨x.c.jU,by omega,rfl,⟨x.d,1,0,⟨jw x.c.jU,0,64,64⟩⟩,⟨hd,hn,⟨by simp,by simp,Au _⟩,by simp⟩,⟨rfl,rfl,rfl,rfl⟩,⟨⟨rfl,rfl,rfl,rfl,rfl,rfl⟩,⟨rfl,fun _ _=>rfl⟩,rfl,fun _ _=>rfl⟩,⟨rfl,rfl,rfl,rfl,rfl,rfl⟩,rfl,fun q _=> ?_⟩
 simp only[ay]
theorem V5(x:rU)(hx:x.ok):aas x:=by
 obtain⟨hc,hd,hz,hn⟩:=hx
 unfold aas
 simp only[Ar,vk,sF,xQ,qo,yQ,nD,Iy,aao,tX,Iw,Ew,Ns,Nu,Nr,Nv]
 simp only[aY,aU,aT,ay,aH,bP,bC,aN,aJ,au,aW,aV,bQ,bF,bG,bH,bT,bf,bJ,aZ,dZ,aG,aK,ah,aj,aA,aC,aB,aF]
 exact bg (fun h=>absurd (by simpa using h) hz) fun _=>⟨⟨x.d,1⟩,⟨hd,(show 1<258 by omega)⟩,rfl,⟨⟨rfl,rfl,rfl,rfl,rfl,rfl⟩,rfl,fun _ _=>rfl⟩,⟨rfl,rfl,rfl,rfl,rfl,rfl⟩,rfl,fun _ _=>rfl⟩
theorem V6(x:rU)(hx:x.ok):aat x:=by
 obtain⟨hc,hd,hz,hn⟩:=hx
 unfold aat
 simp only[Ar,nD,sF,xQ,adO,aao,Eu,adP,yQ,tX,Ew,Ns,Nu,Nr,Iw,Nv]
 simp only[aY,aU,aT,ay,aH,bP,bC,aN,aJ,au,aW,aV,bQ,bF,bG,bH,bT,bf,bJ,aZ,dZ,aG,aK,ah,aj,aA,aC,aB,aF]
 exact bg (fun h=>absurd (by simpa using h) hz) fun _=>⟨x.d,hd,⟨⟨rfl,rfl,rfl,rfl,rfl,rfl⟩,rfl,fun _ _=>rfl⟩,⟨rfl,rfl,rfl,rfl,rfl,rfl⟩,rfl,fun _ _=>rfl⟩
theorem ap4:bZ Tryz.prog 23 Io:=dV dB mixed fC (fun _ _ _ _ _=>[]) 200 5 (fun _=>rfl) (fun _=>rfl) fun x hx=>Eq.mp (ahi x) (VZ x (aY.1 hx))
theorem ap5:bZ Tryz.prog 24 Ip:=gB dB mixed Qw akT 200 5 (fun _=>rfl) (fun _=>⟨fun _=>rfl,fun _=>rfl,trivial⟩) fun x hx=>Eq.mp (ahj x) (V3 x (aY.1 hx))
theorem ap6:bZ Tryz.prog 24 Iq:=dV dB mixed Qw (fun _ _ _ _ _=>[]) 200 5 (fun _=>rfl) (fun _=>rfl) fun x hx=>Eq.mp (ahk x) (V4 x (aY.1 hx))
theorem ap7:bZ Tryz.prog 24 Ir:=dV dB mixed Qw (fun _ _ _ _ _=>[]) 200 5 (fun _=>rfl) (fun _=>rfl) fun x hx=>Eq.mp (ahl x) (V5 x (aY.1 hx))
theorem ap8:bZ Tryz.prog 24 Iu:=dV dB mixed Qw (fun _ _ _ _ _=>[]) 200 5 (fun _=>rfl) (fun _=>rfl) fun x hx=>Eq.mp (ahm x) (V6 x (aY.1 hx))
theorem lJ{x y:Prop}:cP true x y=x:=rfl
theorem jJ{x y:Prop}:cP false x y=y:=rfl
def noA{X:Type}:X->FuncId->tK:=fun _ _ _ _ _=>[]
def boo(b:Bool):AV:= .lit (.bool b)
def fO:AV:= .lit (.slice none 0 0)
def nG(X:Type)(args:X->List AV)(k:Nat)(l:X->List PO)(pre:X->Prop)(ret:X->AV)(m:Nat)(l':X->List PO):jR:=
 {X:=X,args:=args,k:=k,l:=l,pre:=pre,outs:=[{Y:=Unit,post:=fun _ _=>True,ret:=fun x _=>ret x,m:=m,l:=fun x _=>l' x}]}
def spn(c:Int):Int:=if c=0 then 1 else if c=1 then 2 else if c=2 then 4 else if c=3 then 8 else 0
def cpc(c:Int):Int:=if c=0 then 28 else if c=1 then 91 else if c=2 then 217 else if c=3 then 469 else 0
def ned(n:Int):Int:=if n<0 then-1 else if n<=28 then 0 else if n<=91 then 1 else if n<=217 then 2 else if n<=469 then 3 else-1
def Aw:Ctr:=det Int (fun c=>[i64 c]) 0 (fun _=>[]) (fun _=>True) (fun c=>i64 (spn c)) 0 (fun _=>[])
def aso:Ctr:=det Int (fun c=>[i64 c]) 0 (fun _=>[]) (fun _=>True) (fun c=>i64 (cpc c)) 0 (fun _=>[])
def aaw:Ctr:=det Int (fun c=>[i64 c]) 0 (fun _=>[]) (fun _=>True) (fun c=>i64 (ned c)) 0 (fun _=>[])
def slb(l:Int):Int:=if l<2\/258<=l then-1 else(l-2)/8
def V7:Ctr:=det Int (fun k=>[i64 k]) 0 (fun _=>[]) (fun _=>True) (fun k=>i64 (if k<0\/32<=k then-1 else 2+k*8)) 0 (fun _=>[])
def yR:Ctr:=det Int (fun k=>[i64 k]) 0 (fun _=>[]) (fun _=>True) (fun k=>i64 (slb k)) 0 (fun _=>[])
structure yS where
 k:Nat
 c:Int
def akW(x:yS)(n:Nat):Cs:= .row 1 n (fun i=>[.int .i64 (2+x.k*8+i*spn x.c)]) []
def yT:Ctr:={X:=yS,args:=fun x=>[i64 x.k,i64 x.c],k:=0,os:=fun _=>[],pre:=fun x=>Hd (x.k<32),outs:=[
 {Y:=Unit,post:=fun x _=>Hd (spn x.c=0),ret:=fun _ _=>fO,m:=0,os:=fun _ _=>[]},
 {Y:=Unit,post:=fun x _=>Hd (spn x.c≠0),ret:=fun x _=> .slW 0 0 1 (8/spn x.c).toNat,m:=1,os:=fun x _=>[.room 3 (akW x (8/spn x.c).toNat)]}]}
def adS(x:yS):FuncId->tK:=fun f=>bif Nat.beq f 73 then(fun b _ _=>bif Nat.beq b 0 then [
 {σ:=Unit,fr:=fun _=>[(21,i64 0),(7,fO)],ob:=fun _=>[],inv:=fun _=>Hd (spn x.c≠0),meas:=fun _=>9,test:=fun fr _=>(match SE.look fr 7 with| .lit _=>true|_=>false)},
 {σ:=Nat,fr:=fun i=>[(21,i64 i),(7,.slW 0 0 1 i)],ob:=fun i=>[(0,some (.room 3 (akW x i)))],inv:=fun i=>Hd (spn x.c≠0/\1<=i/\i<=(8/spn x.c).toNat),meas:=fun i=>8-i,nx:=1,test:=fun fr _=>(match SE.look fr 7 with| .lit _=>false|_=>true)}]else [])else fun _ _ _=>[]
structure akX where
 g:Nat->Int
 n:Nat
 v:Int
def akX.os(x:akX):List dw:=[.room 3 (.row 1 x.n (fun i=>[.int .i64 (x.g i)]) [])]
def atO:Ctr:={X:=akX,args:=fun x=>[.slW 0 0 1 x.n,i64 x.v],k:=1,os:=akX.os,pre:=fun x=>Hd (x.n<1000),outs:=[
 {Y:=Nat,post:=fun x i=>Hd (i<x.n/\x.g i=x.v/\ ∀j,j<i->x.g j≠x.v),ret:=fun _ i=>i64 i,m:=1,os:=fun x _=>x.os},
 {Y:=Unit,post:=fun x _=>Hd (∀j,j<x.n->x.g j≠x.v),ret:=fun _ _=>i64 (-1),m:=1,os:=fun x _=>x.os}]}
def awG(x:akX):FuncId->tK:=fun f=>bif Nat.beq f 173 then(fun b _ _=>bif Nat.beq b 0 then [
 {σ:=Nat,fr:=fun i=>[(8,i64 i)],ob:=fun _=>[],inv:=fun i=>Hd (i<=x.n/\ ∀j,j<i->x.g j≠x.v),meas:=fun i=>x.n-i}]else [])else fun _ _ _=>[]
def ap9:jY:=[(113,eG Aw)]
def tblS2:jY:=[(115,eG aso)]
def tblS3:jY:=[(113,eG Aw),(131,eG V7)]
def aax(a:akX):Prop:=(a.n=a.n/\ ∀q:Nat,q<a.n->[Value.int .i64 (a.g q)]=[Value.int .i64 (a.g q)])/\True
def atP:Prop:=Value.slice none 0 0=Value.slice none 0 0/\True
def aqa(a:Int):Prop:=(∃y_2:Unit,Hd (spn a=0)/\atP)\/ ∃y_2:Unit,Hd (spn a≠(0:Int))/\False/\False/\True
def aqb(a:Int)(b:Nat):Prop:=Hd (spn a≠(0:Int)/\1<=b/\b<=Int.toNat ((8:Int)/spn a))
def atQ(a:Int):Prop:= ∃y:Unit,True/\ite (a<0\/32<=a) (-(1:Int)) (2+a*8)=(-(1:Int))/\True
def akY(c:Int):Prop:=
 cP (decide (c<0)) (∃y:Unit,True/\spn c=0/\True) (cP (decide (c>(3:Int))) (∃y:Unit,True/\spn c=0/\True) (0<=c/\ ∃y:Unit,True/\spn c=IntKind.wrap .i64 (1* @HPow.hPow Int Nat Int (@instHPow Int Nat (@instPowNat Int @Int.instNatPow)) (2:Int) (@Min.min Nat @instMinNat (Int.toNat c) 64))/\True))
theorem akZ(c:Int):akY c=wpF Tryz.prog [] tt (noA c) 200 5 113 (Aw.args c) (hO Aw.k (Aw.os c)) (fun v h'=>fA Aw.k c v h' Aw.outs):=by kernel_rfl
def atS(c:Int):Prop:=
 ∃x:Int,True/\(x=c/\True)/\True/\ ∀y:Unit,True->cP (decide (spn x>(0:Int))) (I64 (spn x-1)/\I64 ((spn x-1)*63)/\I64 (28+(spn x-1)*63)/\ ∃y_1:Unit,True/\cpc c=28+(spn x-1)*63/\True) (∃y_1:Unit,True/\cpc c=0/\True)
theorem aqc(c:Int):atS c=wpF Tryz.prog ap9 tt (noA c) 200 5 115 (aso.args c) (hO aso.k (aso.os c)) (fun v h'=>fA aso.k c v h' aso.outs):=by kernel_rfl
def ak0(c:Int):Prop:=
 cP (decide (c<0)) (∃y:Unit,True/\ned c=(-(1:Int))/\True) (∃x:Int,True/\(x=0/\True)/\True/\ ∀y:Unit,True->cP (decide (cpc x>=c)) (∃y_1:Unit,True/\ned c=0/\True) (I64 (1:Int)/\ ∃x_1:Int,True/\(x_1=1/\True)/\True/\ ∀y_1:Unit,True->cP (decide (cpc x_1>=c)) (∃y_2:Unit,True/\ned c=1/\True) (I64 (2:Int)/\ ∃x_2:Int,True/\(x_2=2/\True)/\True/\ ∀y_2:Unit,True->cP (decide (cpc x_2>=c)) (∃y_3:Unit,True/\ned c=2/\True) (I64 (3:Int)/\ ∃x_3:Int,True/\(x_3=3/\True)/\True/\ ∀y_3:Unit,True->cP (decide (cpc x_3>=c)) (∃y_4:Unit,True/\ned c=3/\True) (I64 (4:Int)/\ ∃y_4:Unit,True/\ned c=(-(1:Int))/\True)))))
theorem ak1(c:Int):ak0 c=wpF Tryz.prog tblS2 tt (noA c) 200 5 201 (aaw.args c) (hO aaw.k (aaw.os c)) (fun v h'=>fA aaw.k c v h' aaw.outs):=by kernel_rfl
def ak2(c:Int):Prop:=
 cP (decide (c<0)) (atQ c) (cP (decide (c>=(32:Int))) (atQ c) (I64 (c*8)/\I64 (2+c*8)/\ ∃y:Unit,True/\ite (c<0\/32<=c) (-(1:Int)) (2+c*8)=2+c*8/\True))
theorem ak3(c:Int):ak2 c=wpF Tryz.prog [] tt (noA c) 200 5 131 (V7.args c) (hO V7.k (V7.os c)) (fun v h'=>fA V7.k c v h' V7.outs):=by kernel_rfl
def Qy(c:Int):Prop:=
 cP (decide (c<2)) (∃y:Unit,True/\slb c=(-(1:Int))/\True) (cP (decide (c>=(258:Int))) (∃y:Unit,True/\slb c=(-(1:Int))/\True) (I64 (c-2)/\((8:Int)=0->False)/\I64 (Int.tdiv (c-2) (8:Int))/\ ∃y:Unit,True/\slb c=Int.tdiv (c-2) (8:Int)/\True))
theorem aay(c:Int):Qy c=wpF Tryz.prog [] tt (noA c) 200 5 172 (yR.args c) (hO yR.k (yR.os c)) (fun v h'=>fA yR.k c v h' yR.outs):=by kernel_rfl
def Qz(x:yS):Prop:=
 ∃x_1:Int,True/\(x_1=x.c/\True)/\True/\ ∀y:Unit,True-> ∃x_2:Int,True/\(x_2=(x.k:Int)/\True)/\True/\ ∀y_1:Unit,True->cP (BEq.beq (spn x_1) (0:Int)) (aqa x.c) (cP (decide (ite (x_2<0\/32<=x_2) (-(1:Int)) (2+x_2*8)<0)) (aqa x.c) ((spn x_1=0->False)/\I64 (Int.tdiv (8:Int) (spn x_1))/\(∃s:Unit,Hd (spn x.c≠(0:Int))/\True/\((0:Int)=0/\atP)/\True)/\(∀s:Unit,Hd (spn x.c≠(0:Int))->cP (decide (0<Int.tdiv (8:Int) (spn x_1))) (I64 (0*spn x_1)/\I64 (ite (x_2<0\/32<=x_2) (-(1:Int)) (2+x_2*8)+0*spn x_1)/\(2*(0+1)+1000)*8<=281474976710656/\I64 (1:Int)/\ ∃s_1:Nat,aqb x.c s_1/\8-s_1<9/\((s_1:Int)=1/\(0=0/\s_1=1)/\True)/\(s_1=0+List.length [List.take 1 [Value.int .i64 (ite (x_2<0\/32<=x_2) (-(1:Int)) (2+x_2*8)+0*spn x_1)]]/\ ∀q:Nat,q<s_1->[Value.int .i64 (2+(x.k:Int)*8+(q:Int)*spn x.c)]=Cs.eff (fun(x_3:Nat)=>[]) [(0,List.take 1 [Value.int .i64 (ite (x_2<0\/32<=x_2) (-(1:Int)) (2+x_2*8)+0*spn x_1)])] q)/\True) (aqa x.c))/\(∀s:Nat,aqb x.c s->cP (decide ((s:Int)<Int.tdiv (8:Int) (spn x_1))) (I64 ((s:Int)*spn x_1)/\I64 (ite (x_2<0\/32<=x_2) (-(1:Int)) (2+x_2*8)+(s:Int)*spn x_1)/\s=s/\List.all [List.take 1 [Value.int .i64 (ite (x_2<0\/32<=x_2) (-(1:Int)) (2+x_2*8)+(s:Int)*spn x_1)]] (fun(l:List Value)=>Nat.beq (List.length l) 1&&List.all l Value.oneCell')=true/\(2*(s+1)+1000)*8<=281474976710656/\I64 ((s:Int)+1)/\ ∃s_1:Nat,aqb x.c s_1/\8-s_1<8-s/\((s_1:Int)=(s:Int)+1/\(0=0/\s_1=s+1)/\True)/\
 (s_1=s+List.length [List.take 1 [Value.int .i64 (ite (x_2<0\/32<=x_2) (-(1:Int)) (2+x_2*8)+(s:Int)*spn x_1)]]/\ ∀q:Nat,q<s_1->[Value.int .i64 (2+(x.k:Int)*8+(q:Int)*spn x.c)]=Cs.eff (fun(i:Nat)=>[Value.int .i64 (2+(x.k:Int)*8+(i:Int)*spn x.c)]) [(s,List.take 1 [Value.int .i64 (ite (x_2<0\/32<=x_2) (-(1:Int)) (2+x_2*8)+(s:Int)*spn x_1)])] q)/\True) ((∃y_2:Unit,Hd (spn x.c=0)/\False/\True)\/ ∃y_2:Unit,Hd (spn x.c≠(0:Int))/\(0=0/\Int.toNat ((8:Int)/spn x.c)=s)/\(Int.toNat ((8:Int)/spn x.c)=s/\ ∀q:Nat,q<Int.toNat ((8:Int)/spn x.c)->[Value.int .i64 (2+(x.k:Int)*8+(q:Int)*spn x.c)]=[Value.int .i64 (2+(x.k:Int)*8+(q:Int)*spn x.c)])/\True))/\True))
theorem aaz(x:yS):Qz x=wpF Tryz.prog tblS3 tt (adS x) 200 5 73 (yT.args x) (hO yT.k (yT.os x)) (fun v h'=>fA yT.k x v h' yT.outs):=by kernel_rfl
def atT(x:akX):Prop:=
 (∃s:Nat,Hd (s<=x.n/\ ∀j:Nat,j<s->x.g j≠x.v)/\True/\((s:Int)=0/\True)/\aax x)/\(∀s:Nat,Hd (s<=x.n/\ ∀j:Nat,j<s->x.g j≠x.v)->cP (decide ((s:Int)<(x.n:Int))) ((0<=(s:Int)/\(s:Int)<(x.n:Int))/\0+s<x.n/\cP (BEq.beq x.v (x.g (0+s))) ((∃y:Nat,Hd (y<x.n/\x.g y=x.v/\ ∀j:Nat,j<y->x.g j≠x.v)/\(y:Int)=(s:Int)/\aax x)\/ ∃y:Unit,Hd (∀j:Nat,j<x.n->x.g j≠x.v)/\(-(1:Int))=(s:Int)/\aax x) (I64 ((s:Int)+1)/\ ∃s_1:Nat,Hd (s_1<=x.n/\ ∀j:Nat,j<s_1->x.g j≠x.v)/\x.n-s_1<x.n-s/\((s_1:Int)=(s:Int)+1/\True)/\aax x)) ((∃y:Nat,Hd (y<x.n/\x.g y=x.v/\ ∀j:Nat,j<y->x.g j≠x.v)/\(y:Int)=(-(1:Int))/\aax x)\/ ∃y:Unit,Hd (∀j:Nat,j<x.n->x.g j≠x.v)/\(-(1:Int))=(-(1:Int))/\aax x))/\True
theorem aqd(x:akX):atT x=wpF Tryz.prog [] tt (awG x) 200 5 173 (atO.args x) (hO atO.k (atO.os x)) (fun v h'=>fA atO.k x v h' atO.outs):=by kernel_rfl
theorem dX(c:Int):(c=0/\spn c=1/\cpc c=28)\/(c=1/\spn c=2/\cpc c=91)\/(c=2/\spn c=4/\cpc c=217)\/(c=3/\spn c=8/\cpc c=469)\/((c<0\/3<c)/\spn c=0/\cpc c=0):=by
 by_cases h0:c=0
 ·subst h0;simp[spn,cpc]
 by_cases h1:c=1
 ·subst h1;simp[spn,cpc]
 by_cases h2:c=2
 ·subst h2;simp[spn,cpc]
 by_cases h3:c=3
 ·subst h3;simp[spn,cpc]
 simp[spn,cpc,h0,h1,h2,h3];omega
theorem aaA(c:Int):akY c:=by
 unfold akY
 simp only[aY,aU,aT,ay,aH,bP,bC,aN,aJ,au,aW,aV,bQ,bF,bG,bH,bT,bf,bJ,aZ,dZ,aG,aK,ah,aj,aA,aC,aB,aF,tN,decide_eq_true_eq,decide_eq_false_iff_not]
 refine⟨fun h=> ?_,fun h=>⟨fun h2=> ?_,fun h2=>⟨by omega,?_⟩⟩⟩
 ·rcases dX c with h'|h'|h'|h'|h'<;>omega
 ·rcases dX c with h'|h'|h'|h'|h'<;>omega
 ·have:c=0\/c=1\/c=2\/c=3:=by omega
  rcases this with rfl|rfl|rfl|rfl<;>decide
theorem ahn(c:Int):atS c:=by
 unfold atS
 simp only[aY,aU,aT,ay,aH,bP,bC,aN,aJ,au,aW,aV,bQ,bF,bG,bH,bT,bf,bJ,aZ,dZ,aG,aK,ah,aj,aA,aC,aB,aF,tN,decide_eq_true_eq,decide_eq_false_iff_not]
 unfold I64
 rcases dX c with h'|h'|h'|h'|h'<;>omega
theorem aaB(c:Int):ak0 c:=by
 unfold ak0
 simp only[aY,aU,aT,ay,aH,bP,bC,aN,aJ,au,aW,aV,bQ,bF,bG,bH,bT,bf,bJ,aZ,dZ,aG,aK,ah,aj,aA,aC,aB,aF,tN,decide_eq_true_eq,decide_eq_false_iff_not]
 unfold I64 ned
 have e:cpc 0=28/\cpc 1=91/\cpc 2=217/\cpc 3=469:=⟨rfl,rfl,rfl,rfl⟩
 obtain⟨e0,e1,e2,e3⟩:=e
 rw[e0,e1,e2,e3]
 grind
theorem aaC(c:Int):ak2 c:=by
 unfold ak2
 simp only[atQ]
 simp only[aY,aU,aT,ay,aH,bP,bC,aN,aJ,au,aW,aV,bQ,bF,bG,bH,bT,bf,bJ,aZ,dZ,aG,aK,ah,aj,aA,aC,aB,aF,tN,decide_eq_true_eq,decide_eq_false_iff_not]
 unfold I64
 grind
theorem QA(c:Int):Qy c:=by
 unfold Qy
 simp only[aY,aU,aT,ay,aH,bP,bC,aN,aJ,au,aW,aV,bQ,bF,bG,bH,bT,bf,bJ,aZ,dZ,aG,aK,ah,aj,aA,aC,aB,aF,tN,decide_eq_true_eq,decide_eq_false_iff_not]
 refine⟨fun h=>by unfold slb;rw[if_pos (by omega)],fun h=>⟨fun h2=>by unfold slb;rw[if_pos (by omega)],fun h2=> ?_⟩⟩
 have e:(c-2).tdiv 8=(c-2)/8:=Int.tdiv_eq_ediv_of_nonneg (by omega)
 rw[e]
 exact⟨by unfold I64;omega,by decide,by unfold I64;omega,by unfold slb;rw[if_neg (by omega)]⟩
theorem QB(x:yS)(hx:x.k<32):Qz x:=by
 unfold Qz
 simp only[aqa,atP,aqb]
 simp only[aY,aU,aT,ay,aH,bP,bC,aN,aJ,au,aW,aV,bQ,bF,bG,bH,bT,bf,bJ,aZ,dZ,aG,aK,ah,aj,aA,aC,aB,aF]
 have hf:(if (x.k:Int)<0\/32<=(x.k:Int)then(-1:Int)else 2+x.k*8)=2+x.k*8:=if_neg (by omega)
 rw[hf]
 have hs:=dX x.c
 have hdiv:spn x.c≠0->Int.tdiv 8 (spn x.c)=8/spn x.c/\1<=8/spn x.c/\8/spn x.c<=8/\0<spn x.c/\spn x.c<=8/\(8/spn x.c)*spn x.c=8:=fun h=>by
  rcases hs with h'|h'|h'|h'|h'<;>obtain⟨_,e,_⟩:=h'<;>rw[e]<;>first|decide|exact(h e).elim
 refine bg (fun h=> .inl (by simpa using h)) fun h=>bg (fun h2=>absurd (aQ h2) (by omega)) fun _=> ?_
 have hz:spn x.c≠0:=by simpa using h
 obtain⟨e1,e2,e3,e4,e5,e6⟩:=hdiv hz
 have hm: ∀s:Nat,(s:Int)<=8->(s:Int)*spn x.c<=64/\0<=(s:Int)*spn x.c:=fun s hs=>⟨by
  have:=Int.mul_le_mul hs e5 (by omega) (by omega:(0:Int)<=8);omega,Int.mul_nonneg (by omega) (by omega)⟩
 rw[e1]
 refine⟨hz,by unfold I64;omega,hz,fun _=>bg (fun _=> ?_) fun h=>absurd (aS h) (by omega),fun s hs=>bg (fun h=> ?_) fun h=> ?_⟩
 ·refine⟨by unfold I64;omega,by unfold I64;omega,by omega,by unfold I64;omega,1,⟨hz,by omega,by omega⟩,by omega,⟨rfl,rfl⟩,rfl,fun q hq=> ?_⟩
  have:q=0:=by omega
  subst this
  simp[Cs.eff]
 ·have h:=aQ h
  obtain⟨_,h1,h2⟩:=hs
  obtain⟨m1,m2⟩:=hm s (by omega)
  refine⟨by unfold I64;omega,by unfold I64;omega,rfl,by omega,by unfold I64;omega,s+1,⟨hz,by omega,by omega⟩,by omega,⟨by omega,rfl⟩,rfl,fun q hq=> ?_⟩
  simp only[Cs.eff,cO,dR,dQ,eX,<-Bool.decide_and]
  by_cases e:q=s
  ·subst e;rw[if_pos rfl];rfl
  ·rw[if_neg e]
 ·have h:=aS h
  exact .inr ⟨hz,by omega⟩
theorem aho(x:akX)(hx:x.n<1000):atT x:=by
 unfold atT
 simp only[aax]
 simp only[aY,aU,aT,ay,aH,bP,bC,aN,aJ,au,aW,aV,bQ,bF,bG,bH,bT,bf,bJ,aZ,dZ,aG,aK,ah,aj,aA,aC,aB,aF]
 refine⟨⟨0,⟨Nat.zero_le _,fun j hj=>absurd hj (Nat.not_lt_zero j)⟩,Int.natCast_zero⟩,fun s hs=>bg (fun h=> ?_) fun h=> ?_⟩
 ·have h:=aQ h
  refine⟨by omega,by omega,bg (fun e=> .inl ⟨s,⟨by omega,(beq_iff_eq.1 e).symm,hs.2⟩,rfl⟩) fun e=>⟨by unfold I64;omega,s+1,⟨by omega,fun j hj=> ?_⟩,by omega,by omega⟩⟩
  by_cases e':j=s
  ·subst e';intro h';simp[h']at e
  ·exact hs.2 j (by omega)
 ·have h:=aS h
  exact .inr fun j hj=>hs.2 j (by omega)
theorem mX:bZ Tryz.prog 113 Aw:=dV dB mixed fJ.nil noA 200 5 (fun _=>rfl) (fun _=>rfl) fun x _=>Eq.mp (akZ x) (aaA x)
theorem asq:bZ Tryz.prog 115 aso:=dV dB mixed (.cons (bU mX) .nil) noA 200 5 (fun _=>rfl) (fun _=>rfl) fun x _=>Eq.mp (aqc x) (ahn x)
theorem ak4:bZ Tryz.prog 201 aaw:=dV dB mixed (.cons (bU asq) .nil) noA 200 5 (fun _=>rfl) (fun _=>rfl) fun x _=>Eq.mp (ak1 x) (aaB x)
theorem ak5:bZ Tryz.prog 131 V7:=dV dB mixed fJ.nil noA 200 5 (fun _=>rfl) (fun _=>rfl) fun x _=>Eq.mp (ak3 x) (aaC x)
theorem ak6:bZ Tryz.prog 172 yR:=dV dB mixed fJ.nil noA 200 5 (fun _=>rfl) (fun _=>rfl) fun x _=>Eq.mp (aay x) (QA x)
theorem ak7:bZ Tryz.prog 73 yT:=gB dB mixed (.cons (bU mX) (.cons (bU ak5) .nil)) adS 200 5 (fun _=>rfl) (fun _=>⟨fun _=>rfl,fun _=>rfl,trivial⟩) fun x hx=>Eq.mp (aaz x) (QB x (aY.1 hx))
theorem awH:bZ Tryz.prog 173 atO:=gB dB mixed .nil awG 200 5 (fun _=>rfl) (fun _=>⟨fun _=>rfl,fun _=>rfl,trivial⟩) fun x hx=>Eq.mp (aqd x) (aho x (aY.1 hx))
structure dI where
 n:Nat
 cls:Nat->Int
 tk:Nat->Nat->Bool
 cnt:Nat->Int
noncomputable def iU(p:dI)(q:Nat):List Value:=hide [if q%10=0 then .int .i64 (p.cls (q/10))else if q%10=9 then .int .i64 (p.cnt (q/10))else .bool (p.tk (q/10) (q%10-1))]
theorem mJ(p:dI)(q:Nat):iU p q=[if q%10=0 then .int .i64 (p.cls (q/10))else if q%10=9 then .int .i64 (p.cnt (q/10))else .bool (p.tk (q/10) (q%10-1))]:=qI _
namespace dI
def ok(p:dI):Prop:=1<=p.n/\p.n<=32/\ ∀i,i<p.n-> -1<=p.cls i/\p.cls i<=3/\0<=p.cnt i/\p.cnt i<=8
noncomputable def aaD(p:dI):dw:= .cells 177 (.row 1 (p.n*10) (iU p) [])
noncomputable def os(p:dI):List dw:=[.cells 245 (.av [.slE 1 0 10 p.n p.n]),p.aaD]
def many(c:Int):Nat:=(8/spn c).toNat
def full(p:dI)(c:Int)(i:Nat):Prop:=p.cls i=c-> ∀k,k<many c->p.tk i k=true
def takes(p:dI)(c:Int)(i k:Nat):Prop:=i<p.n/\k<many c/\p.tk i k=(if p.cls i=c then false else p.tk i k)/\
 ((p.cls i=c/\(∀j,j<k->p.tk i j=true)/\ ∀j,j<i->p.full c j)\/(p.cls i= -1/\k=0/\(∀j,j<p.n->p.full c j)/\ ∀j,j<i->p.cls j≠ -1))
def take(p:dI)(c:Int)(i k:Nat):dI:={p with cls:=fun j=>if j=i then c else p.cls j,tk:=fun j q=>if j=i/\q=k then true else p.tk j q,cnt:=fun j=>if j=i then p.cnt j+1 else p.cnt j}
def give(p:dI)(i k:Nat):dI:={p with cls:=fun j=>if j=i/\p.cnt j=1 then-1 else p.cls j,tk:=fun j q=>if j=i/\q=k then false else p.tk j q,cnt:=fun j=>if j=i then p.cnt j-1 else p.cnt j}
end dI
def iJ(n i:Nat):dI:=⟨n,fun j=>if j<i then-1 else 0,fun _ _=>false,fun _=>0⟩
noncomputable def asr(n:Nat):FuncId->tK:=fun f=>bif Nat.beq f 82 then(fun b _ _=>bif Nat.beq b 0 then [
 {σ:=Nat,fr:=fun i=>[(22,i64 i)],ob:=fun i=>[(0,some (iJ n i).aaD)],inv:=fun i=>i<=n,meas:=fun i=>n-i}]else [])else fun _ _ _=>[]
structure Az where
 p:dI
 i:Nat
noncomputable def aaE:Ctr:={X:=Az,args:=fun x=>[.qE 0 x.i 10 0],k:=1,os:=fun x=>[x.p.aaD],pre:=fun x=>Hd (x.p.ok/\x.i<x.p.n/\0<=x.p.cls x.i),outs:=[
 {Y:=Nat,post:=fun x k=>Hd (k<dI.many (x.p.cls x.i)/\x.p.tk x.i k=false/\ ∀j,j<k->x.p.tk x.i j=true),ret:=fun _ k=>i64 k,m:=1,os:=fun x _=>[x.p.aaD]},
 {Y:=Unit,post:=fun x _=>Hd (∀k,k<dI.many (x.p.cls x.i)->x.p.tk x.i k=true),ret:=fun _ _=>i64 (-1),m:=1,os:=fun x _=>[x.p.aaD]}]}
noncomputable def asu(x:Az):FuncId->tK:=fun f=>bif Nat.beq f 276 then(fun b _ _=>bif Nat.beq b 0 then [
 {σ:=Nat,fr:=fun k=>[(10,i64 k)],ob:=fun _=>[],inv:=fun k=>Hd (k<=dI.many (x.p.cls x.i)/\ ∀j,j<k->x.p.tk x.i j=true),meas:=fun k=>8-k}]else [])else fun _ _ _=>[]
structure mO where
 p:dI
 c:Int
noncomputable def ak8:jR:={X:=mO,args:=fun x=>[.ptr 0 0,i64 x.c],k:=1,l:=fun x=>[.m x.p.os],pre:=fun x=>Hd x.p.ok,outs:=[
 {Y:=Unit,post:=fun x _=>Hd (spn x.c=0),ret:=fun _ _=> .tup [i64 0,i64 1],m:=1,l:=fun x _=>[.m x.p.os]},
 {Y:=Unit,post:=fun x _=>Hd (spn x.c≠0/\ ∀i,i<x.p.n->x.p.cls i≠ -1/\x.p.full x.c i),ret:=fun _ _=> .tup [i64 0,i64 4],m:=1,l:=fun x _=>[.m x.p.os]},
 {Y:=Nat×Nat,post:=fun x y=>Hd (spn x.c≠0/\x.p.takes x.c y.1 y.2),ret:=fun x y=> .tup [i64 (2+y.1*8+y.2*spn x.c),i64 0],m:=1,l:=fun x y=>[.m (x.p.take x.c y.1 y.2).os]}]}
noncomputable def asv(x:mO):FuncId->tK:=fun f=>bif Nat.beq f 242 then(fun b _ _=>
 bif Nat.beq b 0 then [{σ:=Nat,fr:=fun i=>[(14,i64 i)],ob:=fun _=>[],inv:=fun i=>Hd (i<=x.p.n/\ ∀j,j<i->x.p.full x.c j),meas:=fun i=>x.p.n-i}]else
 bif Nat.beq b 2 then [{σ:=Nat,fr:=fun i=>[(39,i64 i)],ob:=fun _=>[],inv:=fun i=>Hd (i<=x.p.n/\(∀j,j<x.p.n->x.p.full x.c j)/\ ∀j,j<i->x.p.cls j≠ -1),meas:=fun i=>x.p.n-i}]else [])else fun _ _ _=>[]
noncomputable def aaF:Ctr:={X:=mO,args:=fun x=>[.ptr 0 0,i64 x.c],k:=2,os:=fun x=>x.p.os,pre:=fun x=>Hd (x.p.ok/\spn x.c≠0),outs:=[
 {Y:=Unit,post:=fun x _=>Hd (∀i,i<x.p.n->x.p.cls i≠ -1/\x.p.full x.c i),ret:=fun _ _=> .tup [i64 0,i64 0,boo false],m:=2,os:=fun x _=>x.p.os},
 {Y:=Nat×Nat,post:=fun x y=>Hd (x.p.takes x.c y.1 y.2),ret:=fun _ y=> .tup [i64 y.1,i64 y.2,boo true],m:=2,os:=fun x _=>x.p.os}]}
structure Iz where
 p:dI
 c:Int
 i:Nat
 k:Nat
noncomputable def IB:Ctr:=det Iz (fun x=>[.qE 0 x.i 10 0,i64 x.c,i64 x.k]) 1 (fun x=>[x.p.aaD]) (fun x=>Hd (x.p.ok/\x.i<x.p.n/\x.k<8)) (fun _=> .tup []) 1 (fun x=>[(x.p.take x.c x.i x.k).aaD])
structure gY where
 p:dI
 i:Nat
 k:Nat
def gY.ok(x:gY):Prop:=x.p.ok/\x.i<x.p.n/\0<=x.p.cls x.i/\x.k<dI.many (x.p.cls x.i)/\x.p.tk x.i x.k=true
def gY.line(x:gY):Int:=2+x.i*8+x.k*spn (x.p.cls x.i)
noncomputable def atC:Ctr:=det gY (fun x=>[.ptr 0 0,i64 x.line]) 2 (fun x=>x.p.os) (fun x=>Hd x.ok) (fun x=> .tup [.qE 1 x.i 10 0,i64 x.k,boo true]) 2 (fun x=>x.p.os)
noncomputable def ak9:jR:=nG gY (fun x=>[.ptr 0 0,i64 x.line]) 1 (fun x=>[.m x.p.os]) (fun x=>Hd x.ok) (fun _=>i64 0) 1 (fun x=>[.m (x.p.give x.i x.k).os])
noncomputable def ofP:jR:=nG gY (fun x=>[.ptr 0 0,i64 x.line]) 1 (fun x=>[.m x.p.os]) (fun x=>Hd x.ok) (fun x=> .tup [i64 (x.p.cls x.i),boo true]) 1 (fun x=>[.m x.p.os])
noncomputable def tblP0:jY:=[(276,eG aaE)]
noncomputable def tblP1:jY:=[(113,eG Aw),(131,eG V7),(242,eG aaF),(243,eG IB)]
noncomputable def tblP2:jY:=[(113,eG Aw),(172,eG yR),(73,eG yT),(173,eG atO)]
noncomputable def awI:jY:=[(116,eG atC)]
def AA(a:Nat)(b:Nat):Prop:=(0=0/\a=b/\a=b)/\True
def aqe(a:Int)(b:gY)(c:gY)(d:Int):Prop:=cP (BEq.beq a (0:Int)) (b.i*10+0<b.p.n*10/\ ∃y_1:Unit,True/\(0:Int)=0/\AA c.p.n b.p.n/\(c.p.n*10=b.p.n*10/\ ∀q:Nat,q<c.p.n*10->Cs.eff (iU (c.p.give c.i c.k)) [] q=Cs.eff (iU b.p) [(b.i*10+0,[Value.int .i64 (-(1:Int))]),(b.i*10+9,[Value.int .i64 (d-1)]),(b.i*10+(1+b.k*1),[Value.bool false])] q)/\True) (∃y_1:Unit,True/\(0:Int)=0/\AA c.p.n b.p.n/\(c.p.n*10=b.p.n*10/\ ∀q:Nat,q<c.p.n*10->Cs.eff (iU (c.p.give c.i c.k)) [] q=Cs.eff (iU b.p) [(b.i*10+9,[Value.int .i64 (d-1)]),(b.i*10+(1+b.k*1),[Value.bool false])] q)/\True)
def atU(a:Int)(b:gY)(c:gY):Prop:=I64 (a-1)/\b.i*10+9<b.p.n*10/\b.i*10+9<b.p.n*10/\cP (Nat.beq (b.i*10+9) (b.i*10+9)) (∃z_1:Int,some (Value.int .i64 (a-1))=some (Value.int .i64 z_1)/\aqe z_1 b c a) (cP (Nat.beq (b.i*10+9) (b.i*10+(1+b.k*1))) (∃z_1:Int,some (Value.bool false)=some (Value.int .i64 z_1)/\aqe z_1 b c a) (∃z_1:Int,getElem? (iU b.p (b.i*10+9)) 0=some (Value.int .i64 z_1)/\aqe z_1 b c a))
def AB(a:dI):Prop:=a.n*10=a.n*10/\ ∀q:Nat,q<a.n*10->Cs.eff (iU a) [] q=Cs.eff (iU a) [] q
def KQ(a:dI)(b:dI):Prop:=a.n*10=b.n*10/\ ∀q:Nat,q<a.n*10->Cs.eff (iU a) [] q=Cs.eff (iU b) [] q
def adT(a:Int)(b:Iz):Prop:=I64 (a+1)/\b.i*10+9<b.p.n*10/\ ∃y:Unit,True/\True/\(b.p.n*10=b.p.n*10/\ ∀q:Nat,q<b.p.n*10->Cs.eff (iU (b.p.take b.c b.i b.k)) [] q=Cs.eff (iU b.p) [(b.i*10+9,[Value.int .i64 (a+1)]),(b.i*10+(1+b.k*1),[Value.bool true]),(b.i*10+0,[Value.int .i64 b.c])] q)/\True
def qp(a:Nat):Prop:=(0=0/\a=a/\a=a)/\True
def tY(a:dI):Prop:=qp a.n/\AB a/\True
def AL(a:dI)(b:dI):Prop:=AA a.n b.n/\KQ a b/\True
def adU(a:Nat)(b:mO):Prop:=Hd (a<=b.p.n/\(∀j:Nat,j<b.p.n->b.p.full b.c j)/\ ∀j:Nat,j<a->b.p.cls j≠(-(1:Int)))
def Ny(a:mO):Prop:=Hd (∀i:Nat,i<a.p.n->a.p.cls i≠(-(1:Int))/\a.p.full a.c i)
def V8(a:dI):Prop:=AB a/\qp a.n/\True
def adV(a:mO):Prop:=Hd (spn a.c≠(0:Int)/\ ∀i:Nat,i<a.p.n->a.p.cls i≠(-(1:Int))/\a.p.full a.c i)
def V9(a:Nat)(b:Az):Prop:=Hd (a<dI.many (b.p.cls b.i)/\b.p.tk b.i a=false/\ ∀j:Nat,j<a->b.p.tk b.i j=true)
def adW(a:Nat)(b:Az):Prop:=Hd (a<=dI.many (b.p.cls b.i)/\ ∀j:Nat,j<a->b.p.tk b.i j=true)
def Wh(a:Nat)(b:mO):Prop:=Hd (a<=b.p.n/\ ∀j:Nat,j<a->b.p.full b.c j)
def Wi(a:Az):Prop:=Hd (∀k:Nat,k<dI.many (a.p.cls a.i)->a.p.tk a.i k=true)
def ala(a:dI)(b:Nat)(c:Iz):Prop:=AA a.n b/\(a.n*10=c.p.n*10/\ ∀q:Nat,q<a.n*10->Cs.eff (iU a) [] q=Cs.eff (iU (c.p.take c.c c.i c.k)) [] q)/\True
def AO(a:Nat):Prop:=0<=(a:Int)/\(a:Int)<8
def adX:Prop:= ∃y:Unit,True/\(False/\(0:Int)=2/\True)/\False/\False/\True
def AP(a:Nat)(b:Nat):Prop:=(a:Int)=(b:Int)+1/\True
def alb(a:gY):Prop:= ∃y_1:Unit,True/\(False/\(a.k:Int)=0/\true=false/\True)/\tY a.p
def alc(n:Nat):Prop:=
 cP (decide ((n:Int)<1)) adX (I64 (256:Int)/\((8:Int)=0->False)/\I64 (32:Int)/\cP (decide ((n:Int)>(32:Int))) adX ((0<=(n:Int)/\(n:Int)<=(n:Int)/\24*(n:Int)<=281474976710656/\(n:Int)<4611686018427387904)/\(∃s:Nat,s<=n/\True/\((s:Int)=0/\True)/\qp n/\(n*10=n*10/\ ∀q:Nat,∀j:Nat,q<n->j<10-> ∃v:Value,getElem? [Value.int .i64 0,Value.bool false,Value.bool false,Value.bool false,Value.bool false,Value.bool false,Value.bool false,Value.bool false,Value.bool false,Value.int .i64 0] j=some v/\Cs.eff (iU (iJ n s)) [] (q*10+j)=[v])/\True)/\(∀s:Nat,s<=n->cP (decide ((s:Int)<(n:Int))) ((0<=(s:Int)/\(s:Int)<(n:Int))/\(0+s)*10+0<n*10/\I64 ((s:Int)+1)/\ ∃s_1:Nat,s_1<=n/\n-s_1<n-s/\AP s_1 s/\qp n/\(n*10=n*10/\ ∀q:Nat,q<n*10->Cs.eff (iU (iJ n s_1)) [] q=Cs.eff (iU (iJ n s)) [((0+s)*10+0,[Value.int .i64 (-(1:Int))])] q)/\True) (∃y:Unit,True/\(0=0/\(0:Int)=0/\True)/\qp n/\(n*10=n*10/\ ∀q:Nat,q<n*10->Cs.eff (iU (iJ n n)) [] q=Cs.eff (iU (iJ n s)) [] q)/\True))/\True))
def ald(x:Az):Prop:=
 x.i*10+0<x.p.n*10/\ ∃z:Int,getElem? (iU x.p (x.i*10+0)) 0=some (Value.int .i64 z)/\ ∃x_1:Int,True/\(x_1=z/\True)/\True/\ ∀y:Unit,True->(spn x_1=0->False)/\I64 (Int.tdiv (8:Int) (spn x_1))/\(∃s:Nat,adW s x/\True/\((s:Int)=0/\True)/\AB x.p/\True)/\(∀s:Nat,adW s x->cP (decide ((s:Int)<Int.tdiv (8:Int) (spn x_1))) (AO s/\x.i*10+(1+s*1)<x.p.n*10/\ ∃b:Bool,getElem? (iU x.p (x.i*10+(1+s*1))) 0=some (Value.bool b)/\cP (Bool.not b) ((∃y_1:Nat,V9 y_1 x/\(y_1:Int)=(s:Int)/\AB x.p/\True)\/ ∃y_1:Unit,Wi x/\(-(1:Int))=(s:Int)/\AB x.p/\True) (I64 ((s:Int)+1)/\ ∃s_1:Nat,adW s_1 x/\8-s_1<8-s/\AP s_1 s/\AB x.p/\True)) ((∃y_1:Nat,V9 y_1 x/\(y_1:Int)=(-(1:Int))/\AB x.p/\True)\/ ∃y_1:Unit,Wi x/\(-(1:Int))=(-(1:Int))/\AB x.p/\True))/\True
theorem ale(x:Az):ald x=wpF Tryz.prog ap9 tt (asu x) 200 5 276 (aaE.args x) (hO aaE.k (aaE.os x)) (fun v h'=>fA aaE.k x v h' aaE.outs):=by kernel_rfl
def alf(x:mO):Prop:=
 (∃s:Nat,Wh s x/\True/\((s:Int)=0/\True)/\V8 x.p)/\(∀s:Nat,Wh s x->cP (decide ((s:Int)<(x.p.n:Int))) ((0<=(s:Int)/\(s:Int)<(x.p.n:Int))/\(0+s)*10+0<x.p.n*10/\ ∃z:Int,getElem? (iU x.p ((0+s)*10+0)) 0=some (Value.int .i64 z)/\cP (BEq.beq z x.c) (∃x_1:Az,Hd (x_1.p.ok/\x_1.i<x_1.p.n/\0<=x_1.p.cls x_1.i)/\((x_1.i=0+s/\0=0)/\True)/\(KQ x_1.p x.p/\True)/\(∀y:Nat,V9 y x_1->(∃y_1:Unit,Ny x/\(0=(s:Int)/\0=(y:Int)/\false=true/\True)/\qp x.p.n/\KQ x.p x_1.p/\True)\/ ∃y_1:Prod Nat Nat,Hd (x.p.takes x.c y_1.1 y_1.2)/\((y_1.1:Int)=(s:Int)/\(y_1.2:Int)=(y:Int)/\true=true/\True)/\qp x.p.n/\KQ x.p x_1.p/\True)/\ ∀y:Unit,Wi x_1->I64 ((s:Int)+1)/\ ∃s_1:Nat,Wh s_1 x/\x.p.n-s_1<x.p.n-s/\AP s_1 s/\KQ x.p x_1.p/\qp x.p.n/\True) (I64 ((s:Int)+1)/\ ∃s_1:Nat,Wh s_1 x/\x.p.n-s_1<x.p.n-s/\AP s_1 s/\V8 x.p)) ((∃s_1:Nat,adU s_1 x/\True/\((s_1:Int)=0/\True)/\V8 x.p)/\(∀s_1:Nat,adU s_1 x->cP (decide ((s_1:Int)<(x.p.n:Int))) ((0<=(s_1:Int)/\(s_1:Int)<(x.p.n:Int))/\(0+s_1)*10+0<x.p.n*10/\ ∃z:Int,getElem? (iU x.p ((0+s_1)*10+0)) 0=some (Value.int .i64 z)/\cP (BEq.beq z (-(1:Int))) ((∃y:Unit,Ny x/\(0=(s_1:Int)/\(0:Int)=0/\false=true/\True)/\tY x.p)\/ ∃y:Prod Nat Nat,Hd (x.p.takes x.c y.1 y.2)/\((y.1:Int)=(s_1:Int)/\(y.2:Int)=0/\true=true/\True)/\tY x.p) (I64 ((s_1:Int)+1)/\ ∃s_2:Nat,adU s_2 x/\x.p.n-s_2<x.p.n-s_1/\AP s_2 s_1/\V8 x.p)) ((∃y:Unit,Ny x/\((0:Int)=0/\(0:Int)=0/\false=false/\True)/\
 tY x.p)\/ ∃y:Prod Nat Nat,Hd (x.p.takes x.c y.1 y.2)/\((y.1:Int)=0/\(y.2:Int)=0/\true=false/\True)/\tY x.p))/\True))/\True
theorem alg(x:mO):alf x=wpF Tryz.prog tblP0 tt (asv x) 200 5 242 (aaF.args x) (hO aaF.k (aaF.os x)) (fun v h'=>fA aaF.k x v h' aaF.outs):=by kernel_rfl
def aaG(x:Iz):Prop:=
 x.i*10+0<x.p.n*10/\AO x.k/\x.i*10+(1+x.k*1)<x.p.n*10/\x.i*10+9<x.p.n*10/\cP (Nat.beq (x.i*10+9) (x.i*10+(1+x.k*1))) (∃z:Int,some (Value.bool true)=some (Value.int .i64 z)/\adT z x) (cP (Nat.beq (x.i*10+9) (x.i*10+0)) (∃z:Int,some (Value.int .i64 x.c)=some (Value.int .i64 z)/\adT z x) (∃z:Int,getElem? (iU x.p (x.i*10+9)) 0=some (Value.int .i64 z)/\adT z x))
theorem ahp(x:Iz):aaG x=wpF Tryz.prog [] tt (noA x) 200 5 243 (IB.args x) (hO IB.k (IB.os x)) (fun v h'=>fA IB.k x v h' IB.outs):=by kernel_rfl
def alh(x:mO):Prop:=
 ∃x_1:Int,True/\(x_1=x.c/\True)/\True/\ ∀y:Unit,True->cP (BEq.beq (spn x_1) (0:Int)) ((∃y_1:Unit,Hd (spn x.c=0)/\((0:Int)=0/\(1:Int)=1/\True)/\tY x.p)\/(∃y_1:Unit,adV x/\((0:Int)=0/\(4:Int)=1/\True)/\tY x.p)\/ ∃y_1:Prod Nat Nat,Hd (spn x.c≠(0:Int)/\x.p.takes x.c y_1.1 y_1.2)/\(2+(y_1.1:Int)*8+(y_1.2:Int)*spn x.c=0/\(0:Int)=1/\True)/\qp x.p.n/\(x.p.n*10=x.p.n*10/\ ∀q:Nat,q<x.p.n*10->Cs.eff (iU (x.p.take x.c y_1.1 y_1.2)) [] q=Cs.eff (iU x.p) [] q)/\True) (∃x_2:mO,Hd (x_2.p.ok/\spn x_2.c≠(0:Int))/\(0=0/\x_2.c=x.c/\True)/\AL x_2.p x.p/\(∀y_1:Unit,Ny x_2->(∃y_2:Unit,Hd (spn x.c=0)/\((0:Int)=0/\(1:Int)=4/\True)/\AL x.p x_2.p)\/(∃y_2:Unit,adV x/\((0:Int)=0/\(4:Int)=4/\True)/\AL x.p x_2.p)\/ ∃y_2:Prod Nat Nat,Hd (spn x.c≠(0:Int)/\x.p.takes x.c y_2.1 y_2.2)/\(2+(y_2.1:Int)*8+(y_2.2:Int)*spn x.c=0/\(0:Int)=4/\True)/\AA x.p.n x_2.p.n/\(x.p.n*10=x_2.p.n*10/\ ∀q:Nat,q<x.p.n*10->Cs.eff (iU (x.p.take x.c y_2.1 y_2.2)) [] q=Cs.eff (iU x_2.p) [] q)/\True)/\ ∀y_1:Prod Nat Nat,Hd (x_2.p.takes x_2.c y_1.1 y_1.2)->(0<=(y_1.1:Int)/\(y_1.1:Int)<(x_2.p.n:Int))/\ ∃x_3:Iz,Hd (x_3.p.ok/\x_3.i<x_3.p.n/\x_3.k<8)/\((x_3.i=0+y_1.1/\0=0)/\x_3.c=x.c/\(x_3.k:Int)=(y_1.2:Int)/\True)/\(KQ x_3.p x_2.p/\True)/\ ∀y_2:Unit,True-> ∃x_4:Int,True/\(x_4=(y_1.1:Int)/\True)/\True/\ ∀y_3:Unit,True-> ∃x_5:Int,True/\(x_5=x.c/\True)/\True/\ ∀y_4:Unit,True->I64 ((y_1.2:Int)*spn x_5)/\I64 (ite (x_4<0\/32<=x_4) (-(1:Int)) (2+x_4*8)+(y_1.2:Int)*spn x_5)/\
 ((∃y_5:Unit,Hd (spn x.c=0)/\(0=ite (x_4<0\/32<=x_4) (-(1:Int)) (2+x_4*8)+(y_1.2:Int)*spn x_5/\(1:Int)=0/\True)/\ala x.p x_2.p.n x_3)\/(∃y_5:Unit,adV x/\(0=ite (x_4<0\/32<=x_4) (-(1:Int)) (2+x_4*8)+(y_1.2:Int)*spn x_5/\(4:Int)=0/\True)/\ala x.p x_2.p.n x_3)\/ ∃y_5:Prod Nat Nat,Hd (spn x.c≠(0:Int)/\x.p.takes x.c y_5.1 y_5.2)/\(2+(y_5.1:Int)*8+(y_5.2:Int)*spn x.c=ite (x_4<0\/32<=x_4) (-(1:Int)) (2+x_4*8)+(y_1.2:Int)*spn x_5/\(0:Int)=0/\True)/\AA x.p.n x_2.p.n/\(x.p.n*10=x_3.p.n*10/\ ∀q:Nat,q<x.p.n*10->Cs.eff (iU (x.p.take x.c y_5.1 y_5.2)) [] q=Cs.eff (iU (x_3.p.take x_3.c x_3.i x_3.k)) [] q)/\True))
theorem ali(x:mO):alh x=wpF Tryz.prog tblP1 tt (noA x) 200 5 202 (ak8.args x) (hO 2 (dO 1 (ak8.l x))) (fun v h'=>dA 1 x v h' ak8.outs):=by kernel_rfl
def atVC(x:gY):Prop:=
 ∃x_1:Int,True/\(x_1=x.line/\True)/\True/\ ∀y:Unit,True->cP (decide (slb x_1<0)) (alb x) (cP (decide (slb x_1>=(x.p.n:Int))) (alb x) ((0<=slb x_1/\slb x_1<(x.p.n:Int))/\(0+Int.toNat (slb x_1))*10+0<x.p.n*10/\ ∃z:Int,getElem? (iU x.p ((0+Int.toNat (slb x_1))*10+0)) 0=some (Value.int .i64 z)/\ ∃x_2:yS,Hd (x_2.k<32)/\((x_2.k:Int)=slb x_1/\x_2.c=z/\True)/\True/\(∀y_1:Unit,Hd (spn x_2.c=0)-> ∃x_3:akX,Hd (x_3.n<1000)/\(False/\x_3.v=x.line/\True)/\(False/\True)/\(∀y_2:Nat,Hd (y_2<x_3.n/\x_3.g y_2=x_3.v/\ ∀j:Nat,j<y_2->x_3.g j≠x_3.v)->AO y_2/\(0+Int.toNat (slb x_1))*10+(1+y_2*1)<x.p.n*10/\ ∃b:Bool,getElem? (iU x.p ((0+Int.toNat (slb x_1))*10+(1+y_2*1))) 0=some (Value.bool b)/\ ∃y_3:Unit,True/\((x.i=0+Int.toNat (slb x_1)/\0=0)/\(x.k:Int)=(y_2:Int)/\true=b/\True)/\False/\AB x.p/\True)/\ ∀y_2:Unit,Hd (∀j:Nat,j<x_3.n->x_3.g j≠x_3.v)-> ∃y_3:Unit,True/\((x.i=0+Int.toNat (slb x_1)/\0=0)/\(x.k:Int)=(-(1:Int))/\true=false/\True)/\False/\AB x.p/\True)/\ ∀y_1:Unit,Hd (spn x_2.c≠(0:Int))-> ∃x_3:akX,Hd (x_3.n<1000)/\((0=0/\x_3.n=Int.toNat ((8:Int)/spn x_2.c))/\x_3.v=x.line/\True)/\((x_3.n=Int.toNat ((8:Int)/spn x_2.c)/\ ∀q:Nat,q<x_3.n->[Value.int .i64 (x_3.g q)]=[Value.int .i64 (2+(x_2.k:Int)*8+(q:Int)*spn x_2.c)])/\True)/\(∀y_2:Nat,Hd (y_2<x_3.n/\x_3.g y_2=x_3.v/\ ∀j:Nat,j<y_2->x_3.g j≠x_3.v)->AO y_2/\(0+Int.toNat (slb x_1))*10+(1+y_2*1)<x.p.n*10/\ ∃b:Bool,getElem? (iU x.p ((0+Int.toNat (slb x_1))*10+(1+y_2*1))) 0=some (Value.bool b)/\
 ∃y_3:Unit,True/\((x.i=0+Int.toNat (slb x_1)/\0=0)/\(x.k:Int)=(y_2:Int)/\true=b/\True)/\tY x.p)/\ ∀y_2:Unit,Hd (∀j:Nat,j<x_3.n->x_3.g j≠x_3.v)-> ∃y_3:Unit,True/\((x.i=0+Int.toNat (slb x_1)/\0=0)/\(x.k:Int)=(-(1:Int))/\true=false/\True)/\tY x.p))
theorem atV(x:gY):atVC x=wpF Tryz.prog tblP2 tt (noA x) 200 5 116 (atC.args x) (hO atC.k (atC.os x)) (fun v h'=>fA atC.k x v h' atC.outs):=by kernel_rfl
def alj(x:gY):Prop:=
 ∃x_1:gY,Hd x_1.ok/\(0=0/\x_1.line=x.line/\True)/\AL x_1.p x.p/\ ∀y:Unit,True->AO x_1.k/\x_1.i*10+(1+x_1.k*1)<x_1.p.n*10/\x_1.i*10+9<x_1.p.n*10/\cP (Nat.beq (x_1.i*10+9) (x_1.i*10+(1+x_1.k*1))) (∃z:Int,some (Value.bool false)=some (Value.int .i64 z)/\atU z x_1 x) (∃z:Int,getElem? (iU x_1.p (x_1.i*10+9)) 0=some (Value.int .i64 z)/\atU z x_1 x)
theorem alk(x:gY):alj x=wpF Tryz.prog awI tt (noA x) 200 5 65 (ak9.args x) (hO 2 (dO 1 (ak9.l x))) (fun v h'=>dA 1 x v h' ak9.outs):=by kernel_rfl
def ofVC(x:gY):Prop:=
 ∃x_1:gY,Hd x_1.ok/\(0=0/\x_1.line=x.line/\True)/\AL x_1.p x.p/\ ∀y:Unit,True->x_1.i*10+0<x_1.p.n*10/\ ∃z:Int,getElem? (iU x_1.p (x_1.i*10+0)) 0=some (Value.int .i64 z)/\ ∃y_1:Unit,True/\(x.p.cls x.i=z/\true=true/\True)/\AL x.p x_1.p
theorem atW(x:gY):ofVC x=wpF Tryz.prog awI tt (noA x) 200 5 246 (ofP.args x) (hO 2 (dO 1 (ofP.l x))) (fun v h'=>dA 1 x v h' ofP.outs):=by kernel_rfl
theorem iy(c:Int):(c=0/\spn c=1/\dI.many c=8)\/(c=1/\spn c=2/\dI.many c=4)\/(c=2/\spn c=4/\dI.many c=2)\/(c=3/\spn c=8/\dI.many c=1)\/((c<0\/3<c)/\spn c=0/\dI.many c=0):=by
 have:=dX c
 unfold dI.many
 rcases this with h|h|h|h|h<;>obtain⟨h1,h2,_⟩:=h<;>rw[h2]<;>simp[h1]
theorem AQ{c:Int}(h:0<=c/\c<=3):Int.tdiv 8 (spn c)=dI.many c/\spn c≠0/\1<=dI.many c/\dI.many c<=8:=by
 rcases iy c with h'|h'|h'|h'|h'<;>obtain⟨h1,h2,h3⟩:=h'<;>first|(rw[h2,h3];decide)|omega
theorem aaH(n:Nat)(hn:1<=n/\n<=32):alc n:=by
 unfold alc
 simp only[adX,qp,AP]
 simp only[aY,aU,aT,ay,aH,bP,bC,aN,aJ,au,aW,aV,bQ,bF,bG,bH,bT,bf,bJ,aZ,dZ,aG,aK,ah,aj,aA,aC,aB,aF]
 refine bg (fun h=>absurd (aQ h) (by omega)) fun _=>⟨by unfold I64;omega,by decide,by unfold I64;omega,bg (fun h=>absurd (aQ h) (by omega)) fun _=>⟨by omega,⟨0,by omega,rfl,fun q j hq hj=> ?_⟩,fun s hs=>bg (fun h=> ?_) fun h=> ?_⟩⟩
 ·rw[mJ,show(q*10+j)%10=j by omega]
  simp only[iJ,Nat.not_lt_zero,if_false]
  match j,hj with
  |0,_|1,_|2,_|3,_|4,_|5,_|6,_|7,_|8,_|9,_=>exact⟨_,rfl,rfl⟩
 ·have h:=aQ h
  refine⟨by omega,by omega,by unfold I64;omega,s+1,by omega,by omega,by omega,fun q hq=> ?_⟩
  simp only[Cs.eff,cO,dR,dQ,eX,<-Bool.decide_and,mJ,iJ];grind
 ·have:s=n:=by have:=aS h;omega
  subst this
  exact fun q _=>rfl
theorem aaI(x:Az)(hx:x.p.ok/\x.i<x.p.n/\0<=x.p.cls x.i):ald x:=by
 obtain⟨⟨h1,h2,h3⟩,hi,hc⟩:=hx
 obtain⟨m1,m2,m3,m4⟩:=AQ ⟨hc,(h3 _ hi).2.1⟩
 unfold ald
 simp only[adW,AB,AO,V9,Wi,AP]
 simp only[aY,aU,aT,ay,aH,bP,bC,aN,aJ,au,aW,aV,bQ,bF,bG,bH,bT,bf,bJ,aZ,dZ,aG,aK,ah,aj,aA,aC,aB,aF]
 refine⟨by omega,x.p.cls x.i,?_,m2,by rw[m1];unfold I64;omega,⟨0,⟨Nat.zero_le _,fun j hj=>absurd hj (Nat.not_lt_zero j)⟩,Int.natCast_zero⟩,fun s hs=> ?_⟩
 ·rw[mJ,show x.i*10%10=0 by omega,show x.i*10/10=x.i by omega];rfl
 rw[m1]
 refine bg (fun h=> ?_) fun h=> ?_
 ·have h:=aQ h
  refine⟨by omega,by omega,x.p.tk x.i s,?_,bg (fun hb=> .inl ⟨s,⟨by omega,by simpa using hb,hs.2⟩,rfl⟩) fun hb=>⟨by unfold I64;omega,s+1,⟨by omega,fun j hj=> ?_⟩,by omega,by omega⟩⟩
  ·rw[mJ]
   simp only[show(x.i*10+(1+s*1))%10=1+s by omega,show(x.i*10+(1+s*1))/10=x.i by omega]
   rw[if_neg (by omega),if_neg (by omega),show 1+s-1=s by omega];rfl
  ·by_cases e:j=s
   ·subst e;simpa using hb
   ·exact hs.2 j (by omega)
 ·have h:=aS h
  exact .inr fun k hk=>hs.2 k (by omega)
theorem Gt(p:dI)(i:Nat):iU p (i*10)=[.int .i64 (p.cls i)]:=by
 rw[mJ,show i*10%10=0 by omega,show i*10/10=i by omega];rfl
theorem adY(p:dI)(i:Nat):iU p (i*10+9)=[.int .i64 (p.cnt i)]:=by
 rw[mJ,show(i*10+9)%10=9 by omega,show(i*10+9)/10=i by omega];rfl
theorem atX(p:dI)(i k:Nat)(h:k<8):iU p (i*10+(1+k*1))=[.bool (p.tk i k)]:=by
 rw[mJ]
 simp only[show(i*10+(1+k*1))%10=1+k by omega,show(i*10+(1+k*1))/10=i by omega]
 rw[if_neg (by omega),if_neg (by omega),show 1+k-1=k by omega]
theorem aaJ(x:mO)(hx:x.p.ok/\spn x.c≠0):alf x:=by
 obtain⟨⟨h1,h2,h3⟩,hz⟩:=hx
 have hcc:0<=x.c/\x.c<=3:=by rcases dX x.c with h|h|h|h|h<;>omega
 obtain⟨m1,m2,m3,m4⟩:=AQ hcc
 unfold alf
 simp only[Wh,V8,KQ,V9,Ny,qp,Wi,AP,adU,tY,AB]
 simp only[aY,aU,aT,ay,aH,bP,bC,aN,aJ,au,aW,aV,bQ,bF,bG,bH,bT,bf,bJ,aZ,dZ,aG,aK,ah,aj,aA,aC,aB,aF]
 refine⟨⟨0,⟨Nat.zero_le _,fun j hj=>absurd hj (Nat.not_lt_zero j)⟩,Int.natCast_zero⟩,fun s hs=>bg (fun h=> ?_) fun h=>⟨⟨0,⟨Nat.zero_le _,fun j hj=>hs.2 j (by have:=aS h;omega),fun j hj=>absurd hj (Nat.not_lt_zero j)⟩,Int.natCast_zero⟩,fun t ht=>bg (fun h2=> ?_) fun h2=> ?_⟩⟩
 ·have h:=aQ h
  refine⟨by omega,by omega,x.p.cls s,by rw[Gt];rfl,bg (fun he=> ?_) fun he=>⟨by unfold I64;omega,s+1,⟨by omega,fun j hj=> ?_⟩,by omega,by omega⟩⟩
  ·have he:=beq_iff_eq.1 he
   refine⟨⟨x.p,s⟩,⟨⟨h1,h2,h3⟩,(show s<x.p.n by omega),(show 0<=x.p.cls s by omega)⟩,rfl,⟨rfl,fun _ _=>rfl⟩,fun y hy=> .inr ⟨(s,y),?_,⟨rfl,rfl⟩,rfl,fun _ _=>rfl⟩,fun hall=>⟨by unfold I64;omega,s+1,⟨by omega,fun j hj=> ?_⟩,by omega,by omega,rfl,fun _ _=>rfl⟩⟩
   ·obtain⟨y1,y2,y3⟩:=hy
    simp only[he]at y1
    exact⟨by show s<x.p.n;omega,y1,by show x.p.tk s y=_;rw[if_pos he];exact y2,.inl ⟨he,y3,hs.2⟩⟩
   ·by_cases e:j=s
    ·subst e;intro _ k hk;exact hall k (by simp only[he];exact hk)
    ·exact hs.2 j (by omega)
  ·by_cases e:j=s
   ·subst e;intro h';simp[h']at he
   ·exact hs.2 j (by omega)
 ·have h2:=aQ h2
  refine⟨by omega,by omega,x.p.cls t,by rw[Gt];rfl,bg (fun he=> ?_) fun he=>⟨by unfold I64;omega,t+1,⟨by omega,ht.2.1,fun j hj=> ?_⟩,by omega,by omega⟩⟩
  ·have he:=beq_iff_eq.1 he
   exact .inr ⟨(t,0),⟨by show t<x.p.n;omega,m3,by show x.p.tk t 0=_;rw[if_neg (by show¬x.p.cls t=x.c;omega)],.inr ⟨he,rfl,ht.2.1,ht.2.2⟩⟩,rfl,rfl⟩
  ·by_cases e:j=t
   ·subst e;intro h';simp[h']at he
   ·exact ht.2.2 j (by omega)
 ·have h2:=aS h2
  exact .inl fun i hi=>⟨ht.2.2 i (by omega),ht.2.1 i hi⟩
theorem Wj(x:Iz)(hx:x.p.ok/\x.i<x.p.n/\x.k<8):aaG x:=by
 obtain⟨⟨h1,h2,h3⟩,hi,hk⟩:=hx
 have:=h3 _ hi
 unfold aaG
 simp only[AO,adT]
 simp only[aY,aU,aT,ay,aH,bP,bC,aN,aJ,au,aW,aV,bQ,bF,bG,bH,bT,bf,bJ,aZ,dZ,aG,aK,ah,aj,aA,aC,aB,aF]
 refine⟨by omega,by omega,by omega,by omega,bg (fun h=> ?_) fun _=>bg (fun h=> ?_) fun _=>⟨x.p.cnt x.i,by rw[adY];rfl,by unfold I64;omega,by omega,fun q hq=> ?_⟩⟩
 ·have:=ak h;omega
 ·have:=ak h;omega
 ·simp only[Cs.eff,cO,dR,dQ,eX,<-Bool.decide_and,mJ,dI.take];grind (splits:=30)
theorem aaK(x:mO)(hx:x.p.ok):alh x:=by
 unfold alh
 simp only[tY,adV,qp,AL,Ny,AA,KQ,ala,AB]
 simp only[aY,aU,aT,ay,aH,bP,bC,aN,aJ,au,aW,aV,bQ,bF,bG,bH,bT,bf,bJ,aZ,dZ,aG,aK,ah,aj,aA,aC,aB,aF]
 refine bg (fun h=> .inl (by simpa using h)) fun h=> ?_
 have hz:spn x.c≠0:=by simpa using h
 have hcc:0<=x.c/\x.c<=3:=by rcases dX x.c with h|h|h|h|h<;>omega
 obtain⟨m1,m2,m3,m4⟩:=AQ hcc
 obtain⟨h1,h2,h3⟩:=id hx
 refine⟨x,⟨hx,hz⟩,rfl,⟨rfl,rfl,fun _ _=>rfl⟩,fun hf=> .inr (.inl ⟨⟨hz,hf⟩,rfl,rfl,fun _ _=>rfl⟩),fun y hy=> ?_⟩
 obtain⟨i,k⟩:=y
 obtain⟨t1,t2,t3⟩:=id hy
 simp only at t1 t2 ⊢
 have hsl:(if (i:Int)<0\/32<=(i:Int)then(-1:Int)else 2+i*8)=2+i*8:=if_neg (by omega)
 have hks:0<=(k:Int)*spn x.c/\(k:Int)*spn x.c<=64:=by
  have hs:0<=spn x.c/\spn x.c<=8:=by rcases dX x.c with h|h|h|h|h<;>omega
  exact⟨Int.mul_nonneg (by omega) hs.1,by have:=Int.mul_le_mul (show(k:Int)<=8 by omega) hs.2 hs.1 (by omega:(0:Int)<=8);omega⟩
 rw[hsl]
 refine⟨by omega,⟨x.p,x.c,i,k⟩,⟨hx,t1,(show k<8 by omega)⟩,⟨rfl,rfl,rfl⟩,⟨rfl,fun _ _=>rfl⟩,by unfold I64;omega,by unfold I64;omega,.inr (.inr ⟨(i,k),⟨hz,hy⟩,?_⟩)⟩
 simp
theorem aqf{x:gY}(hx:x.ok):slb x.line=x.i/\2<=x.line/\x.line<258:=by
 obtain⟨⟨h1,h2,h3⟩,hi,hc,hk,ht⟩:=hx
 unfold slb gY.line
 rcases iy (x.p.cls x.i)with h|h|h|h|h<;>obtain⟨e1,e2,e3⟩:=h<;>rw[e2]<;>rw[e3]at hk<;>first|omega|(rw[if_neg (by omega)];omega)
theorem alm(x:gY)(hx:x.ok):atVC x:=by
 obtain⟨l1,l2,l3⟩:=aqf hx
 obtain⟨⟨h1,h2,h3⟩,hi,hc,hk,ht⟩:=id hx
 obtain⟨m1,m2,m3,m4⟩:=AQ ⟨hc,(h3 _ hi).2.1⟩
 have h8:(8/spn (x.p.cls x.i)).toNat=dI.many (x.p.cls x.i):=rfl
 have hs:0<spn (x.p.cls x.i):=by rcases iy (x.p.cls x.i)with h|h|h|h|h<;>omega
 have hl:x.line=2+x.i*8+x.k*spn (x.p.cls x.i):=rfl
 have inj: ∀j:Nat,2+(x.i:Int)*8+(j:Int)*spn (x.p.cls x.i)=x.line->j=x.k:=fun j hj=>by
  have:(j:Int)*spn (x.p.cls x.i)=(x.k:Int)*spn (x.p.cls x.i):=by omega
  have:=Int.eq_of_mul_eq_mul_right (by omega) this
  omega
 unfold atVC
 simp only[alb,AO,AB,tY,qp]
 simp only[aY,aU,aT,ay,aH,bP,bC,aN,aJ,au,aW,aV,bQ,bF,bG,bH,bT,bf,bJ,aZ,dZ,aG,aK,ah,aj,aA,aC,aB,aF,l1]
 refine bg (fun h=>absurd (aQ h) (by omega)) fun _=>bg (fun h=>absurd (aQ h) (by omega)) fun _=>⟨by omega,by omega,x.p.cls x.i,by rw[Gt];rfl,⟨x.i,x.p.cls x.i⟩,(show x.i<32 by omega),⟨rfl,rfl⟩,fun h=>absurd h m2,fun _=>⟨⟨fun q=>2+(x.i:Int)*8+q*spn (x.p.cls x.i),dI.many (x.p.cls x.i),x.line⟩,(show dI.many (x.p.cls x.i)<1000 by omega),⟨rfl,rfl⟩,⟨rfl,fun _ _=>rfl⟩,fun y hy=> ?_,fun hno=>absurd hl.symm (hno x.k hk)⟩⟩
 obtain⟨y1,y2,_⟩:=hy
 have:=inj y y2
 subst this
 exact⟨by omega,by omega,true,by rw[atX _ _ _ (by omega),ht];rfl,rfl,rfl⟩
theorem aaL(x:gY)(hx:x.ok):alj x:=by
 obtain⟨⟨h1,h2,h3⟩,hi,hc,hk,ht⟩:=id hx
 obtain⟨m1,m2,m3,m4⟩:=AQ ⟨hc,(h3 _ hi).2.1⟩
 have:=h3 _ hi
 have n1:(x.i*10+9).beq (x.i*10+(1+x.k*1))=false:=jm (by omega)
 unfold alj
 simp only[AL,AO,atU,aqe,AA,KQ]
 simp only[aY,aU,aT,ay,aH,bP,bC,aN,aJ,au,aW,aV,bQ,bF,bG,bH,bT,bf,bJ,aZ,dZ,aG,aK,ah,aj,aA,aC,aB,aF]
 refine⟨x,hx,rfl,⟨rfl,rfl,fun _ _=>rfl⟩,?_⟩
 simp only[n1,Nat.beq_refl,lJ,jJ,aT]
 refine⟨by omega,by omega,by omega,x.p.cnt x.i,by rw[adY];rfl,by unfold I64;omega,by omega,by omega,bg (fun hb=>⟨by omega,fun q hq=> ?_⟩) fun hb q hq=> ?_⟩
 ·have hb:=beq_iff_eq.1 hb
  simp only[Cs.eff,cO,dR,dQ,eX,<-Bool.decide_and,mJ,dI.give];grind (splits:=30)
 ·have hb:x.p.cnt x.i-1≠0:=fun h=>by simp[h]at hb
  simp only[Cs.eff,cO,dR,dQ,eX,<-Bool.decide_and,mJ,dI.give];grind (splits:=30)
theorem aln(x:gY)(hx:x.ok):ofVC x:=by
 obtain⟨⟨h1,h2,h3⟩,hi,hc,hk,ht⟩:=id hx
 unfold ofVC
 simp only[AL,AA,KQ]
 simp only[aY,aU,aT,ay,aH,bP,bC,aN,aJ,au,aW,aV,bQ,bF,bG,bH,bT,bf,bJ,aZ,dZ,aG,aK,ah,aj,aA,aC,aB,aF]
 exact⟨x,hx,rfl,⟨rfl,rfl,fun _ _=>rfl⟩,by omega,x.p.cls x.i,by rw[Gt];rfl,rfl,rfl,rfl,fun _ _=>rfl⟩
theorem atY:bZ Tryz.prog 276 aaE:=gB dB mixed (.cons (bU mX) .nil) asu 200 5 (fun _=>rfl) (fun _=>⟨fun _=>rfl,fun _=>rfl,trivial⟩) fun x hx=>Eq.mp (ale x) (aaI x (aY.1 hx))
theorem find_ok:bZ Tryz.prog 242 aaF:=gB dB mixed (.cons (bU atY) .nil) asv 200 5 (fun _=>rfl) (fun _=>⟨fun _=>rfl,fun _=>rfl,trivial⟩) fun x hx=>Eq.mp (alg x) (aaJ x (aY.1 hx))
theorem aqg:bZ Tryz.prog 243 IB:=dV dB mixed .nil noA 200 5 (fun _=>rfl) (fun _=>rfl) fun x hx=>Eq.mp (ahp x) (Wj x (aY.1 hx))
theorem awJ:bZ Tryz.prog 116 atC:=dV dB mixed (.cons (bU mX) (.cons (bU ak6) (.cons (bU ak7) (.cons (bU awH) .nil)))) noA 200 5 (fun _=>rfl) (fun _=>rfl) fun x hx=>Eq.mp (atV x) (alm x (aY.1 hx))
theorem atZ:bZ Tryz.prog 202 ak8.ctr:=dK dB mixed (.cons (bU mX) (.cons (bU ak5) (.cons (bU find_ok) (.cons (bU aqg) .nil)))) 2 noA 200 5 (fun _=>⟨rfl,rfl,rfl,rfl⟩) fun x hx=>Eq.mp (ali x) (aaK x (aY.1 hx))
theorem at1:bZ Tryz.prog 65 ak9.ctr:=dK dB mixed (.cons (bU awJ) .nil) 2 noA 200 5 (fun _=>⟨rfl,rfl,rfl,rfl⟩) fun x hx=>Eq.mp (alk x) (aaL x (aY.1 hx))
theorem of_ok:bZ Tryz.prog 246 ofP.ctr:=dK dB mixed (.cons (bU awJ) .nil) 2 noA 200 5 (fun _=>⟨rfl,rfl,rfl,rfl⟩) fun x hx=>Eq.mp (atW x) (aln x (aY.1 hx))
structure ZRd where
 t:Nat
 now:Int
 has:Nat->Int
namespace ZRd
def ok(r:ZRd):Prop:=1<=r.t/\r.t<=4/\1<=r.now/\r.now<4611686018427387904
def os(r:ZRd):List dw:=[.cells 149 (.av [u64 r.now,.slE 1 0 1 r.t r.t]),.cells 111 (.row 1 r.t (fun k=>[.int .u64 (r.has k)]) [])]
def put(r:ZRd)(k:Nat)(v:Int):ZRd:={r with has:=fun j=>if j=k then v else r.has j}
end ZRd
def aqh(t:Nat):ZRd:=⟨t,1,fun _=>0⟩
structure Zh where
 r:ZRd
 k:Nat
def Wn:jR:={X:=Zh,args:=fun x=>[.ptr 0 0,i64 x.k],k:=1,l:=fun x=>[.m x.r.os],pre:=fun x=>Hd (x.r.ok/\x.k<x.r.t),outs:=[
 {Y:=Unit,post:=fun x _=>Hd (x.r.has x.k=0),ret:=fun x _=> .tup [u64 x.r.now,i64 0],m:=1,l:=fun x _=>[.m (x.r.put x.k x.r.now).os]},
 {Y:=Unit,post:=fun x _=>Hd (x.r.has x.k≠0),ret:=fun _ _=> .tup [u64 0,i64 7],m:=1,l:=fun x _=>[.m x.r.os]}]}
def Wp:jR:=nG Zh (fun x=>[.ptr 0 0,i64 x.k]) 1 (fun x=>[.m x.r.os]) (fun x=>Hd (x.r.ok/\x.k<x.r.t)) (fun x=>i64 (if x.r.has x.k=0 then 12 else 0)) 1 (fun x=>[.m (x.r.put x.k 0).os])
def awK:jR:=nG ZRd (fun _=>[.ptr 0 0]) 1 (fun r=>[.m r.os]) (fun r=>Hd r.ok) (fun r=>u64 r.now) 1 (fun r=>[.m r.os])
def ahq(ph:Nat):jR:=nG Zg (fun x=>[.ptr 0 0,i64 x.t,i64 x.l]) 1 (fun x=>[.m (x.c.os ph)]) (fun x=>Hd (x.c.ok/\x.t<x.c.t)) (fun x=>i64 (if 0<=x.l/\x.l<258 then 0 else 2)) 1 (fun x=>[.m ((x.c.note x.t x.l).os ph)])
def QC(ph:Nat):jR:=nG fD (fun _=>[.ptr 0 0]) 1 (fun c=>[.m (c.os ph)]) (fun c=>Hd c.ok) (fun c=>u64 c.now) 1 (fun c=>[.m (c.os ph)])
def Wq(ph:Nat):jR:=nG fD (fun _=>[.ptr 0 0]) 1 (fun c=>[.m (c.os ph)]) (fun c=>Hd c.ok) (fun c=> .slW 1 0 1 c.t) 2 (fun c=>[.m (c.os ph),.o (.room 3 (.row 1 c.t (fun k=>[.int .i64 (c.o k)]) []))])
noncomputable def IC:jR:=nG pW (fun x=>[.ptr 0 0,i64 x.k,i64 x.a,x.b.av 1]) 2 (fun x=>[.m x.d.os,.o x.b.ro]) (fun x=>Hd (x.d.ok/\x.k<x.d.n/\x.b.ok/\x.a+x.b.n<=64)) (fun _=>i64 0) 2 (fun x=>[.m (x.d.store x.k x.a x.b.n (fun q=>x.b.g (x.b.q+q))).os,.o x.b.ro])
noncomputable def ahr:jR:=nG Qu (fun x=>[.ptr 0 0,i64 x.k]) 1 (fun x=>[.m x.d.os]) (fun x=>Hd (x.d.ok/\x.k<x.d.n)) (fun _=> .tup [.slW 1 0 1 64,i64 0]) 2 (fun x=>[.m x.d.os,.o (.room 5 (rowB (fun q=>x.d.b (x.k*193+q)) 64))])
def nH(a:Nat):Prop:=a=a/\a=a
def alo(a:fD):Prop:=a.now=a.now/\a.dur=a.dur/\a.jU=a.jU/\(0=0/\nH a.t)/\True
def alp(a:fD):Prop:=(258=258/\ ∀q:Nat,q<258->[Value.bool (a.L q)]=[Value.bool (a.L q)])/\Value.nilFunc=Value.nilFunc/\True
def awL(a:Zg):Prop:=(alo a.c/\(258=258/\ ∀q:Nat,q<258->[Value.bool (Bool.or (a.c.N q) (decide (a.l=(q:Int))))]=[Value.bool (a.c.N q)])/\alp a.c)/\(a.c.t=a.c.t/\ ∀q:Nat,q<a.c.t->[Value.int .i64 (ite (q=a.t/\0<=a.l/\a.l<258) (a.c.o q+1) (a.c.o q))]=[Value.int .i64 (a.c.o q)])/\True
def QD(a:ZRd):Prop:=a.now=a.now/\(0=0/\nH a.t)/\True
def alq(a:ZRd):Prop:=QD a/\(a.t=a.t/\ ∀q:Nat,q<a.t->[Value.int .u64 (a.has q)]=[Value.int .u64 (a.has q)])/\True
def awM(a:Zg):Prop:= ∃y:Unit,True/\ite (0<=a.l/\a.l<258) (0:Int) (2:Int)=2/\awL a
def Nz(a:dS):Prop:=a.fl=a.fl/\a.fe=a.fe/\a.ba=a.ba/\a.cu=a.cu/\True
def adZ(a:Bys):Prop:=rowB a.g a.N=rowB a.g a.N/\true=true
def alr(a:pW):Prop:= ∃y:Unit,True/\(0:Int)=2/\((0=0/\nH a.d.n)/\a.d.st+1=a.d.st/\Nz a.d)/\adZ a.b/\(a.d.n*193=a.d.n*193/\ ∀q:Nat,q<a.d.n*193->Cs.eff (iL (a.d.store a.k a.a a.b.n (fun(q_1:Nat)=>a.b.g (a.b.q+q_1)))) [] q=Cs.eff (iL a.d) [] q)/\True
def als(a:Zh):Prop:=QD a.r/\(a.r.t=a.r.t/\ ∀q:Nat,q<a.r.t->[Value.int .u64 (ite (q=a.k) (0:Int) (a.r.has q))]=Cs.eff (fun(k:Nat)=>[Value.int .u64 (a.r.has k)]) [(0+a.k,[Value.int .u64 0])] q)/\True
def Ws(a:fD):Prop:=alo a/\(258=258/\ ∀q:Nat,q<258->[Value.bool (a.N q)]=[Value.bool (a.N q)])/\alp a
def Wu(a:fD):Prop:=(a.t=a.t/\ ∀q:Nat,q<a.t->[Value.int .i64 (a.o q)]=[Value.int .i64 (a.o q)])/\True
def alu(a:Zh):Prop:=QD a.r/\(a.r.t=a.r.t/\ ∀q:Nat,q<a.r.t->[Value.int .u64 (ite (q=a.k) a.r.now (a.r.has q))]=[Value.int .u64 (a.r.has q)])/\True
def alv(a:Bys)(b:Nat):Prop:=(Nat.beq (List.length [Value.int .u8 (a.g (a.q+b))]) 1&&List.all [Value.int .u8 (a.g (a.q+b))] Value.oneCell')=true
def ad1:Prop:= ∃y:Unit,True/\(False/\(0:Int)=2/\True)/\False/\False/\True
def ad2(a:Zh):Prop:=0<=(a.k:Int)/\(a.k:Int)<(a.r.t:Int)
def alx(t:Nat):Prop:=
 cP (decide ((t:Int)<1)) ad1 (cP (decide ((t:Int)>(4:Int))) ad1 ((0<=(t:Int)/\(t:Int)<=(t:Int)/\8*(t:Int)<=281474976710656/\(t:Int)<4611686018427387904)/\ ∃y:Unit,True/\(0=0/\(0:Int)=0/\True)/\((1:Int)=1/\(0=0/\nH t)/\True)/\(t=t/\ ∀q:Nat,q<t->[Value.int .u64 0]=[Value.int .u64 0])/\True))
def aaM(x:Zh):Prop:=
 cP (decide ((x.k:Int)>=(x.r.t:Int))) ((∃y:Unit,Hd (x.r.has x.k=0)/\(x.r.now=0/\(0:Int)=1/\True)/\alu x)\/ ∃y:Unit,Hd (x.r.has x.k≠(0:Int))/\((0:Int)=0/\(7:Int)=1/\True)/\alq x.r) (ad2 x/\0+x.k<x.r.t/\cP (decide (x.r.has (0+x.k)=0)) (0+x.k<x.r.t/\((∃y:Unit,Hd (x.r.has x.k=0)/\(x.r.now=x.r.now/\(0:Int)=0/\True)/\QD x.r/\(x.r.t=x.r.t/\ ∀q:Nat,q<x.r.t->[Value.int .u64 (ite (q=x.k) x.r.now (x.r.has q))]=Cs.eff (fun(k:Nat)=>[Value.int .u64 (x.r.has k)]) [(0+x.k,[Value.int .u64 x.r.now])] q)/\True)\/ ∃y:Unit,Hd (x.r.has x.k≠(0:Int))/\(0=x.r.now/\(7:Int)=0/\True)/\QD x.r/\(x.r.t=x.r.t/\ ∀q:Nat,q<x.r.t->[Value.int .u64 (x.r.has q)]=Cs.eff (fun(k:Nat)=>[Value.int .u64 (x.r.has k)]) [(0+x.k,[Value.int .u64 x.r.now])] q)/\True)) (0+x.k<x.r.t/\((∃y:Unit,Hd (x.r.has x.k=0)/\(x.r.now=0/\(0:Int)=7/\True)/\alu x)\/ ∃y:Unit,Hd (x.r.has x.k≠(0:Int))/\((0:Int)=0/\(7:Int)=7/\True)/\alq x.r)))
theorem ahs(x:Zh):aaM x=wpF Tryz.prog tV tt (noA x) 200 5 199 (Wn.args x) (hO 2 (dO 1 (Wn.l x))) (fun v h'=>dA 1 x v h' Wn.outs):=by kernel_rfl
def aaN(x:Zh):Prop:=
 cP (decide ((x.k:Int)>=(x.r.t:Int))) (∃y:Unit,True/\ite (x.r.has x.k=0) (12:Int) (0:Int)=1/\QD x.r/\(x.r.t=x.r.t/\ ∀q:Nat,q<x.r.t->[Value.int .u64 (ite (q=x.k) (0:Int) (x.r.has q))]=[Value.int .u64 (x.r.has q)])/\True) (ad2 x/\0+x.k<x.r.t/\0+x.k<x.r.t/\cP (BEq.beq (x.r.has (0+x.k)) (0:Int)) (∃y:Unit,True/\ite (x.r.has x.k=0) (12:Int) (0:Int)=12/\als x) (∃y:Unit,True/\ite (x.r.has x.k=0) (12:Int) (0:Int)=0/\als x))
theorem aht(x:Zh):aaN x=wpF Tryz.prog tV tt (noA x) 200 5 211 (Wp.args x) (hO 2 (dO 1 (Wp.l x))) (fun v h'=>dA 1 x v h' Wp.outs):=by kernel_rfl
def at6(x:ZRd):Prop:=
 ∃y:Unit,True/\x.now=x.now/\alq x
theorem aqi(x:ZRd):at6 x=wpF Tryz.prog tV tt (noA x) 200 5 67 (awK.args x) (hO 2 (dO 1 (awK.l x))) (fun v h'=>dA 1 x v h' awK.outs):=by kernel_rfl
def aly(x:Zg):Prop:=
 cP (decide ((x.t:Int)>=(x.c.t:Int))) (∃y:Unit,True/\ite (0<=x.l/\x.l<258) (0:Int) (2:Int)=1/\awL x) (cP (decide (x.l<0)) (awM x) (cP (decide (x.l>=(258:Int))) (awM x) ((0<=(x.t:Int)/\(x.t:Int)<(x.c.t:Int))/\0+x.t<x.c.t/\I64 (x.c.o (0+x.t)+1)/\(0<=(x.t:Int)/\(x.t:Int)<(x.c.t:Int))/\0+x.t<x.c.t/\(0<=x.l/\x.l<258)/\Int.toNat x.l<258/\ ∃y:Unit,True/\ite (0<=x.l/\x.l<258) (0:Int) (2:Int)=0/\(alo x.c/\(258=258/\ ∀q:Nat,q<258->[Value.bool (Bool.or (x.c.N q) (decide (x.l=(q:Int))))]=Cs.eff (fun(k:Nat)=>[Value.bool (x.c.N k)]) [(Int.toNat x.l,[Value.bool true])] q)/\alp x.c)/\(x.c.t=x.c.t/\ ∀q:Nat,q<x.c.t->[Value.int .i64 (ite (q=x.t/\0<=x.l/\x.l<258) (x.c.o q+1) (x.c.o q))]=Cs.eff (fun(k:Nat)=>[Value.int .i64 (x.c.o k)]) [(0+x.t,[Value.int .i64 (x.c.o (0+x.t)+1)])] q)/\True)))
theorem ahu(x:Zg):aly x=wpF Tryz.prog tV tt (noA x) 200 5 64 ((ahq 0).args x) (hO 2 (dO 1 ((ahq 0).l x))) (fun v h'=>dA 1 x v h' (ahq 0).outs):=by kernel_rfl
def aaO(x:fD):Prop:=
 ∃y:Unit,True/\x.now=x.now/\Ws x/\Wu x
theorem ahv(x:fD):aaO x=wpF Tryz.prog tV tt (noA x) 200 5 45 ((QC 0).args x) (hO 2 (dO 1 ((QC 0).l x))) (fun v h'=>dA 1 x v h' (QC 0).outs):=by kernel_rfl
def aaP(x:fD):Prop:=
 0+x.t<=x.t/\cP (Nat.beq x.t 0) (∃y:Unit,True/\(x.t=0/\0=0/\0=0)/\Ws x/\(0=x.t*1/\ ∀q:Nat,q<x.t->[Value.int .i64 (x.o q)]=List.take 1 (List.drop (q*1) (@List.nil Value)))/\Wu x) ((2*(0+x.t)+1000)*8<=281474976710656/\ ∃y:Unit,True/\(0=0/\x.t=0+x.t)/\Ws x/\(x.t=0+x.t/\ ∀q:Nat,q<x.t->[Value.int .i64 (x.o q)]=[Value.int .i64 (x.o (0+(q-0)))])/\Wu x)
theorem ahw(x:fD):aaP x=wpF Tryz.prog tV tt (noA x) 200 5 204 ((Wq 0).args x) (hO 2 (dO 1 ((Wq 0).l x))) (fun v h'=>dA 1 x v h' (Wq 0).outs):=by kernel_rfl
def QE(x:pW):Prop:=
 cP (decide ((x.k:Int)>=(x.d.n:Int))) (alr x) (I64 (64-(x.b.n:Int))/\cP (decide ((x.a:Int)>64-(x.b.n:Int))) (alr x) ((0<=(x.k:Int)/\(x.k:Int)<(x.d.n:Int))/\0<=(x.a:Int)/\(x.a<=64/\64<=64/\64<=64)/\(0+x.k)*193+0+x.a+(64-x.a)<=x.d.n*193/\cP (Nat.ble x.b.n (64-x.a)) (x.b.q+x.b.n<=x.b.N/\(∀k:Nat,k<x.b.n->alv x.b k)/\I64 (x.d.st+1)/\ ∃y:Unit,True/\(0:Int)=0/\((0=0/\nH x.d.n)/\x.d.st+1=x.d.st+1/\Nz x.d)/\adZ x.b/\(x.d.n*193=x.d.n*193/\ ∀q:Nat,q<x.d.n*193->Cs.eff (iL (x.d.store x.k x.a x.b.n (fun(q_1:Nat)=>x.b.g (x.b.q+q_1)))) [] q=Cs.eff (fun(p:Nat)=>cond (Nat.ble ((0+x.k)*193+0+x.a) p&&Nat.blt p ((0+x.k)*193+0+x.a+x.b.n)) [Value.int .u8 (x.b.g (x.b.q+(p-((0+x.k)*193+0+x.a))))] (Cs.eff (iL x.d) [] p)) [] q)/\True) (x.b.q+(64-x.a)<=x.b.N/\(∀k:Nat,k<64-x.a->alv x.b k)/\I64 (x.d.st+1)/\ ∃y:Unit,True/\(0:Int)=0/\((0=0/\nH x.d.n)/\x.d.st+1=x.d.st+1/\Nz x.d)/\adZ x.b/\(x.d.n*193=x.d.n*193/\ ∀q:Nat,q<x.d.n*193->Cs.eff (iL (x.d.store x.k x.a x.b.n (fun(q_1:Nat)=>x.b.g (x.b.q+q_1)))) [] q=Cs.eff (fun(p:Nat)=>cond (Nat.ble ((0+x.k)*193+0+x.a) p&&Nat.blt p ((0+x.k)*193+0+x.a+(64-x.a))) [Value.int .u8 (x.b.g (x.b.q+(p-((0+x.k)*193+0+x.a))))] (Cs.eff (iL x.d) [] p)) [] q)/\True)))
theorem aaQ(x:pW):QE x=wpF Tryz.prog tV tt (noA x) 200 5 62 (IC.args x) (hO 3 (dO 2 (IC.l x))) (fun v h'=>dA 2 x v h' IC.outs):=by kernel_rfl
def alz(x:Qu):Prop:=
 cP (decide ((x.k:Int)>=(x.d.n:Int))) (∃y:Unit,True/\False) (I64 (64:Int)/\(0<=(x.k:Int)/\(x.k:Int)<(x.d.n:Int))/\(0<=64/\64<=64/\64<=64)/\(0+x.k)*193+0+0+64<=x.d.n*193/\(2*(0+64)+1000)*1<=281474976710656/\ ∃y:Unit,True/\((0=0/\64=0+64)/\(0:Int)=0/\True)/\((0=0/\nH x.d.n)/\x.d.st=x.d.st/\Nz x.d)/\(64=64/\ ∀q:Nat,q<64->[Value.int .u8 (x.d.b (x.k*193+q))]=Cs.eff (fun(q_1:Nat)=>cond (Nat.blt q_1 0) (@List.nil Value) (Cs.eff (iL x.d) [] ((0+x.k)*193+0+0+(q_1-0)))) [] q)/\(x.d.n*193=x.d.n*193/\ ∀q:Nat,q<x.d.n*193->Cs.eff (iL x.d) [] q=Cs.eff (iL x.d) [] q)/\True)
theorem alA(x:Qu):alz x=wpF Tryz.prog tV tt (noA x) 200 5 181 (ahr.args x) (hO 2 (dO 1 (ahr.l x))) (fun v h'=>dA 1 x v h' ahr.outs):=by kernel_rfl
theorem aaR(x:Nat)(hx:1<=x/\x<=4):alx x:=by
 unfold alx
 simp only[ad1,nH]
 simp only[aY,aU,aT,ay,aH,bP,bC,aN,aJ,au,aW,aV,bQ,bF,bG,bH,bT,bf,bJ,aZ,dZ,aG,aK,ah,aj,aA,aC,aB,aF]
 exact bg (fun h=>absurd (aQ h) (by omega)) fun _=>bg (fun h=>absurd (aQ h) (by omega)) fun _=>by omega
theorem alB(f:Nat->Int)(k:Nat)(v:Int)(q:Nat):[Value.int .u64 (if q=k then v else f q)]=Cs.eff (fun k=>[Value.int .u64 (f k)]) [(k,[Value.int .u64 v])] q:=by
 simp only[Cs.eff,cO,dR,dQ,eX,<-Bool.decide_and]
 by_cases h:q=k
 ·rw[if_pos h,if_pos h]
 ·rw[if_neg h,if_neg h]
theorem Wv(x:Zh)(hx:x.r.ok/\x.k<x.r.t):aaM x:=by
 unfold aaM
 simp only[alu,alq,ad2,QD,nH]
 simp only[aY,aU,aT,ay,aH,bP,bC,aN,aJ,au,aW,aV,bQ,bF,bG,bH,bT,bf,bJ,aZ,dZ,aG,aK,ah,aj,aA,aC,aB,aF]
 refine bg (fun h=>absurd (aQ h) (by omega)) fun _=>⟨by omega,hx.2,bg (fun h=>⟨hx.2,.inl ⟨aQ h,fun q _=>alB _ _ _ _⟩⟩) fun h=>⟨hx.2,.inr (aS h)⟩⟩
theorem Wx(x:Zh)(hx:x.r.ok/\x.k<x.r.t):aaN x:=by
 unfold aaN
 simp only[QD,ad2,als,nH]
 simp only[aY,aU,aT,ay,aH,bP,bC,aN,aJ,au,aW,aV,bQ,bF,bG,bH,bT,bf,bJ,aZ,dZ,aG,aK,ah,aj,aA,aC,aB,aF]
 refine bg (fun h=>absurd (aQ h) (by omega)) fun _=>⟨by omega,hx.2,hx.2,bg (fun h=>⟨if_pos (beq_iff_eq.1 h),fun q _=>alB _ _ _ _⟩) fun h=>⟨if_neg (fun e=>by simp[e]at h),fun q _=>alB _ _ _ _⟩⟩
theorem ahx(x:ZRd)(hx:x.ok):at6 x:=by
 unfold at6
 simp only[alq,QD,nH]
 simp only[aY,aU,aT,ay,aH,bP,bC,aN,aJ,au,aW,aV,bQ,bF,bG,bH,bT,bf,bJ,aZ,dZ,aG,aK,ah,aj,aA,aC,aB,aF]
theorem Wy(x:Zg)(hx:x.c.ok/\x.t<x.c.t):aly x:=aav x hx
theorem WA(x:fD)(hx:x.ok):aaO x:=by
 unfold aaO
 simp only[Ws,Wu,alo,alp,nH]
 simp only[aY,aU,aT,ay,aH,bP,bC,aN,aJ,au,aW,aV,bQ,bF,bG,bH,bT,bf,bJ,aZ,dZ,aG,aK,ah,aj,aA,aC,aB,aF]
theorem WB(x:fD)(hx:x.ok):aaP x:=by
 have:=hx.1;have:=hx.2.1
 unfold aaP
 simp only[Ws,Wu,alo,alp,nH]
 simp only[aY,aU,aT,ay,aH,bP,bC,aN,aJ,au,aW,aV,bQ,bF,bG,bH,bT,bf,bJ,aZ,dZ,aG,aK,ah,aj,aA,aC,aB,aF]
 exact⟨by omega,bg (fun h=>absurd (ak h) (by omega)) fun _=>by omega⟩
theorem QF(x:pW)(hx:x.d.ok/\x.k<x.d.n/\x.b.ok/\x.a+x.b.n<=64):QE x:=by
 have h:=Et x hx
 unfold Qv at h
 simp only[ap1,adG,qm,aak,nC,VW,aaj,ahe]at h
 unfold QE
 simp only[alr,alv,nH,Nz,adZ]
 simp only[aY,aU,aT,ay,aH,bP,bC,aN,aJ,au,aW,aV,bQ,bF,bG,bH,bT,bf,bJ,aZ,dZ,aG,aK,ah,aj,aA,aC,aB,aF]at h ⊢
 exact h
theorem aaS(x:Qu)(hx:x.d.ok/\x.k<x.d.n):alz x:=by
 have:=hx.1.1
 unfold alz
 simp only[nH,Nz]
 simp only[aY,aU,aT,ay,aH,bP,bC,aN,aJ,au,aW,aV,bQ,bF,bG,bH,bT,bf,bJ,aZ,dZ,aG,aK,ah,aj,aA,aC,aB,aF]
 refine bg (fun h=>absurd (aQ h) (by omega)) fun _=>⟨by unfold I64;omega,by omega,by omega,by omega,by omega,fun q hq=> ?_⟩
 rw[qK,show Nat.blt q 0=false by simp[cO],aP,show(x.k*193+q)%193=q by omega,if_neg (by omega)]
theorem aqj:bZ Tryz.prog 199 Wn.ctr:=dK dB mixed fC 2 noA 200 5 (fun _=>⟨rfl,rfl,rfl,rfl⟩) fun x hx=>Eq.mp (ahs x) (Wv x (aY.1 hx))
theorem aqk:bZ Tryz.prog 211 Wp.ctr:=dK dB mixed fC 2 noA 200 5 (fun _=>⟨rfl,rfl,rfl,rfl⟩) fun x hx=>Eq.mp (aht x) (Wx x (aY.1 hx))
theorem awN:bZ Tryz.prog 67 awK.ctr:=dK dB mixed fC 2 noA 200 5 (fun _=>⟨rfl,rfl,rfl,rfl⟩) fun x hx=>Eq.mp (aqi x) (ahx x (aY.1 hx))
theorem ad3:bZ Tryz.prog 64 (ahq 0).ctr:=dK dB mixed fC 2 noA 200 5 (fun _=>⟨rfl,rfl,rfl,rfl⟩) fun x hx=>Eq.mp (ahu x) (Wy x (aY.1 hx))
theorem AU:bZ Tryz.prog 45 (QC 0).ctr:=dK dB mixed fC 2 noA 200 5 (fun _=>⟨rfl,rfl,rfl,rfl⟩) fun x hx=>Eq.mp (ahv x) (WA x (aY.1 hx))
theorem Gu:bZ Tryz.prog 204 (Wq 0).ctr:=dK dB mixed fC 2 noA 200 5 (fun _=>⟨rfl,rfl,rfl,rfl⟩) fun x hx=>Eq.mp (ahw x) (WB x (aY.1 hx))
theorem IE:bZ Tryz.prog 62 IC.ctr:=dK dB mixed fC 3 noA 200 5 (fun _=>⟨rfl,rfl,rfl,rfl⟩) fun x hx=>Eq.mp (aaQ x) (QF x (aY.1 hx))
theorem alC:bZ Tryz.prog 181 ahr.ctr:=dK dB mixed fC 2 noA 200 5 (fun _=>⟨rfl,rfl,rfl,rfl⟩) fun x hx=>Eq.mp (alA x) (aaS x (aY.1 hx))
theorem qw{P:Program}{f:FuncId}{C:Ctr}(h: ∀x,C.pre x-> ∃D:Ctr,bZ P f D/\D.k=C.k/\ ∃y:D.X,D.pre y/\D.args y=C.args x/\D.os y=C.os x/\ ∀v h',pU y v h' D.outs->pU x v h' C.outs):bZ P f C:=fun x hx=>by
 obtain⟨D,hD,hk,y,hp,ha,ho,hq⟩:=h x hx
 obtain⟨h1,h2⟩:=hD y hp
 rw[ho,hk]at h1
 rw[ha,hk,ho]at h2
 exact⟨h1,h2.mono hq⟩
structure iF where
 line:Int
 cls:Int
 r:Int
 d:Int
 anti:Int
namespace iF
def cs(e:iF):List Value:=[.int .i64 e.line,.int .i64 e.cls,.int .u64 e.r,.int .u64 e.d,.int .i64 e.anti]
def av(e:iF):AV:= .agg [i64 e.line,i64 e.cls,u64 e.r,u64 e.d,i64 e.anti]
def may(e:iF):Prop:=2<=e.line/\e.line<258/\0<=e.cls/\e.cls<=3/\ -1<=e.anti/\e.anti<258
end iF
structure iV where
 z:Bool
 n:Nat
 e:Nat->iF
namespace iV
def ok(b:iV):Prop:=b.n<=258/\(b.z=true->b.n=0)
def row(b:iV):Cs:= .row 5 b.n (fun i=>(b.e i).cs) []
def osP(b:iV):List dw:=[.cells 183 (.av [.slW 1 0 5 b.n]),.room 70 b.row]
def osN:List dw:=[.cells 183 (.av [fO])]
def os(b:iV):List dw:=bif b.z then osN else b.osP
def put(b:iV)(x:iF):iV:=if b.n<258 then⟨false,b.n+1,fun i=>if i=b.n then x else b.e i⟩else b
end iV
structure Fz where
 b:iV
 x:iF
def vw(z:Bool):jR:=nG Fz (fun x=>[.ptr 0 0,x.x.av]) 1 (fun x=>[.m (bif z then iV.osN else x.b.osP)]) (fun x=>Hd (x.b.ok/\x.x.may/\x.b.z=z)) (fun x=>i64 (if x.b.n<258 then 0 else 11)) 1 (fun x=>[.m (x.b.put x.x).osP])
def QG:jR:=nG Unit (fun _=>[.ptr 0 0]) 1 (fun _=>[.m iV.osN]) (fun _=>Hd True) (fun _=>fO) 1 (fun _=>[.m iV.osN])
def QH:jR:=nG iV (fun _=>[.ptr 0 0]) 1 (fun b=>[.m b.osP]) (fun b=>Hd (b.ok/\b.z=false)) (fun b=> .slW 1 0 5 b.n) 2 (fun b=>[.m b.osP,.o (.room 70 b.row)])
structure dM where
 key:ByteArray
 id:Int
 ver:Int
 line:Int
 cls:Int
namespace dM
def cs(e:dM):List Value:=[.string e.key,.int .u64 e.id,.int .u64 e.ver,.int .i64 e.line,.int .i64 e.cls]
def av(e:dM):AV:= .agg [.lit (.string e.key),u64 e.id,u64 e.ver,i64 e.line,i64 e.cls]
end dM
def qO:dM:=⟨⟨#[]⟩,0,0,0,0⟩
structure ZLn where
 len:Nat
 cap:Nat
 at_:Nat
 n:Nat
 e:Nat->dM
namespace ZLn
def ok(l:ZLn):Prop:=l.cap<1099511627776/\l.len<=l.cap/\l.n<=l.len/\(l.len=0->l.at_=0)/\(l.len≠0->l.at_<l.len)
def row(l:ZLn):Cs:= .row 5 l.cap (fun i=>(l.e i).cs) []
def osP(l:ZLn):List dw:=[.cells 127 (.av [.slE 1 0 5 l.len l.cap,i64 l.at_,i64 l.n]),.cells 41 l.row]
def osN:List dw:=[.cells 127 (.av [fO,i64 0,i64 0])]
def os(l:ZLn):List dw:=bif Nat.beq l.len 0 then osN else l.osP
def get(l:ZLn)(i:Nat):dM:=l.e ((l.at_+i)%l.len)
def push(l:ZLn)(x:dM):ZLn:=if l.n=l.len then⟨l.n+1,2*l.n+1,0,l.n+1,fun i=>if i<l.n then l.get i else if i=l.n then x else qO⟩else⟨l.len,l.cap,l.at_,l.n+1,fun i=>if i=(l.at_+l.n)%l.len then x else l.e i⟩
def pop(l:ZLn):ZLn:=if l.n=0 then l else⟨l.len,l.cap,(l.at_+1)%l.len,l.n-1,fun i=>if i=l.at_ then qO else l.e i⟩
def head(l:ZLn):dM:=if l.n=0 then qO else l.get 0
end ZLn
structure ahy where
 l:ZLn
 x:dM
def AX:jR:=nG dM (fun x=>[.ptr 0 0,x.av]) 1 (fun _=>[.m ZLn.osN]) (fun _=>Hd True) (fun _=> .tup []) 1 (fun x=>[.m (ZLn.osP ⟨1,1,0,1,fun i=>if i=0 then x else qO⟩)])
def AY:jR:=nG ahy (fun x=>[.ptr 0 0,x.x.av]) 1 (fun x=>[.m x.l.osP]) (fun x=>Hd (x.l.ok/\x.l.len≠0)) (fun _=> .tup []) 1 (fun x=>[.m (x.l.push x.x).osP])
def AZ:jR:=nG Unit (fun _=>[.ptr 0 0]) 1 (fun _=>[.m ZLn.osN]) (fun _=>Hd True) (fun _=> .tup [qO.av,boo false]) 1 (fun _=>[.m ZLn.osN])
def A8:jR:=nG ZLn (fun _=>[.ptr 0 0]) 1 (fun l=>[.m l.osP]) (fun l=>Hd (l.ok/\l.len≠0)) (fun l=> .tup [l.head.av,boo (decide (l.n≠0))]) 1 (fun l=>[.m l.osP])
def Gv:jR:=nG Unit (fun _=>[.ptr 0 0]) 1 (fun _=>[.m ZLn.osN]) (fun _=>Hd True) (fun _=> .tup [qO.av,boo false]) 1 (fun _=>[.m ZLn.osN])
def Gw:jR:=nG ZLn (fun _=>[.ptr 0 0]) 1 (fun l=>[.m l.osP]) (fun l=>Hd (l.ok/\l.len≠0)) (fun l=> .tup [l.head.av,boo (decide (l.n≠0))]) 1 (fun l=>[.m l.pop.osP])
def Gx:jR:=nG Unit (fun _=>[.ptr 0 0]) 1 (fun _=>[.m ZLn.osN]) (fun _=>Hd True) (fun _=>i64 0) 1 (fun _=>[.m ZLn.osN])
def Gy:jR:=nG ZLn (fun _=>[.ptr 0 0]) 1 (fun l=>[.m l.osP]) (fun l=>Hd (l.ok/\l.len≠0)) (fun l=>i64 l.n) 1 (fun l=>[.m l.osP])
def ZLn.all(l:ZLn)(i:Nat):Cs:= .row 5 i (fun j=>(l.get j).cs) []
def Gz:jR:=nG Unit (fun _=>[.ptr 0 0]) 1 (fun _=>[.m ZLn.osN]) (fun _=>Hd True) (fun _=>fO) 1 (fun _=>[.m ZLn.osN])
def GH:jR:={X:=ZLn,args:=fun _=>[.ptr 0 0],k:=1,l:=fun l=>[.m l.osP],pre:=fun l=>Hd (l.ok/\l.len≠0),outs:=[
 {Y:=Unit,post:=fun l _=>Hd (l.n=0),ret:=fun _ _=>fO,m:=1,l:=fun l _=>[.m l.osP]},
 {Y:=Unit,post:=fun l _=>Hd (l.n≠0),ret:=fun l _=> .slW 1 0 5 l.n,m:=2,l:=fun l _=>[.m l.osP,.o (.room 41 (l.all l.n))]}]}
def awO(l:ZLn):FuncId->tK:=fun f=>bif Nat.beq f 123 then(fun b _ _=>bif Nat.beq b 0 then [
 {σ:=Unit,fr:=fun _=>[(9,i64 0),(3,fO)],ob:=fun _=>[],inv:=fun _=>Hd True,meas:=fun _=>l.n+1,test:=fun fr _=>(match SE.look fr 3 with| .lit _=>true|_=>false)},
 {σ:=Nat,fr:=fun i=>[(9,i64 i),(3,.slW 2 0 5 i)],ob:=fun i=>[(2,some (.room 41 (l.all i)))],inv:=fun i=>Hd (1<=i/\i<=l.n),meas:=fun i=>l.n-i,nx:=1,test:=fun fr _=>(match SE.look fr 3 with| .lit _=>false|_=>true)}]else [])else fun _ _ _=>[]
def NC(a:ahy):Prop:=((ZLn.at_ (a.l.push a.x):Nat):Int)=0/\((ZLn.n (a.l.push a.x):Nat):Int)=(a.l.n:Int)+1/\True
def alD(a:ahy):Prop:=I64 ((a.l.n:Int)+1)/\True/\ ∃y:Unit,True/\True/\(False/\NC a)/\(ZLn.cap (a.l.push a.x)=a.l.cap/\ ∀q:Nat,q<ZLn.cap (a.l.push a.x)->[Value.string (dM.key (ZLn.e (a.l.push a.x) q)),Value.int .u64 (dM.id (ZLn.e (a.l.push a.x) q)),Value.int .u64 (dM.ver (ZLn.e (a.l.push a.x) q)),Value.int .i64 (dM.line (ZLn.e (a.l.push a.x) q)),Value.int .i64 (dM.cls (ZLn.e (a.l.push a.x) q))]=[Value.string (dM.key (a.l.e q)),Value.int .u64 (dM.id (a.l.e q)),Value.int .u64 (dM.ver (a.l.e q)),Value.int .i64 (dM.line (a.l.e q)),Value.int .i64 (dM.cls (a.l.e q))])/\True
def WC(a:ZLn):Prop:=a.cap=a.cap/\ ∀q:Nat,q<a.cap->[Value.string (dM.key (a.e q)),Value.int .u64 (dM.id (a.e q)),Value.int .u64 (dM.ver (a.e q)),Value.int .i64 (dM.line (a.e q)),Value.int .i64 (dM.cls (a.e q))]=[Value.string (dM.key (a.e q)),Value.int .u64 (dM.id (a.e q)),Value.int .u64 (dM.ver (a.e q)),Value.int .i64 (dM.line (a.e q)),Value.int .i64 (dM.cls (a.e q))]
def at7(a:Fz):Prop:=((0=0/\iV.n (a.b.put a.x)=a.b.n)/\True)/\(iV.n (a.b.put a.x)=a.b.n/\ ∀q:Nat,q<iV.n (a.b.put a.x)->[Value.int .i64 (iF.line (iV.e (a.b.put a.x) q)),Value.int .i64 (iF.cls (iV.e (a.b.put a.x) q)),Value.int .u64 (iF.r (iV.e (a.b.put a.x) q)),Value.int .u64 (iF.d (iV.e (a.b.put a.x) q)),Value.int .i64 (iF.anti (iV.e (a.b.put a.x) q))]=[Value.int .i64 (iF.line (a.b.e q)),Value.int .i64 (iF.cls (a.b.e q)),Value.int .u64 (iF.r (a.b.e q)),Value.int .u64 (iF.d (a.b.e q)),Value.int .i64 (iF.anti (a.b.e q))])/\True
def ND(a:Fz):Prop:=True/\ite (a.b.n<258) (0:Int) (11:Int)=1/\(False/\True)/\(List.length [Value.int .i64 a.x.line,Value.int .i64 a.x.cls,Value.int .u64 a.x.r,Value.int .u64 a.x.d,Value.int .i64 a.x.anti]=iV.n (a.b.put a.x)*5/\ ∀q:Nat,q<iV.n (a.b.put a.x)->[Value.int .i64 (iF.line (iV.e (a.b.put a.x) q)),Value.int .i64 (iF.cls (iV.e (a.b.put a.x) q)),Value.int .u64 (iF.r (iV.e (a.b.put a.x) q)),Value.int .u64 (iF.d (iV.e (a.b.put a.x) q)),Value.int .i64 (iF.anti (iV.e (a.b.put a.x) q))]=List.take 5 (List.drop (q*5) [Value.int .i64 a.x.line,Value.int .i64 a.x.cls,Value.int .u64 a.x.r,Value.int .u64 a.x.d,Value.int .i64 a.x.anti]))/\True
def NG(a:Fz):Prop:=True/\ite (a.b.n<258) (0:Int) (11:Int)=1/\at7 a
def Ba(a:dM):Prop:=List.all [List.take 5 [Value.string a.key,Value.int .u64 a.id,Value.int .u64 a.ver,Value.int .i64 a.line,Value.int .i64 a.cls]] (fun(l:List Value)=>Nat.beq (List.length l) 5&&List.all l Value.oneCell')=true
def ad4(a:ZLn):Prop:= ∀k:Nat,k<a.at_-0->(Nat.beq (List.length [Value.string (dM.key (a.e (0+k))),Value.int .u64 (dM.id (a.e (0+k))),Value.int .u64 (dM.ver (a.e (0+k))),Value.int .i64 (dM.line (a.e (0+k))),Value.int .i64 (dM.cls (a.e (0+k)))]) 5&&List.all [Value.string (dM.key (a.e (0+k))),Value.int .u64 (dM.id (a.e (0+k))),Value.int .u64 (dM.ver (a.e (0+k))),Value.int .i64 (dM.line (a.e (0+k))),Value.int .i64 (dM.cls (a.e (0+k)))] Value.oneCell')=true
def Ey(a:ZLn):Prop:=(0=0/\a.len=a.len/\a.cap=a.cap)/\(a.at_:Int)=(a.at_:Int)/\(a.n:Int)=(a.n:Int)/\True
def alE(a:ahy):Prop:=(2*(0+(a.l.len-a.l.at_)+(a.l.at_-0)+1)+1000)*48<=281474976710656/\alD a
def alF(a:ahy):Prop:=(2*(0+(a.l.len-a.l.at_)+(a.l.at_-0))+1000)*48<=281474976710656/\True/\True/\0+(a.l.len-a.l.at_)+(a.l.at_-0)=0+(a.l.len-a.l.at_)+(a.l.at_-0)/\Ba a.x/\alE a
def alG(a:iV):Prop:=(a.n=a.n/\ ∀q:Nat,q<a.n->[Value.int .i64 (iF.line (a.e q)),Value.int .i64 (iF.cls (a.e q)),Value.int .u64 (iF.r (a.e q)),Value.int .u64 (iF.d (a.e q)),Value.int .i64 (iF.anti (a.e q))]=[Value.int .i64 (iF.line (a.e q)),Value.int .i64 (iF.cls (a.e q)),Value.int .u64 (iF.r (a.e q)),Value.int .u64 (iF.d (a.e q)),Value.int .i64 (iF.anti (a.e q))])/\True
def Bc(a:ahy):Prop:=ZLn.cap (a.l.push a.x)=Int.toNat (2*(a.l.n:Int)+1)
def tZ:Prop:=Value.slice none 0 0=Value.slice none 0 0
def IG:Prop:=(tZ/\(0:Int)=0/\(0:Int)=0/\True)/\True
def ad5(a:ZLn):Prop:=(a.head.key=dM.key (a.e (0+a.at_))/\a.head.id=dM.id (a.e (0+a.at_))/\a.head.ver=dM.ver (a.e (0+a.at_))/\a.head.line=dM.line (a.e (0+a.at_))/\a.head.cls=dM.cls (a.e (0+a.at_))/\True)/\decide (a.n≠0)=true/\True
def ad6:Prop:= ∃y:Unit,True/\((ByteArray.mk #[]=ByteArray.mk #[]/\(0:Int)=0/\(0:Int)=0/\(0:Int)=0/\(0:Int)=0/\True)/\false=false/\True)/\IG
def ad7(a:ZLn):Prop:=(a.head.key=ByteArray.mk #[]/\a.head.id=0/\a.head.ver=0/\a.head.line=0/\a.head.cls=0/\True)/\decide (a.n≠0)=false/\True
def ad8(a:ZLn):Prop:=0+(0+(a.len-a.at_))<=Int.toNat (2*(a.n:Int)+1)
def ad9(a:ZLn):Prop:=0<=a.at_/\a.at_<=a.cap/\a.cap<=a.cap
def WE(a:ZLn):Prop:=0<=(a.at_:Int)/\(a.at_:Int)<(a.len:Int)
def Ez(a:ZLn):Prop:=Ey a/\WC a/\True
def II(x:Fz):Prop:=
 cP (decide (x.x.line>=(2:Int))) (cP (decide (x.x.line<258)) (∃x_1:Int,True/\(x_1=x.x.cls/\True)/\True/\ ∀y:Unit,True->cP (decide (spn x_1>(0:Int))) (cP (decide (x.x.anti>=(-(1:Int)))) (cP (Bool.not (decide (x.x.anti<258))) (∃y_1:Unit,ND x) ((AV.lit (Value.slice none 0 0)=AV.lit (Value.slice none 0 0)/\True)/\(2*(0+1)+1000)*40<=281474976710656/\True/\True/\ ∃y_1:Unit,True/\ite (x.b.n<258) (0:Int) (11:Int)=0/\((0=0/\iV.n (x.b.put x.x)=1)/\True)/\(iV.n (x.b.put x.x)=0+List.length [List.take 5 [Value.int .i64 x.x.line,Value.int .i64 x.x.cls,Value.int .u64 x.x.r,Value.int .u64 x.x.d,Value.int .i64 x.x.anti]]/\ ∀q:Nat,q<iV.n (x.b.put x.x)->[Value.int .i64 (iF.line (iV.e (x.b.put x.x) q)),Value.int .i64 (iF.cls (iV.e (x.b.put x.x) q)),Value.int .u64 (iF.r (iV.e (x.b.put x.x) q)),Value.int .u64 (iF.d (iV.e (x.b.put x.x) q)),Value.int .i64 (iF.anti (iV.e (x.b.put x.x) q))]=Cs.eff (fun(x_2:Nat)=>[]) [(0,List.take 5 [Value.int .i64 x.x.line,Value.int .i64 x.x.cls,Value.int .u64 x.x.r,Value.int .u64 x.x.d,Value.int .i64 x.x.anti])] q)/\True)) (∃y_1:Unit,ND x)) (∃y_1:Unit,ND x)) (∃y:Unit,ND x)) (∃y:Unit,ND x)
theorem WG(x:Fz):II x=wpF Tryz.prog ap9 tt (noA x) 200 5 66 ((vw true).args x) (hO 1 (dO 1 ((vw true).l x))) (fun v h'=>dA 1 x v h' (vw true).outs):=by kernel_rfl
def IJ(x:Fz):Prop:=
 cP (decide (x.x.line>=(2:Int))) (cP (decide (x.x.line<258)) (∃x_1:Int,True/\(x_1=x.x.cls/\True)/\True/\ ∀y:Unit,True->cP (decide (spn x_1>(0:Int))) (cP (decide (x.x.anti>=(-(1:Int)))) (cP (Bool.not (decide (x.x.anti<258))) (∃y_1:Unit,NG x) (cP (decide ((x.b.n:Int)>=(258:Int))) (∃y_1:Unit,True/\ite (x.b.n<258) (0:Int) (11:Int)=11/\at7 x) ((AV.slW 1 0 5 x.b.n=AV.slW 1 0 5 x.b.n/\True)/\x.b.n=x.b.n/\List.all [List.take 5 [Value.int .i64 x.x.line,Value.int .i64 x.x.cls,Value.int .u64 x.x.r,Value.int .u64 x.x.d,Value.int .i64 x.x.anti]] (fun(l:List Value)=>Nat.beq (List.length l) 5&&List.all l Value.oneCell')=true/\(2*(x.b.n+1)+1000)*40<=281474976710656/\True/\True/\ ∃y_1:Unit,True/\ite (x.b.n<258) (0:Int) (11:Int)=0/\((0=0/\iV.n (x.b.put x.x)=x.b.n+1)/\True)/\(iV.n (x.b.put x.x)=x.b.n+List.length [List.take 5 [Value.int .i64 x.x.line,Value.int .i64 x.x.cls,Value.int .u64 x.x.r,Value.int .u64 x.x.d,Value.int .i64 x.x.anti]]/\ ∀q:Nat,q<iV.n (x.b.put x.x)->[Value.int .i64 (iF.line (iV.e (x.b.put x.x) q)),Value.int .i64 (iF.cls (iV.e (x.b.put x.x) q)),Value.int .u64 (iF.r (iV.e (x.b.put x.x) q)),Value.int .u64 (iF.d (iV.e (x.b.put x.x) q)),Value.int .i64 (iF.anti (iV.e (x.b.put x.x) q))]=Cs.eff (fun(i:Nat)=>iF.cs (x.b.e i)) [(x.b.n,List.take 5 [Value.int .i64 x.x.line,Value.int .i64 x.x.cls,Value.int .u64 x.x.r,Value.int .u64 x.x.d,Value.int .i64 x.x.anti])] q)/\True))) (∃y_1:Unit,NG x)) (∃y_1:Unit,NG x)) (∃y:Unit,NG x)) (∃y:Unit,NG x)
theorem WH(x:Fz):IJ x=wpF Tryz.prog ap9 tt (noA x) 200 5 66 ((vw false).args x) (hO 2 (dO 1 ((vw false).l x))) (fun v h'=>dA 1 x v h' (vw false).outs):=by kernel_rfl
def IK(x:Unit):Prop:=
 ∃y:Unit,True/\tZ/\(tZ/\True)/\True
theorem WI(x:Unit):IK x=wpF Tryz.prog tV tt (noA x) 200 5 278 (QG.args x) (hO 1 (dO 1 (QG.l x))) (fun v h'=>dA 1 x v h' QG.outs):=by kernel_rfl
def IL(x:iV):Prop:=
 0+x.n<=x.n/\cP (Nat.beq x.n 0) (∃y:Unit,True/\(x.n=0/\0=0/\0=0)/\((0=0/\x.n=x.n)/\True)/\(0=x.n*5/\ ∀q:Nat,q<x.n->[Value.int .i64 (iF.line (x.e q)),Value.int .i64 (iF.cls (x.e q)),Value.int .u64 (iF.r (x.e q)),Value.int .u64 (iF.d (x.e q)),Value.int .i64 (iF.anti (x.e q))]=List.take 5 (List.drop (q*5) (@List.nil Value)))/\alG x) ((2*(0+x.n)+1000)*40<=281474976710656/\ ∃y:Unit,True/\(0=0/\x.n=0+x.n)/\((0=0/\x.n=x.n)/\True)/\(x.n=0+x.n/\ ∀q:Nat,q<x.n->[Value.int .i64 (iF.line (x.e q)),Value.int .i64 (iF.cls (x.e q)),Value.int .u64 (iF.r (x.e q)),Value.int .u64 (iF.d (x.e q)),Value.int .i64 (iF.anti (x.e q))]=[Value.int .i64 (iF.line (x.e (0+(q-0)))),Value.int .i64 (iF.cls (x.e (0+(q-0)))),Value.int .u64 (iF.r (x.e (0+(q-0)))),Value.int .u64 (iF.d (x.e (0+(q-0)))),Value.int .i64 (iF.anti (x.e (0+(q-0))))])/\alG x)
theorem WJ(x:iV):IL x=wpF Tryz.prog tV tt (noA x) 200 5 278 (QH.args x) (hO 2 (dO 1 (QH.l x))) (fun v h'=>dA 1 x v h' QH.outs):=by kernel_rfl
def yU(x:dM):Prop:=
 I64 (0:Int)/\I64 (1:Int)/\((0:Int)<=0/\(0:Int)<=1/\(0:Int)<=281474976710608/\(0:Int)<=4611686018427387902)/\(0:Int)<=0/\(0<=0/\0<=0/\0<=0)/\0<=1/\True/\True/\(0:Int)<=0/\(0<=0/\0<=0/\0<=0)/\0<=1/\True/\True/\0<=1/\Ba x/\0+(0+1)<=1/\I64 (1:Int)/\True/\ ∃y:Unit,True/\True/\((0=0/\1=1/\1=1)/\((0:Nat):Int)=0/\((1:Nat):Int)=1/\True)/\(1=1/\ ∀q:Nat,q<1->[Value.string (dM.key (ite (q=0) x qO)),Value.int .u64 (dM.id (ite (q=0) x qO)),Value.int .u64 (dM.ver (ite (q=0) x qO)),Value.int .i64 (dM.line (ite (q=0) x qO)),Value.int .i64 (dM.cls (ite (q=0) x qO))]=Cs.eff (fun(x_1:Nat)=>[Value.string (ByteArray.mk #[]),Value.int .u64 0,Value.int .u64 0,Value.int .i64 0,Value.int .i64 0]) [(0,List.take 5 [Value.string x.key,Value.int .u64 x.id,Value.int .u64 x.ver,Value.int .i64 x.line,Value.int .i64 x.cls])] q)/\True
theorem KR(x:dM):yU x=wpF Tryz.prog tV tt (noA x) 200 5 254 (AX.args x) (hO 1 (dO 1 (AX.l x))) (fun v h'=>dA 1 x v h' AX.outs):=by kernel_rfl
def yV(x:ahy):Prop:=
 cP (BEq.beq (x.l.n:Int) (x.l.len:Int)) (I64 (2*(x.l.n:Int))/\I64 (2*(x.l.n:Int)+1)/\((0:Int)<=0/\0<=2*(x.l.n:Int)+1/\48*(2*(x.l.n:Int)+1)<=281474976710656/\2*(x.l.n:Int)+1<4611686018427387904)/\0<=(x.l.at_:Int)/\(x.l.at_<=x.l.len/\x.l.len<=x.l.cap/\x.l.cap<=x.l.cap)/\0<=Int.toNat (2*(x.l.n:Int)+1)/\0+x.l.at_+(x.l.len-x.l.at_)<=x.l.cap/\cP (Nat.beq (x.l.len-x.l.at_) 0) (True/\True/\0<=(x.l.at_:Int)/\ad9 x.l/\0<=Int.toNat (2*(x.l.n:Int)+1)/\0+(x.l.at_-0)<=x.l.cap/\cP (Nat.beq (x.l.at_-0) 0) (True/\True/\0<=Int.toNat (2*(x.l.n:Int)+1)/\Ba x.x/\0+(0+1)<=Int.toNat (2*(x.l.n:Int)+1)/\I64 ((x.l.n:Int)+1)/\True/\ ∃y:Unit,True/\True/\((0=0/\ZLn.len (x.l.push x.x)=1/\Bc x)/\NC x)/\(Bc x/\ ∀q:Nat,q<ZLn.cap (x.l.push x.x)->[Value.string (dM.key (ZLn.e (x.l.push x.x) q)),Value.int .u64 (dM.id (ZLn.e (x.l.push x.x) q)),Value.int .u64 (dM.ver (ZLn.e (x.l.push x.x) q)),Value.int .i64 (dM.line (ZLn.e (x.l.push x.x) q)),Value.int .i64 (dM.cls (ZLn.e (x.l.push x.x) q))]=Cs.eff (fun(x_1:Nat)=>[Value.string (ByteArray.mk #[]),Value.int .u64 0,Value.int .u64 0,Value.int .i64 0,Value.int .i64 0]) [(0,List.take 5 [Value.string x.x.key,Value.int .u64 x.x.id,Value.int .u64 x.x.ver,Value.int .i64 x.x.line,Value.int .i64 x.x.cls])] q)/\True) (cP (Nat.ble (0+(x.l.at_-0)) (Int.toNat (2*(x.l.n:Int)+1))) (ad4 x.l/\0+(0+(x.l.at_-0))<=Int.toNat (2*(x.l.n:Int)+1)/\True/\True/\0+(0+(x.l.at_-0))<=Int.toNat (2*(x.l.n:Int)+1)/\cP (Nat.ble (0+(x.l.at_-0)+1) (Int.toNat (2*(x.l.n:Int)+1))) (Ba x.x/\
 0+(0+(x.l.at_-0)+1)<=Int.toNat (2*(x.l.n:Int)+1)/\I64 ((x.l.n:Int)+1)/\True/\ ∃y:Unit,True/\True/\((0=0/\ZLn.len (x.l.push x.x)=0+(x.l.at_-0)+1/\Bc x)/\NC x)/\(Bc x/\ ∀q:Nat,q<ZLn.cap (x.l.push x.x)->[Value.string (dM.key (ZLn.e (x.l.push x.x) q)),Value.int .u64 (dM.id (ZLn.e (x.l.push x.x) q)),Value.int .u64 (dM.ver (ZLn.e (x.l.push x.x) q)),Value.int .i64 (dM.line (ZLn.e (x.l.push x.x) q)),Value.int .i64 (dM.cls (ZLn.e (x.l.push x.x) q))]=Cs.eff (fun(p:Nat)=>cond (Nat.ble 0 p&&Nat.blt p (0+(x.l.at_-0))) [Value.string (dM.key (x.l.e (0+(p-0)))),Value.int .u64 (dM.id (x.l.e (0+(p-0)))),Value.int .u64 (dM.ver (x.l.e (0+(p-0)))),Value.int .i64 (dM.line (x.l.e (0+(p-0)))),Value.int .i64 (dM.cls (x.l.e (0+(p-0))))] [Value.string (ByteArray.mk #[]),Value.int .u64 0,Value.int .u64 0,Value.int .i64 0,Value.int .i64 0]) [(0+(0+(x.l.at_-0)),List.take 5 [Value.string x.x.key,Value.int .u64 x.x.id,Value.int .u64 x.x.ver,Value.int .i64 x.x.line,Value.int .i64 x.x.cls])] q)/\True) ((2*(0+(x.l.at_-0)+1)+1000)*48<=281474976710656/\alD x)) ((2*(0+(x.l.at_-0))+1000)*48<=281474976710656/\True/\True/\0+(x.l.at_-0)=0+(x.l.at_-0)/\Ba x.x/\(2*(0+(x.l.at_-0)+1)+1000)*48<=281474976710656/\
 alD x))) (cP (Nat.ble (0+(x.l.len-x.l.at_)) (Int.toNat (2*(x.l.n:Int)+1))) ((∀k:Nat,k<x.l.len-x.l.at_->(Nat.beq (List.length [Value.string (dM.key (x.l.e (0+x.l.at_+k))),Value.int .u64 (dM.id (x.l.e (0+x.l.at_+k))),Value.int .u64 (dM.ver (x.l.e (0+x.l.at_+k))),Value.int .i64 (dM.line (x.l.e (0+x.l.at_+k))),Value.int .i64 (dM.cls (x.l.e (0+x.l.at_+k)))]) 5&&List.all [Value.string (dM.key (x.l.e (0+x.l.at_+k))),Value.int .u64 (dM.id (x.l.e (0+x.l.at_+k))),Value.int .u64 (dM.ver (x.l.e (0+x.l.at_+k))),Value.int .i64 (dM.line (x.l.e (0+x.l.at_+k))),Value.int .i64 (dM.cls (x.l.e (0+x.l.at_+k)))] Value.oneCell')=true)/\ad8 x.l/\True/\True/\0<=(x.l.at_:Int)/\ad9 x.l/\ad8 x.l/\0+(x.l.at_-0)<=x.l.cap/\cP (Nat.beq (x.l.at_-0) 0) (True/\True/\ad8 x.l/\cP (Nat.ble (0+(x.l.len-x.l.at_)+1) (Int.toNat (2*(x.l.n:Int)+1))) (Ba x.x/\0+(0+(x.l.len-x.l.at_)+1)<=Int.toNat (2*(x.l.n:Int)+1)/\I64 ((x.l.n:Int)+1)/\True/\ ∃y:Unit,True/\True/\((0=0/\ZLn.len (x.l.push x.x)=0+(x.l.len-x.l.at_)+1/\Bc x)/\NC x)/\(Bc x/\
 ∀q:Nat,q<ZLn.cap (x.l.push x.x)->[Value.string (dM.key (ZLn.e (x.l.push x.x) q)),Value.int .u64 (dM.id (ZLn.e (x.l.push x.x) q)),Value.int .u64 (dM.ver (ZLn.e (x.l.push x.x) q)),Value.int .i64 (dM.line (ZLn.e (x.l.push x.x) q)),Value.int .i64 (dM.cls (ZLn.e (x.l.push x.x) q))]=Cs.eff (fun(p:Nat)=>cond (Nat.ble 0 p&&Nat.blt p (0+(x.l.len-x.l.at_))) [Value.string (dM.key (x.l.e (0+x.l.at_+(p-0)))),Value.int .u64 (dM.id (x.l.e (0+x.l.at_+(p-0)))),Value.int .u64 (dM.ver (x.l.e (0+x.l.at_+(p-0)))),Value.int .i64 (dM.line (x.l.e (0+x.l.at_+(p-0)))),Value.int .i64 (dM.cls (x.l.e (0+x.l.at_+(p-0))))] [Value.string (ByteArray.mk #[]),Value.int .u64 0,Value.int .u64 0,Value.int .i64 0,Value.int .i64 0]) [(0+(0+(x.l.len-x.l.at_)),List.take 5 [Value.string x.x.key,Value.int .u64 x.x.id,Value.int .u64 x.x.ver,Value.int .i64 x.x.line,Value.int .i64 x.x.cls])] q)/\True) ((2*(0+(x.l.len-x.l.at_)+1)+1000)*48<=281474976710656/\alD x)) (cP (Nat.ble (0+(x.l.len-x.l.at_)+(x.l.at_-0)) (Int.toNat (2*(x.l.n:Int)+1))) (ad4 x.l/\0+(0+(x.l.len-x.l.at_)+(x.l.at_-0))<=Int.toNat (2*(x.l.n:Int)+1)/\True/\True/\0+(0+(x.l.len-x.l.at_)+(x.l.at_-0))<=Int.toNat (2*(x.l.n:Int)+1)/\cP (Nat.ble (0+(x.l.len-x.l.at_)+(x.l.at_-0)+1) (Int.toNat (2*(x.l.n:Int)+1))) (Ba x.x/\0+(0+(x.l.len-x.l.at_)+(x.l.at_-0)+1)<=Int.toNat (2*(x.l.n:Int)+1)/\I64 ((x.l.n:Int)+1)/\True/\ ∃y:Unit,True/\True/\((0=0/\ZLn.len (x.l.push x.x)=0+(x.l.len-x.l.at_)+(x.l.at_-0)+1/\Bc x)/\NC x)/\(Bc x/\
 ∀q:Nat,q<ZLn.cap (x.l.push x.x)->[Value.string (dM.key (ZLn.e (x.l.push x.x) q)),Value.int .u64 (dM.id (ZLn.e (x.l.push x.x) q)),Value.int .u64 (dM.ver (ZLn.e (x.l.push x.x) q)),Value.int .i64 (dM.line (ZLn.e (x.l.push x.x) q)),Value.int .i64 (dM.cls (ZLn.e (x.l.push x.x) q))]=Cs.eff (fun(p:Nat)=>cond (Nat.ble (0+(0+(x.l.len-x.l.at_))) p&&Nat.blt p (0+(0+(x.l.len-x.l.at_))+(x.l.at_-0))) [Value.string (dM.key (x.l.e (0+(p-(0+(0+(x.l.len-x.l.at_))))))),Value.int .u64 (dM.id (x.l.e (0+(p-(0+(0+(x.l.len-x.l.at_))))))),Value.int .u64 (dM.ver (x.l.e (0+(p-(0+(0+(x.l.len-x.l.at_))))))),Value.int .i64 (dM.line (x.l.e (0+(p-(0+(0+(x.l.len-x.l.at_))))))),Value.int .i64 (dM.cls (x.l.e (0+(p-(0+(0+(x.l.len-x.l.at_)))))))] (Cs.eff (fun(p_1:Nat)=>cond (Nat.ble 0 p_1&&Nat.blt p_1 (0+(x.l.len-x.l.at_))) [Value.string (dM.key (x.l.e (0+x.l.at_+(p_1-0)))),Value.int .u64 (dM.id (x.l.e (0+x.l.at_+(p_1-0)))),Value.int .u64 (dM.ver (x.l.e (0+x.l.at_+(p_1-0)))),Value.int .i64 (dM.line (x.l.e (0+x.l.at_+(p_1-0)))),Value.int .i64 (dM.cls (x.l.e (0+x.l.at_+(p_1-0))))] [Value.string (ByteArray.mk #[]),Value.int .u64 0,Value.int .u64 0,Value.int .i64 0,Value.int .i64 0]) [] p)) [(0+(0+(x.l.len-x.l.at_)+(x.l.at_-0)),List.take 5 [Value.string x.x.key,Value.int .u64 x.x.id,Value.int .u64 x.x.ver,Value.int .i64 x.x.line,Value.int .i64 x.x.cls])] q)/\True) (alE x)) (alF x))) ((2*(0+(x.l.len-x.l.at_))+1000)*48<=281474976710656/\True/\True/\0<=(x.l.at_:Int)/\ad9 x.l/\0+(x.l.len-x.l.at_)=0+(x.l.len-x.l.at_)/\0+(x.l.at_-0)<=x.l.cap/\ad4 x.l/\
 alF x))) (I64 ((x.l.at_:Int)+(x.l.n:Int))/\((x.l.len:Int)=0->False)/\(0<=Int.tmod ((x.l.at_:Int)+(x.l.n:Int)) (x.l.len:Int)/\Int.tmod ((x.l.at_:Int)+(x.l.n:Int)) (x.l.len:Int)<(x.l.len:Int))/\0+Int.toNat (Int.tmod ((x.l.at_:Int)+(x.l.n:Int)) (x.l.len:Int))<x.l.cap/\True/\I64 ((x.l.n:Int)+1)/\True/\ ∃y:Unit,True/\True/\((0=0/\ZLn.len (x.l.push x.x)=x.l.len/\ZLn.cap (x.l.push x.x)=x.l.cap)/\((ZLn.at_ (x.l.push x.x):Nat):Int)=(x.l.at_:Int)/\((ZLn.n (x.l.push x.x):Nat):Int)=(x.l.n:Int)+1/\True)/\(ZLn.cap (x.l.push x.x)=x.l.cap/\ ∀q:Nat,q<ZLn.cap (x.l.push x.x)->[Value.string (dM.key (ZLn.e (x.l.push x.x) q)),Value.int .u64 (dM.id (ZLn.e (x.l.push x.x) q)),Value.int .u64 (dM.ver (ZLn.e (x.l.push x.x) q)),Value.int .i64 (dM.line (ZLn.e (x.l.push x.x) q)),Value.int .i64 (dM.cls (ZLn.e (x.l.push x.x) q))]=Cs.eff (fun(i:Nat)=>dM.cs (x.l.e i)) [(0+Int.toNat (Int.tmod ((x.l.at_:Int)+(x.l.n:Int)) (x.l.len:Int)),[Value.string x.x.key,Value.int .u64 x.x.id,Value.int .u64 x.x.ver,Value.int .i64 x.x.line,Value.int .i64 x.x.cls])] q)/\True)
theorem KT(x:ahy):yV x=wpF Tryz.prog tV tt (noA x) 200 5 254 (AY.args x) (hO 2 (dO 1 (AY.l x))) (fun v h'=>dA 1 x v h' AY.outs):=by kernel_rfl
def yX(x:Unit):Prop:=
 ad6
theorem KU(x:Unit):yX x=wpF Tryz.prog tV tt (noA x) 200 5 154 (AZ.args x) (hO 1 (dO 1 (AZ.l x))) (fun v h'=>dA 1 x v h' AZ.outs):=by kernel_rfl
def yY(x:ZLn):Prop:=
 cP (BEq.beq (x.n:Int) (0:Int)) (∃y:Unit,True/\ad7 x/\Ez x) (WE x/\0+x.at_<x.cap/\True/\ ∃y:Unit,True/\ad5 x/\Ez x)
theorem KW(x:ZLn):yY x=wpF Tryz.prog tV tt (noA x) 200 5 154 (A8.args x) (hO 2 (dO 1 (A8.l x))) (fun v h'=>dA 1 x v h' A8.outs):=by kernel_rfl
def Dc(x:Unit):Prop:=
 ad6
theorem QI(x:Unit):Dc x=wpF Tryz.prog tV tt (noA x) 200 5 255 (Gv.args x) (hO 1 (dO 1 (Gv.l x))) (fun v h'=>dA 1 x v h' Gv.outs):=by kernel_rfl
def Df(x:ZLn):Prop:=
 cP (BEq.beq (x.n:Int) (0:Int)) (∃y:Unit,True/\ad7 x/\((0=0/\x.pop.len=x.len/\x.pop.cap=x.cap)/\(x.pop.at_:Int)=(x.at_:Int)/\(x.pop.n:Int)=(x.n:Int)/\True)/\(x.pop.cap=x.cap/\ ∀q:Nat,q<x.pop.cap->[Value.string (dM.key (x.pop.e q)),Value.int .u64 (dM.id (x.pop.e q)),Value.int .u64 (dM.ver (x.pop.e q)),Value.int .i64 (dM.line (x.pop.e q)),Value.int .i64 (dM.cls (x.pop.e q))]=[Value.string (dM.key (x.e q)),Value.int .u64 (dM.id (x.e q)),Value.int .u64 (dM.ver (x.e q)),Value.int .i64 (dM.line (x.e q)),Value.int .i64 (dM.cls (x.e q))])/\True) (WE x/\0+x.at_<x.cap/\True/\WE x/\0+x.at_<x.cap/\True/\I64 ((x.at_:Int)+1)/\((x.len:Int)=0->False)/\True/\I64 ((x.n:Int)-1)/\ ∃y:Unit,True/\ad5 x/\((0=0/\x.pop.len=x.len/\x.pop.cap=x.cap)/\(x.pop.at_:Int)=Int.tmod ((x.at_:Int)+1) (x.len:Int)/\(x.pop.n:Int)=(x.n:Int)-1/\True)/\(x.pop.cap=x.cap/\ ∀q:Nat,q<x.pop.cap->[Value.string (dM.key (x.pop.e q)),Value.int .u64 (dM.id (x.pop.e q)),Value.int .u64 (dM.ver (x.pop.e q)),Value.int .i64 (dM.line (x.pop.e q)),Value.int .i64 (dM.cls (x.pop.e q))]=Cs.eff (fun(i:Nat)=>dM.cs (x.e i)) [(0+x.at_,[Value.string (ByteArray.mk #[]),Value.int .u64 0,Value.int .u64 0,Value.int .i64 0,Value.int .i64 0])] q)/\True)
theorem QJ(x:ZLn):Df x=wpF Tryz.prog tV tt (noA x) 200 5 255 (Gw.args x) (hO 2 (dO 1 (Gw.l x))) (fun v h'=>dA 1 x v h' Gw.outs):=by kernel_rfl
def Dh(x:Unit):Prop:=
 ∃y:Unit,True/\(0:Int)=0/\IG
theorem QK(x:Unit):Dh x=wpF Tryz.prog tV tt (noA x) 200 5 21 (Gx.args x) (hO 1 (dO 1 (Gx.l x))) (fun v h'=>dA 1 x v h' Gx.outs):=by kernel_rfl
def Di(x:ZLn):Prop:=
 ∃y:Unit,True/\(x.n:Int)=(x.n:Int)/\Ez x
theorem QL(x:ZLn):Di x=wpF Tryz.prog tV tt (noA x) 200 5 21 (Gy.args x) (hO 2 (dO 1 (Gy.l x))) (fun v h'=>dA 1 x v h' Gy.outs):=by kernel_rfl
def Dj(x:Unit):Prop:=
 ∃y:Unit,True/\tZ/\IG
theorem QM(x:Unit):Dj x=wpF Tryz.prog tV tt (noA x) 200 5 70 (Gz.args x) (hO 1 (dO 1 (Gz.l x))) (fun v h'=>dA 1 x v h' Gz.outs):=by kernel_rfl
def Dk(x:ZLn):Prop:=
 (∃s:Unit,Hd True/\True/\((0:Int)=0/\tZ/\True)/\WC x/\Ey x/\True)/\(∀s:Unit,Hd True->cP (decide (0<(x.n:Int))) (I64 ((x.at_:Int)+0)/\((x.len:Int)=0->False)/\(0<=Int.tmod ((x.at_:Int)+0) (x.len:Int)/\Int.tmod ((x.at_:Int)+0) (x.len:Int)<(x.len:Int))/\0+Int.toNat (Int.tmod ((x.at_:Int)+0) (x.len:Int))<x.cap/\True/\(2*(0+1)+1000)*48<=281474976710656/\True/\True/\I64 (1:Int)/\ ∃s_1:Nat,Hd (1<=s_1/\s_1<=x.n)/\x.n-s_1<x.n+1/\((s_1:Int)=1/\(0=0/\s_1=1)/\True)/\(s_1=0+List.length [List.take 5 [Value.string (dM.key (x.e (0+Int.toNat (Int.tmod ((x.at_:Int)+0) (x.len:Int))))),Value.int .u64 (dM.id (x.e (0+Int.toNat (Int.tmod ((x.at_:Int)+0) (x.len:Int))))),Value.int .u64 (dM.ver (x.e (0+Int.toNat (Int.tmod ((x.at_:Int)+0) (x.len:Int))))),Value.int .i64 (dM.line (x.e (0+Int.toNat (Int.tmod ((x.at_:Int)+0) (x.len:Int))))),Value.int .i64 (dM.cls (x.e (0+Int.toNat (Int.tmod ((x.at_:Int)+0) (x.len:Int)))))]]/\
 ∀q:Nat,q<s_1->[Value.string (dM.key (x.get q)),Value.int .u64 (dM.id (x.get q)),Value.int .u64 (dM.ver (x.get q)),Value.int .i64 (dM.line (x.get q)),Value.int .i64 (dM.cls (x.get q))]=Cs.eff (fun(x_1:Nat)=>[]) [(0,List.take 5 [Value.string (dM.key (x.e (0+Int.toNat (Int.tmod ((x.at_:Int)+0) (x.len:Int))))),Value.int .u64 (dM.id (x.e (0+Int.toNat (Int.tmod ((x.at_:Int)+0) (x.len:Int))))),Value.int .u64 (dM.ver (x.e (0+Int.toNat (Int.tmod ((x.at_:Int)+0) (x.len:Int))))),Value.int .i64 (dM.line (x.e (0+Int.toNat (Int.tmod ((x.at_:Int)+0) (x.len:Int))))),Value.int .i64 (dM.cls (x.e (0+Int.toNat (Int.tmod ((x.at_:Int)+0) (x.len:Int)))))])] q)/\WC x/\Ey x/\True) ((∃y:Unit,Hd (x.n=0)/\tZ/\Ez x)\/ ∃y:Unit,Hd (x.n≠0)/\False))/\(∀s:Nat,Hd (1<=s/\s<=x.n)->cP (decide ((s:Int)<(x.n:Int))) (I64 ((x.at_:Int)+(s:Int))/\((x.len:Int)=0->False)/\(0<=Int.tmod ((x.at_:Int)+(s:Int)) (x.len:Int)/\Int.tmod ((x.at_:Int)+(s:Int)) (x.len:Int)<(x.len:Int))/\0+Int.toNat (Int.tmod ((x.at_:Int)+(s:Int)) (x.len:Int))<x.cap/\True/\s=s/\
 List.all [List.take 5 [Value.string (dM.key (x.e (0+Int.toNat (Int.tmod ((x.at_:Int)+(s:Int)) (x.len:Int))))),Value.int .u64 (dM.id (x.e (0+Int.toNat (Int.tmod ((x.at_:Int)+(s:Int)) (x.len:Int))))),Value.int .u64 (dM.ver (x.e (0+Int.toNat (Int.tmod ((x.at_:Int)+(s:Int)) (x.len:Int))))),Value.int .i64 (dM.line (x.e (0+Int.toNat (Int.tmod ((x.at_:Int)+(s:Int)) (x.len:Int))))),Value.int .i64 (dM.cls (x.e (0+Int.toNat (Int.tmod ((x.at_:Int)+(s:Int)) (x.len:Int)))))]] (fun(l:List Value)=>Nat.beq (List.length l) 5&&List.all l Value.oneCell')=true/\(2*(s+1)+1000)*48<=281474976710656/\True/\True/\I64 ((s:Int)+1)/\ ∃s_1:Nat,Hd (1<=s_1/\s_1<=x.n)/\x.n-s_1<x.n-s/\((s_1:Int)=(s:Int)+1/\(0=0/\s_1=s+1)/\True)/\(s_1=s+List.length [List.take 5 [Value.string (dM.key (x.e (0+Int.toNat (Int.tmod ((x.at_:Int)+(s:Int)) (x.len:Int))))),Value.int .u64 (dM.id (x.e (0+Int.toNat (Int.tmod ((x.at_:Int)+(s:Int)) (x.len:Int))))),Value.int .u64 (dM.ver (x.e (0+Int.toNat (Int.tmod ((x.at_:Int)+(s:Int)) (x.len:Int))))),Value.int .i64 (dM.line (x.e (0+Int.toNat (Int.tmod ((x.at_:Int)+(s:Int)) (x.len:Int))))),Value.int .i64 (dM.cls (x.e (0+Int.toNat (Int.tmod ((x.at_:Int)+(s:Int)) (x.len:Int)))))]]/\
 ∀q:Nat,q<s_1->[Value.string (dM.key (x.get q)),Value.int .u64 (dM.id (x.get q)),Value.int .u64 (dM.ver (x.get q)),Value.int .i64 (dM.line (x.get q)),Value.int .i64 (dM.cls (x.get q))]=Cs.eff (fun(j:Nat)=>dM.cs (x.get j)) [(s,List.take 5 [Value.string (dM.key (x.e (0+Int.toNat (Int.tmod ((x.at_:Int)+(s:Int)) (x.len:Int))))),Value.int .u64 (dM.id (x.e (0+Int.toNat (Int.tmod ((x.at_:Int)+(s:Int)) (x.len:Int))))),Value.int .u64 (dM.ver (x.e (0+Int.toNat (Int.tmod ((x.at_:Int)+(s:Int)) (x.len:Int))))),Value.int .i64 (dM.line (x.e (0+Int.toNat (Int.tmod ((x.at_:Int)+(s:Int)) (x.len:Int))))),Value.int .i64 (dM.cls (x.e (0+Int.toNat (Int.tmod ((x.at_:Int)+(s:Int)) (x.len:Int)))))])] q)/\WC x/\Ey x/\True) ((∃y:Unit,Hd (x.n=0)/\False/\Ez x)\/ ∃y:Unit,Hd (x.n≠0)/\(0=0/\x.n=s)/\Ey x/\(x.n=s/\ ∀q:Nat,q<x.n->[Value.string (dM.key (x.get q)),Value.int .u64 (dM.id (x.get q)),Value.int .u64 (dM.ver (x.get q)),Value.int .i64 (dM.line (x.get q)),Value.int .i64 (dM.cls (x.get q))]=[Value.string (dM.key (x.get q)),Value.int .u64 (dM.id (x.get q)),Value.int .u64 (dM.ver (x.get q)),Value.int .i64 (dM.line (x.get q)),Value.int .i64 (dM.cls (x.get q))])/\WC x/\True))/\True
theorem QN(x:ZLn):Dk x=wpF Tryz.prog tV tt (awO x) 200 5 70 (GH.args x) (hO 2 (dO 1 (GH.l x))) (fun v h'=>dA 1 x v h' GH.outs):=by kernel_rfl
theorem aaT{c:Int}(h:0<=c/\c<=3):0<spn c:=by
 unfold spn
 split
 ·omega
 ·split
  ·omega
  ·split
   ·omega
   ·split<;>omega
theorem IQ{g:Nat->List Value}{k q:Nat}{c:List Value}:Cs.eff g [(k,c)] q=if q=k then c else g q:=by
 simp only[Cs.eff,cO,dR,dQ,eX,<-Bool.decide_and]
theorem aua(f:Nat->iF)(k:Nat)(x:iF)(q:Nat)(e:iF)(he:e=if q=k then x else f q):[Value.int .i64 e.line,Value.int .i64 e.cls,Value.int .u64 e.r,Value.int .u64 e.d,Value.int .i64 e.anti]=Cs.eff (fun i=>(f i).cs) [(k,List.take 5 [Value.int .i64 x.line,Value.int .i64 x.cls,Value.int .u64 x.r,Value.int .u64 x.d,Value.int .i64 x.anti])] q:=by
 subst he
 rw[IQ]
 split<;>rfl
theorem aaU(f:Nat->dM)(k:Nat)(x:dM)(q:Nat)(e:dM)(he:e=if q=k then x else f q):[Value.string e.key,Value.int .u64 e.id,Value.int .u64 e.ver,Value.int .i64 e.line,Value.int .i64 e.cls]=Cs.eff (fun i=>(f i).cs) [(k,[Value.string x.key,Value.int .u64 x.id,Value.int .u64 x.ver,Value.int .i64 x.line,Value.int .i64 x.cls])] q:=by
 subst he
 rw[IQ]
 split<;>rfl
theorem KX(x:Fz)(hx:x.b.ok/\x.x.may/\x.b.z=true):II x:=by
 obtain⟨⟨h1,h2⟩,⟨m1,m2,m3,m4,m5,m6⟩,hz⟩:=hx
 have hn:=h2 hz
 have hs:=aaT (c:=x.x.cls) ⟨m3,m4⟩
 have e1:decide (x.x.line>=2)=true:=decide_eq_true m1
 have e2:decide (x.x.line<258)=true:=decide_eq_true m2
 have e3:decide (spn x.x.cls>0)=true:=decide_eq_true hs
 have e4:decide (x.x.anti>= -1)=true:=decide_eq_true m5
 have e5:decide (x.x.anti<258)=true:=decide_eq_true m6
 unfold II
 simp only[ND]
 simp only[aY,aU,aT,ay,aH,bP,bC,aN,aJ,au,aW,aV,bQ,bF,bG,bH,bT,bf,bJ,aZ,dZ,aG,aK,ah,aj,aA,aC,aB,aF,e1,e2,e3,e4,e5,lJ,jJ,Bool.not_true]
 have e:x.b.put x.x=⟨false,1,fun i=>if i=0 then x.x else x.b.e i⟩:=by unfold iV.put;rw[hn];rfl
 rw[e,hn]
 refine⟨by decide,rfl,rfl,rfl,fun q hq=> ?_⟩
 have:q=0:=by have:q<1:=hq;omega
 subst this;rfl
theorem KY(x:Fz)(hx:x.b.ok/\x.x.may/\x.b.z=false):IJ x:=by
 obtain⟨⟨h1,h2⟩,⟨m1,m2,m3,m4,m5,m6⟩,hz⟩:=hx
 have hs:=aaT (c:=x.x.cls) ⟨m3,m4⟩
 have e1:decide (x.x.line>=2)=true:=decide_eq_true m1
 have e2:decide (x.x.line<258)=true:=decide_eq_true m2
 have e3:decide (spn x.x.cls>0)=true:=decide_eq_true hs
 have e4:decide (x.x.anti>= -1)=true:=decide_eq_true m5
 have e5:decide (x.x.anti<258)=true:=decide_eq_true m6
 unfold IJ
 simp only[NG,at7]
 simp only[aY,aU,aT,ay,aH,bP,bC,aN,aJ,au,aW,aV,bQ,bF,bG,bH,bT,bf,bJ,aZ,dZ,aG,aK,ah,aj,aA,aC,aB,aF,e1,e2,e3,e4,e5,lJ,jJ,Bool.not_true]
 unfold iV.put
 refine bg (fun h=> ?_) fun h=> ?_
 ·have hge: ¬x.b.n<258:=by have:=aQ h;omega
  simp only[if_neg hge]
  exact⟨trivial,trivial,trivial,fun q _=>trivial⟩
 ·have hlt:x.b.n<258:=by have:=aS h;omega
  simp only[if_pos hlt]
  exact⟨rfl,by omega,trivial,trivial,rfl,fun q hq=>aua _ _ _ _ _ rfl⟩
theorem KZ(x:Unit):IK x:=by
 unfold IK
 simp only[tZ]
 simp only[aY,aU,aT,ay,aH,bP,bC,aN,aJ,au,aW,aV,bQ,bF,bG,bH,bT,bf,bJ,aZ,dZ,aG,aK,ah,aj,aA,aC,aB,aF]
theorem La(x:iV)(hx:x.ok/\x.z=false):IL x:=by
 have:=hx.1.1
 unfold IL
 simp only[alG]
 simp only[aY,aU,aT,ay,aH,bP,bC,aN,aJ,au,aW,aV,bQ,bF,bG,bH,bT,bf,bJ,aZ,dZ,aG,aK,ah,aj,aA,aC,aB,aF]
 refine⟨aX _,bg (fun h=> ?_) fun _=>by omega⟩
 have h0:x.n=0:=ak h
 exact⟨h0,by omega,fun q hq=>by omega⟩
theorem FB(x:Unit):yX x:=by
 unfold yX
 simp only[ad6,IG,tZ]
 simp only[aY,aU,aT,ay,aH,bP,bC,aN,aJ,au,aW,aV,bQ,bF,bG,bH,bT,bf,bJ,aZ,dZ,aG,aK,ah,aj,aA,aC,aB,aF]
theorem IU(x:Unit):Dc x:=by
 unfold Dc
 simp only[ad6,IG,tZ]
 simp only[aY,aU,aT,ay,aH,bP,bC,aN,aJ,au,aW,aV,bQ,bF,bG,bH,bT,bf,bJ,aZ,dZ,aG,aK,ah,aj,aA,aC,aB,aF]
theorem IV(x:Unit):Dh x:=by
 unfold Dh
 simp only[IG,tZ]
 simp only[aY,aU,aT,ay,aH,bP,bC,aN,aJ,au,aW,aV,bQ,bF,bG,bH,bT,bf,bJ,aZ,dZ,aG,aK,ah,aj,aA,aC,aB,aF]
theorem IW(x:Unit):Dj x:=by
 unfold Dj
 simp only[tZ,IG]
 simp only[aY,aU,aT,ay,aH,bP,bC,aN,aJ,au,aW,aV,bQ,bF,bG,bH,bT,bf,bJ,aZ,dZ,aG,aK,ah,aj,aA,aC,aB,aF]
theorem IX(x:ZLn)(_:x.ok/\x.len≠0):Di x:=by
 unfold Di
 simp only[Ez,Ey,WC]
 simp only[aY,aU,aT,ay,aH,bP,bC,aN,aJ,au,aW,aV,bQ,bF,bG,bH,bT,bf,bJ,aZ,dZ,aG,aK,ah,aj,aA,aC,aB,aF]
theorem aea{x:ZLn}(h:x.at_<x.len):x.get 0=x.e x.at_:=by
 unfold ZLn.get
 rw[aH,Nat.mod_eq_of_lt h]
theorem FC(x:ZLn)(hx:x.ok/\x.len≠0):yY x:=by
 obtain⟨⟨o1,o2,o3,o4,o5⟩,hl⟩:=hx
 have:=o5 hl
 unfold yY
 simp only[ad7,Ez,WE,ad5,Ey,WC]
 simp only[aY,aU,aT,ay,aH,bP,bC,aN,aJ,au,aW,aV,bQ,bF,bG,bH,bT,bf,bJ,aZ,dZ,aG,aK,ah,aj,aA,aC,aB,aF]
 refine bg (fun h=> ?_) fun h=> ?_
 ·have h0:x.n=0:=by have:=beq_iff_eq.1 h;omega
  rw[show x.head=qO from if_pos h0,h0]
  exact⟨⟨rfl,rfl,rfl,rfl,rfl⟩,rfl⟩
 ·have h0:x.n≠0:=fun e=>by rw[e]at h;exact absurd h (by decide)
  rw[show x.head=x.e x.at_ from (if_neg h0).trans (aea this)]
  exact⟨⟨by omega,by omega⟩,by omega,⟨rfl,rfl,rfl,rfl,rfl⟩,decide_eq_true h0⟩
theorem IY(x:ZLn)(hx:x.ok/\x.len≠0):Df x:=by
 obtain⟨⟨o1,o2,o3,o4,o5⟩,hl⟩:=hx
 have:=o5 hl
 unfold Df
 simp only[ad7,WE,ad5]
 simp only[aY,aU,aT,ay,aH,bP,bC,aN,aJ,au,aW,aV,bQ,bF,bG,bH,bT,bf,bJ,aZ,dZ,aG,aK,ah,aj,aA,aC,aB,aF]
 refine bg (fun h=> ?_) fun h=> ?_
 ·have h0:x.n=0:=by have:=beq_iff_eq.1 h;omega
  rw[show x.head=qO from if_pos h0,show x.pop=x from if_pos h0,h0]
  exact⟨⟨⟨rfl,rfl,rfl,rfl,rfl⟩,rfl⟩,⟨⟨rfl,rfl⟩,rfl,rfl⟩,rfl,fun q _=>rfl⟩
 ·have h0:x.n≠0:=fun e=>by rw[e]at h;exact absurd h (by decide)
  rw[show x.head=x.e x.at_ from (if_neg h0).trans (aea this),show x.pop=⟨x.len,x.cap,(x.at_+1)%x.len,x.n-1,fun i=>if i=x.at_ then qO else x.e i⟩ from if_neg h0]
  exact⟨⟨by omega,by omega⟩,by omega,⟨by omega,by omega⟩,by omega,⟨by unfold I64;omega,by omega,by unfold I64;omega,⟨⟨rfl,rfl,rfl,rfl,rfl⟩,decide_eq_true h0⟩,⟨⟨rfl,rfl⟩,(Int.ofNat_tmod (x.at_+1) x.len),by show((x.n-1:Nat):Int)=_;omega⟩,rfl,fun q _=>aaU _ _ qO _ _ rfl⟩⟩
theorem FD(x:dM):yU x:=by
 unfold yU
 simp only[Ba]
 simp only[aY,aU,aT,ay,aH,bP,bC,aN,aJ,au,aW,aV,bQ,bF,bG,bH,bT,bf,bJ,aZ,dZ,aG,aK,ah,aj,aA,aC,aB,aF]
 refine⟨by unfold I64;omega,by unfold I64;omega,by decide,by decide,by decide,by decide,by decide,by decide,by decide,by decide,rfl,by decide,by unfold I64;omega,⟨rfl,rfl⟩,fun q hq=> ?_⟩
 have:q=0:=by omega
 subst this;rfl
theorem PV(a b:Nat):((a:Int)+(b:Int))=((a+b:Nat):Int):=by omega
theorem aub{x:ZLn}(s:Nat):x.e ((x.at_+s)%x.len)=x.get s:=rfl
theorem IZ(x:ZLn)(hx:x.ok/\x.len≠0):Dk x:=by
 obtain⟨⟨o1,o2,o3,o4,o5⟩,hl⟩:=hx
 have:=o5 hl
 have ht: ∀s:Nat,((x.at_:Int)+(s:Int)).tmod (x.len:Int)=(((x.at_+s)%x.len:Nat):Int):=fun s=>by rw[PV];exact(Int.ofNat_tmod _ _).symm
 have hm: ∀s:Nat,(x.at_+s)%x.len<x.len:=fun s=>Nat.mod_lt _ (by omega)
 have hm0:=hm 0
 have ht0:=ht 0
 have hg0:x.e (x.at_%x.len)=x.get 0:=rfl
 unfold Dk
 simp only[tZ,WC,Ey,Ez]
 simp only[Int.natCast_zero,Int.add_zero,aH]at ht0 hm0
 simp only[aY,aU,aT,ay,aH,bP,bC,aN,aJ,au,aW,aV,bQ,bF,bG,bH,bT,bf,bJ,aZ,dZ,aG,aK,ah,aj,aA,aC,aB,aF,Int.add_zero,ht,ht0,hg0,aub]
 refine⟨bg (fun h=> ?_) fun h=> ?_,fun s hs=>bg (fun h=> ?_) fun h=> ?_⟩
 ·have hn:0<x.n:=by have:=aQ h;omega
  refine⟨by unfold I64;omega,by omega,⟨by omega,by omega⟩,by omega,by omega,by unfold I64;omega,1,by omega,by omega,by omega,rfl,fun q hq=> ?_⟩
  have:q=0:=by omega
  subst this;rfl
 ·exact .inl (by have:=aS h;omega)
 ·have hn:s<x.n:=by have:=aQ h;omega
  have:=hm s
  refine⟨by unfold I64;omega,by omega,⟨by omega,by omega⟩,by omega,rfl,by omega,by unfold I64;omega,s+1,by omega,by omega,by omega,rfl,fun q hq=>aaU _ _ (x.get s) _ _ ?_⟩
  split
  ·rename_i e;rw[e]
  ·rfl
 ·exact .inr (by have:=aS h;omega)
theorem FH(x:ahy)(hx:x.l.ok/\x.l.len≠0):yV x:=by
 obtain⟨⟨o1,o2,o3,o4,o5⟩,hl⟩:=hx
 have hat:=o5 hl
 have e1:Nat.beq (x.l.len-x.l.at_) 0=false:=by rw[dQ];exact decide_eq_false (by omega)
 have g1: ∀q,q<x.l.len-x.l.at_->x.l.get q=x.l.e (x.l.at_+q):=fun q h=>by unfold ZLn.get;rw[Nat.mod_eq_of_lt (by omega)]
 have g2: ∀q,x.l.len-x.l.at_<=q->q<x.l.len->x.l.get q=x.l.e (q-(x.l.len-x.l.at_)):=fun q h1 h2=>by
  unfold ZLn.get
  rw[show x.l.at_+q=(q-(x.l.len-x.l.at_))+x.l.len by omega,Nat.add_mod_right,Nat.mod_eq_of_lt (by omega)]
 have hz:qO=⟨⟨#[]⟩,0,0,0,0⟩:=rfl
 unfold yV
 simp only[ad9,Ba,Bc,NC,ad4,alD,ad8,alE,alF]
 simp only[aY,aU,aT,ay,aH,bP,bC,aN,aJ,au,aW,aV,bQ,bF,bG,bH,bT,bf,bJ,aZ,dZ,aG,aK,ah,aj,aA,aC,aB,aF,e1,jJ]
 refine bg (fun h=> ?_) fun h=> ?_
 ·have hn:x.l.n=x.l.len:=by have:=beq_iff_eq.1 h;omega
  have e2:(2*(x.l.n:Int)+1).toNat=2*x.l.len+1:=by omega
  have e3:Nat.ble (x.l.len-x.l.at_) (2*x.l.len+1)=true:=by rw[Nat.ble_eq];omega
  have e4:x.l.push x.x=⟨x.l.len+1,2*x.l.len+1,0,x.l.len+1,fun i=>if i<x.l.len then x.l.get i else if i=x.l.len then x.x else qO⟩:=by rw[<-hn];exact if_pos hn
  simp only[e2,e3,e4,lJ]
  by_cases ha:x.l.at_=0
  ·have e5:Nat.beq x.l.at_ 0=true:=by rw[ha];rfl
   have e6:Nat.ble (x.l.len-x.l.at_+1) (2*x.l.len+1)=true:=by rw[Nat.ble_eq];omega
   simp only[e5,e6,lJ]
   refine⟨by unfold I64;omega,by unfold I64;omega,by omega,by omega,by omega,by omega,by omega,fun k _=>rfl,by omega,by omega,by omega,by omega,by omega,by omega,rfl,by omega,by unfold I64;omega,⟨⟨by omega,trivial⟩,by omega,by omega⟩,trivial,fun q hq=> ?_⟩
   rw[IQ]
   simp only[Cs.eff,cO,dR,dQ,eX,<-Bool.decide_and]
   grind
  ·have e5:Nat.beq x.l.at_ 0=false:=by rw[dQ];exact decide_eq_false ha
   have e6:Nat.ble (x.l.len-x.l.at_+x.l.at_) (2*x.l.len+1)=true:=by rw[Nat.ble_eq];omega
   have e7:Nat.ble (x.l.len-x.l.at_+x.l.at_+1) (2*x.l.len+1)=true:=by rw[Nat.ble_eq];omega
   simp only[e5,e6,e7,lJ,jJ]
   refine⟨by unfold I64;omega,by unfold I64;omega,by omega,by omega,by omega,by omega,by omega,fun k _=>rfl,by omega,by omega,by omega,by omega,by omega,fun k _=>rfl,by omega,by omega,rfl,by omega,by unfold I64;omega,⟨⟨by omega,trivial⟩,by omega,by omega⟩,trivial,fun q hq=> ?_⟩
   rw[IQ]
   simp only[Cs.eff,cO,dR,dQ,eX,<-Bool.decide_and]
   grind
 ·have hn:x.l.n≠x.l.len:=fun e=>by rw[e]at h;simp at h
  have ht:((x.l.at_:Int)+(x.l.n:Int)).tmod (x.l.len:Int)=(((x.l.at_+x.l.n)%x.l.len:Nat):Int):=by rw[PV];exact(Int.ofNat_tmod _ _).symm
  have hm:(x.l.at_+x.l.n)%x.l.len<x.l.len:=Nat.mod_lt _ (by omega)
  rw[show x.l.push x.x=⟨x.l.len,x.l.cap,x.l.at_,x.l.n+1,fun i=>if i=(x.l.at_+x.l.n)%x.l.len then x.x else x.l.e i⟩ from if_neg hn]
  simp only[ht,au]
  exact⟨by unfold I64;omega,by omega,⟨by omega,by omega⟩,by omega,by unfold I64;omega,⟨⟨trivial,trivial⟩,trivial,by omega⟩,trivial,fun q _=>aaU _ _ x.x _ _ rfl⟩
theorem ahz:bZ Tryz.prog 66 (vw true).ctr:=dK dB mixed (.cons (bU mX) .nil) 1 noA 200 5 (fun _=>⟨rfl,rfl,rfl,rfl⟩) fun x hx=>Eq.mp (WG x) (KX x (aY.1 hx))
theorem ahA:bZ Tryz.prog 66 (vw false).ctr:=dK dB mixed (.cons (bU mX) .nil) 2 noA 200 5 (fun _=>⟨rfl,rfl,rfl,rfl⟩) fun x hx=>Eq.mp (WH x) (KY x (aY.1 hx))
theorem ahB:bZ Tryz.prog 278 QG.ctr:=dK dB mixed fC 1 noA 200 5 (fun _=>⟨rfl,rfl,rfl,rfl⟩) fun x _=>Eq.mp (WI x) (KZ x)
theorem ahC:bZ Tryz.prog 278 QH.ctr:=dK dB mixed fC 2 noA 200 5 (fun _=>⟨rfl,rfl,rfl,rfl⟩) fun x hx=>Eq.mp (WJ x) (La x (aY.1 hx))
theorem WL:bZ Tryz.prog 254 AX.ctr:=dK dB mixed fC 1 noA 200 5 (fun _=>⟨rfl,rfl,rfl,rfl⟩) fun x _=>Eq.mp (KR x) (FD x)
theorem WM:bZ Tryz.prog 254 AY.ctr:=dK dB mixed fC 2 noA 200 5 (fun _=>⟨rfl,rfl,rfl,rfl⟩) fun x hx=>Eq.mp (KT x) (FH x (aY.1 hx))
theorem WO:bZ Tryz.prog 154 AZ.ctr:=dK dB mixed fC 1 noA 200 5 (fun _=>⟨rfl,rfl,rfl,rfl⟩) fun x _=>Eq.mp (KU x) (FB x)
theorem WQ:bZ Tryz.prog 154 A8.ctr:=dK dB mixed fC 2 noA 200 5 (fun _=>⟨rfl,rfl,rfl,rfl⟩) fun x hx=>Eq.mp (KW x) (FC x (aY.1 hx))
theorem aaV:bZ Tryz.prog 255 Gv.ctr:=dK dB mixed fC 1 noA 200 5 (fun _=>⟨rfl,rfl,rfl,rfl⟩) fun x _=>Eq.mp (QI x) (IU x)
theorem aaW:bZ Tryz.prog 255 Gw.ctr:=dK dB mixed fC 2 noA 200 5 (fun _=>⟨rfl,rfl,rfl,rfl⟩) fun x hx=>Eq.mp (QJ x) (IY x (aY.1 hx))
theorem aaX:bZ Tryz.prog 21 Gx.ctr:=dK dB mixed fC 1 noA 200 5 (fun _=>⟨rfl,rfl,rfl,rfl⟩) fun x _=>Eq.mp (QK x) (IV x)
theorem aaY:bZ Tryz.prog 21 Gy.ctr:=dK dB mixed fC 2 noA 200 5 (fun _=>⟨rfl,rfl,rfl,rfl⟩) fun x hx=>Eq.mp (QL x) (IX x (aY.1 hx))
theorem aaZ:bZ Tryz.prog 70 Gz.ctr:=dK dB mixed fC 1 noA 200 5 (fun _=>⟨rfl,rfl,rfl,rfl⟩) fun x _=>Eq.mp (QM x) (IW x)
theorem aa0:bZ Tryz.prog 70 GH.ctr:=dK dB mixed fC 2 awO 200 5 (fun _=>⟨rfl,rfl,rfl,rfl⟩) fun x hx=>Eq.mp (QN x) (IZ x (aY.1 hx))
theorem WR{X:Type}(x:X)(v:AV)(h':Heap):pU x v h' []=False:=by with_unfolding_all rfl
theorem jh{X:Type}(x:X)(v:AV)(h':Heap)(o:Out X)(r:List (Out X)):pU x v h' (o::r)=((∃y,o.post x y/\v=o.ret x y/\h'=hO o.m (o.os x y))\/pU x v h' r):=by with_unfolding_all rfl
theorem lK{X:Type}{x:X}{v:AV}{h':Heap}{o:Out X}(h:pU x v h' [o]): ∃y,o.post x y/\v=o.ret x y/\h'=hO o.m (o.os x y):=by
 rw[jh,WR,or_false]at h;exact h
theorem qY{X:Type}{x:X}{v:AV}{h':Heap}{o p:Out X}(h:pU x v h' [o,p]):(∃y,o.post x y/\v=o.ret x y/\h'=hO o.m (o.os x y))\/ ∃y,p.post x y/\v=p.ret x y/\h'=hO p.m (p.os x y):=by
 rw[jh,jh,WR,or_false]at h;exact h
theorem fK{X:Type}{x:X}{v:AV}{h':Heap}{o:Out X}{r:List (Out X)}(h: ∃y,o.post x y/\v=o.ret x y/\h'=hO o.m (o.os x y)):pU x v h' (o::r):=by
 rw[jh];exact .inl h
theorem WS{X:Type}{x:X}{v:AV}{h':Heap}{o p:Out X}{r:List (Out X)}(h: ∃y,p.post x y/\v=p.ret x y/\h'=hO p.m (p.os x y)):pU x v h' (o::p::r):=by
 rw[jh,jh];exact .inr (.inl h)
theorem yZ{P:Program}{f:FuncId}{X:Type}{args:X->List AV}{k:Nat}{l:X->List PO}{pre:X->Prop}{ret:X->AV}{m:Nat}{l':X->List PO}
  (h: ∀x,pre x-> ∃(Y:Type) (a2:Y->List AV) (l2:Y->List PO) (p2:Y->Prop) (r2:Y->AV) (l2':Y->List PO) (y:Y),bZ P f (nG Y a2 k l2 p2 r2 m l2').ctr/\p2 y/\a2 y=args x/\l2 y=l x/\r2 y=ret x/\l2' y=l' x):
  bZ P f (nG X args k l pre ret m l').ctr:=by
 refine qw fun x hx=> ?_
 obtain⟨Y,a2,l2,p2,r2,l2',y,h1,h2,h3,h4,h5,h6⟩:=h x hx
 refine⟨_,h1,rfl,y,h2,h3,by simp only[nG,jR.ctr,h4],fun v h' hh=> ?_⟩
 obtain⟨u,e1,e2,e3⟩:=lK hh
 exact fK ⟨u,trivial,by rw[e2];exact h5,by rw[e3];show hO m ((l2' y).map PO.ab)=hO m ((l' x).map PO.ab);rw[h6]⟩
def alH:jR:=nG Fz (fun x=>[.ptr 0 0,x.x.av]) 1 (fun x=>[.m x.b.os]) (fun x=>Hd (x.b.ok/\x.x.may)) (fun x=>i64 (if x.b.n<258 then 0 else 11)) 1 (fun x=>[.m (x.b.put x.x).os])
def alI:jR:={X:=iV,args:=fun _=>[.ptr 0 0],k:=1,l:=fun b=>[.m b.os],pre:=fun b=>Hd b.ok,outs:=[
 {Y:=Unit,post:=fun b _=>Hd (b.n=0),ret:=fun _ _=>fO,m:=1,l:=fun b _=>[.m b.os]},
 {Y:=Unit,post:=fun _ _=>Hd True,ret:=fun b _=> .slW 1 0 5 b.n,m:=2,l:=fun b _=>[.m b.os,.o (.room 70 b.row)]}]}
def WT:jR:=nG ahy (fun x=>[.ptr 0 0,x.x.av]) 1 (fun x=>[.m x.l.os]) (fun x=>Hd x.l.ok) (fun _=> .tup []) 1 (fun x=>[.m (x.l.push x.x).os])
def vC:jR:=nG ZLn (fun _=>[.ptr 0 0]) 1 (fun l=>[.m l.os]) (fun l=>Hd l.ok) (fun l=> .tup [l.head.av,boo (decide (l.n≠0))]) 1 (fun l=>[.m l.os])
def aeb:jR:=nG ZLn (fun _=>[.ptr 0 0]) 1 (fun l=>[.m l.os]) (fun l=>Hd l.ok) (fun l=> .tup [l.head.av,boo (decide (l.n≠0))]) 1 (fun l=>[.m l.pop.os])
def aec:jR:=nG ZLn (fun _=>[.ptr 0 0]) 1 (fun l=>[.m l.os]) (fun l=>Hd l.ok) (fun l=>i64 l.n) 1 (fun l=>[.m l.os])
def QO:jR:={X:=ZLn,args:=fun _=>[.ptr 0 0],k:=1,l:=fun l=>[.m l.os],pre:=fun l=>Hd l.ok,outs:=[
 {Y:=Unit,post:=fun l _=>Hd (l.n=0),ret:=fun _ _=>fO,m:=1,l:=fun l _=>[.m l.os]},
 {Y:=Unit,post:=fun l _=>Hd (l.n≠0),ret:=fun l _=> .slW 1 0 5 l.n,m:=2,l:=fun l _=>[.m l.os,.o (.room 41 (l.all l.n))]}]}
theorem ahD{b:iV}{x:iF}(h:b.ok):(b.put x).os=(b.put x).osP\/b.z=false/\(b.put x).os=(b.put x).osP:=by
 left
 unfold iV.put
 split
 ·rfl
 ·cases hz:b.z with
  |false=>unfold iV.os;rw[hz];rfl
  |true=>have:=h.2 hz;omega
theorem NH{b:iV}(z:Bool)(h:b.z=z):b.os=bif z then iV.osN else b.osP:=by
 unfold iV.os;rw[h]
theorem alJ:bZ Tryz.prog 66 alH.ctr:=yZ fun x hx=>by
 have hx:=aY.1 hx
 have e:(x.b.put x.x).os=(x.b.put x.x).osP:=(ahD hx.1).elim id And.right
 cases hz:x.b.z with
 |true=>exact⟨_,_,_,_,_,_,x,ahz,aY.2 ⟨hx.1,hx.2,hz⟩,rfl,by rw[NH true hz],rfl,by rw[e]⟩
 |false=>exact⟨_,_,_,_,_,_,x,ahA,aY.2 ⟨hx.1,hx.2,hz⟩,rfl,by rw[NH false hz],rfl,by rw[e]⟩
theorem alK:bZ Tryz.prog 278 alI.ctr:=qw fun x hx=>by
 have hx:=aY.1 hx
 cases hz:x.z with
 |true=>
  refine⟨_,ahB,rfl,(),aY.2 trivial,rfl,by show [_]=[_];rw[NH true hz];rfl,fun v h' hh=> ?_⟩
  obtain⟨y,_,h1,h2⟩:=lK hh
  exact fK ⟨(),aY.2 (hx.2 hz),h1,by rw[h2];show hO 1 [_]=hO 1 [_];rw[NH true hz];rfl⟩
 |false=>
  refine⟨_,ahC,rfl,x,aY.2 ⟨hx,hz⟩,rfl,by show [_]=[_];rw[NH false hz];rfl,fun v h' hh=> ?_⟩
  obtain⟨y,_,h1,h2⟩:=lK hh
  exact WS ⟨(),aY.2 trivial,h1,by rw[h2];show hO 2 [_,_]=hO 2 [_,_];rw[NH false hz];rfl⟩
theorem Bd{l:ZLn}(h:l.len=0):l.os=ZLn.osN:=by unfold ZLn.os;rw[h];rfl
theorem vF{l:ZLn}(h:l.len≠0):l.os=l.osP:=by unfold ZLn.os;rw[dQ,decide_eq_false h];rfl
theorem awP{l:ZLn}(h:l.ok)(h0:l.len=0):l.n=0:=by have:=h.2.2.1;omega
theorem aa1:bZ Tryz.prog 254 WT.ctr:=yZ fun x hx=>by
 have hx:=aY.1 hx
 by_cases hz:x.l.len=0
 ·have hn:=awP hx hz
  have e:x.l.push x.x=⟨1,1,0,1,fun i=>if i=0 then x.x else qO⟩:=by
   unfold ZLn.push
   rw[hn,hz,if_pos rfl]
   simp only[Nat.not_lt_zero,if_false,Nat.mul_zero,ay]
  exact⟨_,_,_,_,_,_,x.x,WL,aY.2 trivial,rfl,by rw[Bd hz],rfl,by rw[e];rfl⟩
 ·have e:(x.l.push x.x).len≠0:=by unfold ZLn.push;split<;>simp_all
  exact⟨_,_,_,_,_,_,x,WM,aY.2 ⟨hx,hz⟩,rfl,by rw[vF hz],rfl,by rw[vF e]⟩
theorem Bf{l:ZLn}(h:l.n=0):l.head=qO:=if_pos h
theorem sG:bZ Tryz.prog 154 vC.ctr:=yZ fun x hx=>by
 have hx:=aY.1 hx
 by_cases hz:x.len=0
 ·have hn:=awP hx hz
  exact⟨_,_,_,_,_,_,(),WO,aY.2 trivial,rfl,by rw[Bd hz],by rw[Bf hn,hn];rfl,by rw[Bd hz]⟩
 ·exact⟨_,_,_,_,_,_,x,WQ,aY.2 ⟨hx,hz⟩,rfl,by rw[vF hz],rfl,by rw[vF hz]⟩
theorem ahE:bZ Tryz.prog 255 aeb.ctr:=yZ fun x hx=>by
 have hx:=aY.1 hx
 by_cases hz:x.len=0
 ·have hn:=awP hx hz
  exact⟨_,_,_,_,_,_,(),aaV,aY.2 trivial,rfl,by rw[Bd hz],by rw[Bf hn,hn];rfl,by rw[show x.pop=x from if_pos hn,Bd hz]⟩
 ·have e:x.pop.len≠0:=by unfold ZLn.pop;split<;>exact hz
  exact⟨_,_,_,_,_,_,x,aaW,aY.2 ⟨hx,hz⟩,rfl,by rw[vF hz],rfl,by rw[vF e]⟩
theorem ahF:bZ Tryz.prog 21 aec.ctr:=yZ fun x hx=>by
 have hx:=aY.1 hx
 by_cases hz:x.len=0
 ·have hn:=awP hx hz
  exact⟨_,_,_,_,_,_,(),aaX,aY.2 trivial,rfl,by rw[Bd hz],by rw[hn];rfl,by rw[Bd hz]⟩
 ·exact⟨_,_,_,_,_,_,x,aaY,aY.2 ⟨hx,hz⟩,rfl,by rw[vF hz],rfl,by rw[vF hz]⟩
theorem NI:bZ Tryz.prog 70 QO.ctr:=qw fun x hx=>by
 have hx:=aY.1 hx
 by_cases hz:x.len=0
 ·refine⟨_,aaZ,rfl,(),aY.2 trivial,rfl,by show [_]=[_];rw[Bd hz],fun v h' hh=> ?_⟩
  obtain⟨y,_,h1,h2⟩:=lK hh
  exact fK ⟨(),aY.2 (awP hx hz),h1,by rw[h2];show hO 1 [_]=hO 1 [_];rw[Bd hz]⟩
 ·refine⟨_,aa0,rfl,x,aY.2 ⟨hx,hz⟩,rfl,by show [_]=[_];rw[vF hz],fun v h' hh=> ?_⟩
  rcases qY hh with ⟨y,h0,h1,h2⟩|⟨y,h0,h1,h2⟩
  ·exact fK ⟨(),h0,h1,by rw[h2];show hO 1 [_]=hO 1 [_];rw[vF hz]⟩
  ·exact WS ⟨(),h0,h1,by rw[h2];show hO 2 [_,_]=hO 2 [_,_];rw[vF hz]⟩
structure dN where
 cls:Int
 kind:Int
 id:Int
 ver:Int
 epoch:Int
 key:ByteArray
 value:ByteArray
namespace dN
def av(b:dN):AV:= .agg [i64 b.cls,i64 b.kind,u64 b.id,u64 b.ver,u64 b.epoch,.lit (.string b.key),.lit (.string b.value)]
def num(v:Int):Prop:=1<=v/\v<=2305843009213693952
def nums(b:dN):Prop:=num b.id/\num b.ver/\num b.epoch
def may(b:dN):Prop:=spn b.cls≠0/\(
 b.kind=0/\b.id=0/\b.ver=0/\b.epoch=0/\b.key=⟨#[]⟩/\b.value=⟨#[]⟩\/
 b.kind=1/\1<=b.key.size/\b.key.size<=16/\b.value.size<=400/\ned (b.key.size+b.value.size:Nat)=b.cls/\b.nums\/
 b.kind=2/\b.key=⟨#[]⟩/\b.value.size<=400/\ned (b.key.size+b.value.size:Nat)=b.cls/\b.nums\/
 b.kind=3/\b.key.size+b.value.size=0/\b.cls=0/\b.nums)
def dat(b:dN)(i:Nat):Int:=if i<(b.key++b.value).size then gG (b.key++b.value) i else 0
def h32(b:dN)(k:Nat):Int:=if k=0 then 1 else if k=1 then b.cls else if k=2 then b.kind else if k=3 then b.key.size else if k<6 then(b.value.size:Int)/256^(k-4)%256 else if k<8 then 0 else
 if k<16 then b.id/256^(k-8)%256 else if k<24 then b.ver/256^(k-16)%256 else if k<32 then b.epoch/256^(k-24)%256 else 0
noncomputable def kT(b:dN)(g:Nat->Int)(n:Nat)(k:Nat):Int:=if k<32 then b.h32 k else if k<36 then pV (pV 0 b.h32 32) g n/256^(k-32)%256 else g (k-36)
def jD(b:dN):Nat:=(cpc b.cls).toNat
def dJ(b:dN):Nat:=(spn b.cls).toNat
noncomputable def enc(b:dN)(k:Nat):Int:=if k<64 then b.kT b.dat b.jD k else if k%64=0 then 2 else b.dat (28+(k/64-1)*63+(k%64-1))
end dN
noncomputable def dN.Zi(b:dN):Bool:=hide (@decide b.may (Classical.propDecidable _))
theorem Bg{b:dN}:b.Zi=true↔b.may:=by unfold dN.Zi;rw[qI];exact @decide_eq_true_iff _ (Classical.propDecidable _)
noncomputable def asw:Ctr:=det dN (fun b=>[b.av]) 0 (fun _=>[]) (fun b=>Hd (b.key.size<1099511627776/\b.value.size<1099511627776)) (fun b=>boo b.Zi) 0 (fun _=>[])
def zu(g:Nat->Int)(a:Nat):Nat->Int
 |0=>0
 |w+1=>zu g a w+g (a+w)*256^w
structure I4 where
 b:Bys
 at_:Nat
 w:Nat
def auc:Ctr:=det I4 (fun x=>[x.b.av 0,i64 x.at_,i64 x.w]) 1 (fun x=>[x.b.ro]) (fun x=>Hd (x.b.ok/\x.at_+x.w<=x.b.n/\1<=x.w/\x.w<=8)) (fun x=> .tup [u64 (zu (fun k=>x.b.g (x.b.q+k)) x.at_ x.w),i64 0]) 1 (fun x=>[x.b.ro])
def awQ(x:I4):FuncId->tK:=fun f=>bif Nat.beq f 228 then(fun b _ _=>bif Nat.beq b 0 then [
 {σ:=Nat,fr:=fun k=>[(19,i64 k),(9,u64 (zu (fun k=>x.b.g (x.b.q+k)) x.at_ k))],ob:=fun _=>[],inv:=fun k=>Hd (k<=x.w),meas:=fun k=>x.w-k}]else [])else fun _ _ _=>[]
structure FI where
 g:Nat->Int
 at_:Nat
 w:Nat
 v:Int
def aa2:Ctr:=det FI (fun x=>[.slE 0 0 1 64 64,i64 x.at_,i64 x.w,u64 x.v]) 1 (fun x=>[.cells 5 (rowB x.g 64)]) (fun x=>Hd (x.at_+x.w<=64/\1<=x.w/\x.w<=8/\0<=x.v/\x.v<256^x.w/\ ∀k,0<=x.g k/\x.g k<256)) (fun _=> .tup []) 1 (fun x=>[.cells 5 (rowB (qX x.g x.at_ x.w x.v) 64)])
structure Dl where
 b:dN
 d:Bys
def Dl.ok(x:Dl):Prop:=x.d.ok/\28<=x.d.n/\x.b.key.size<256/\x.b.value.size<65536/\0<=x.b.cls/\x.b.cls<256/\0<=x.b.kind/\x.b.kind<256/\0<=x.b.id/\x.b.id<18446744073709551616/\0<=x.b.ver/\x.b.ver<18446744073709551616/\0<=x.b.epoch/\x.b.epoch<18446744073709551616
noncomputable def Ii:Ctr:=det Dl (fun x=>[x.b.av,x.d.av 0]) 1 (fun x=>[x.d.ro]) (fun x=>Hd x.ok) (fun _=> .slE 1 0 1 64 64) 2 (fun x=>[x.d.ro,.cells 5 (rowB (x.b.kT (fun k=>x.d.g (x.d.q+k)) x.d.n) 64)])
noncomputable def awR:jY:=[(171,apY),(170,eG asg),(169,eG aa2)]
noncomputable def tblB0:jY:=[(215,eG ash)]
def WU(a:dN):Prop:=True/\a.Zi=false/\True
def aed(a:Int):Prop:=AV.lit (Value.int .i64 a)=AV.lit (Value.int .i64 a)
def WV(a:Int):Prop:=aed a/\True
def aud(a:dN)(b:Int):Prop:=True/\ ∀y_1:Unit,True->WV a.cls/\cP (bne (ned b) a.cls) (∃y_2:Unit,WU a) (cP (decide (a.id>=(1:Int))) (cP (decide (a.id<=2305843009213693952)) (cP (decide (a.ver>=(1:Int))) (cP (decide (a.ver<=2305843009213693952)) (cP (decide (a.epoch>=(1:Int))) (∃y_2:Unit,True/\a.Zi=decide (a.epoch<=2305843009213693952)/\True) (∃y_2:Unit,WU a)) (∃y_2:Unit,WU a)) (∃y_2:Unit,WU a)) (∃y_2:Unit,WU a)) (∃y_2:Unit,WU a))
def qZ(a:dN):Prop:= ∃y_1:Unit,WU a
def WW(a:dN):Prop:=(AV.lit (Value.tuple (@List.toArray Value (@List.nil Value)))=AV.lit (Value.tuple (@List.toArray Value (@List.nil Value)))/\True)/\qZ a
def aue(a:dN):Prop:=cP (decide ((a.key.size:Int)+(a.value.size:Int)-(a.key.size:Int)>(400:Int))) (WW a) (I64 ((a.key.size:Int)+((a.key.size:Int)+(a.value.size:Int)-(a.key.size:Int)))/\ ∃x_1:Int,True/\(x_1=(a.key.size:Int)+((a.key.size:Int)+(a.value.size:Int)-(a.key.size:Int))/\True)/\aud a x_1)
def auf(a:dN):Prop:=cP (decide ((a.key.size:Int)+(a.value.size:Int)>(400:Int))) (WW a) (I64 ((a.key.size:Int)+((a.key.size:Int)+(a.value.size:Int)))/\ ∃x_1:Int,True/\(x_1=(a.key.size:Int)+((a.key.size:Int)+(a.value.size:Int))/\True)/\aud a x_1)
def ahG(a:FI):Prop:=Hd (a.at_+a.w<=64/\1<=a.w/\a.w<=8/\0<=a.v/\a.v< @HPow.hPow Int Nat Int (@instHPow Int Nat (@instPowNat Int @Int.instNatPow)) (256:Int) a.w/\ ∀k:Nat,0<=a.g k/\a.g k<256)
def WX(a:FI)(b:FI):Prop:=(64=64/\ ∀q:Nat,q<64->[Value.int .u8 (a.g q)]=[Value.int .u8 (qX b.g b.at_ b.w b.v q)])/\True
def Bh(a:Bys):Prop:=rowB a.g a.N=rowB a.g a.N/\true=true
def EC:Prop:=0=0/\64=64/\64=64
def alL(a:I4):Prop:= ∃y:Unit,True/\(zu (fun(k:Nat)=>a.b.g (a.b.q+k)) a.at_ a.w=0/\(0:Int)=1/\True)/\Bh a.b/\True
def alM(a:Bys)(b:Nat):Prop:=(Nat.beq (List.length [Value.int .u8 (a.g (a.q+b))]) 1&&List.all [Value.int .u8 (a.g (a.q+b))] Value.oneCell')=true
def alN(a:xK)(b:Nat):Prop:=(Nat.beq (List.length [Value.int .u8 (a.res (0+b))]) 1&&List.all [Value.int .u8 (a.res (0+b))] Value.oneCell')=true
def aee(a:ByteArray):Prop:=AV.lit (Value.string a)=AV.lit (Value.string a)
def aug(b:dN):Prop:=
 ∃x:Int,True/\(x=b.cls/\True)/\True/\ ∀y:Unit,True->cP (BEq.beq (spn x) (0:Int)) (qZ b) (I64 ((b.key.size:Int)+(b.value.size:Int))/\cP (BEq.beq b.kind (0:Int)) (∃y_1:Unit,True/\b.Zi=(BEq.beq b.cls b.cls&&(BEq.beq b.kind (0:Int)&&(BEq.beq b.id (0:Int)&&(BEq.beq b.ver (0:Int)&&(BEq.beq b.epoch (0:Int)&&(BEq.beq (ByteArray.toList b.key) (ByteArray.toList (ByteArray.mk #[]))&&(BEq.beq (ByteArray.toList b.value) (ByteArray.toList (ByteArray.mk #[]))&&true)))))))/\True) (cP (BEq.beq b.kind (1:Int)) (cP (decide ((b.key.size:Int)<1)) (qZ b) (cP (decide ((b.key.size:Int)>(16:Int))) (qZ b) (I64 ((b.key.size:Int)+(b.value.size:Int)-(b.key.size:Int))/\cP (BEq.beq b.kind (2:Int)) (cP (Bool.not (BEq.beq (ByteArray.toList b.key) (ByteArray.toList (ByteArray.mk #[])))) (WW b) (aue b)) (aue b)))) (cP (BEq.beq b.kind (2:Int)) (cP (BEq.beq b.kind (2:Int)) (cP (Bool.not (BEq.beq (ByteArray.toList b.key) (ByteArray.toList (ByteArray.mk #[])))) (WW b) (auf b)) (auf b)) (cP (BEq.beq b.kind (3:Int)) (cP (bne ((b.key.size:Int)+(b.value.size:Int)) (0:Int)) (qZ b) (cP (bne b.cls (0:Int)) (qZ b) (cP (decide (b.id>=(1:Int))) (cP (decide (b.id<=2305843009213693952)) (cP (decide (b.ver>=(1:Int))) (cP (decide (b.ver<=2305843009213693952)) (cP (decide (b.epoch>=(1:Int))) (∃y_1:Unit,True/\b.Zi=decide (b.epoch<=2305843009213693952)/\True) (qZ b)) (qZ b)) (qZ b)) (qZ b)) (qZ b)))) (qZ b)))))
theorem aql(b:dN):aug b=wpF Tryz.prog [(113,eG Aw),(201,eG aaw)] tt (noA b) 200 5 229 (asw.args b) (hO asw.k (asw.os b)) (fun v h'=>fA asw.k b v h' asw.outs):=by kernel_rfl
def auh(x:I4):Prop:=
 cP (decide ((x.w:Int)<1)) (alL x) (cP (decide ((x.w:Int)>(8:Int))) (alL x) (I64 ((x.b.n:Int)-(x.w:Int))/\cP (decide ((x.at_:Int)>(x.b.n:Int)-(x.w:Int))) (∃y:Unit,True/\(zu (fun(k:Nat)=>x.b.g (x.b.q+k)) x.at_ x.w=0/\(0:Int)=2/\True)/\Bh x.b/\True) ((∃s:Nat,Hd (s<=x.w)/\True/\((s:Int)=0/\zu (fun(k:Nat)=>x.b.g (x.b.q+k)) x.at_ s=0/\True)/\Bh x.b/\True)/\(∀s:Nat,Hd (s<=x.w)->cP (decide ((s:Int)<(x.w:Int))) (I64 ((x.at_:Int)+(s:Int))/\(0<=(x.at_:Int)+(s:Int)/\(x.at_:Int)+(s:Int)<(x.b.n:Int))/\x.b.q+Int.toNat ((x.at_:Int)+(s:Int))<x.b.N/\I64 (8*(s:Int))/\0<=8*(s:Int)/\I64 ((s:Int)+1)/\ ∃s_1:Nat,Hd (s_1<=x.w)/\x.w-s_1<x.w-s/\((s_1:Int)=(s:Int)+1/\zu (fun(k:Nat)=>x.b.g (x.b.q+k)) x.at_ s_1=IntKind.wrap .u64 ((@BitVec.toNat 64 (@HOr.hOr (@BitVec 64) (@BitVec 64) (@BitVec 64) (@instHOrOfOrOp (@BitVec 64) (@BitVec.instOrOp 64)) (@BitVec.ofInt 64 (zu (fun(k:Nat)=>x.b.g (x.b.q+k)) x.at_ s)) (@BitVec.ofInt 64 (IntKind.wrap .u64 (IntKind.wrap .u64 (x.b.g (x.b.q+Int.toNat ((x.at_:Int)+(s:Int))))* @HPow.hPow Int Nat Int (@instHPow Int Nat (@instPowNat Int @Int.instNatPow)) (2:Int) (@Min.min Nat @instMinNat (Int.toNat (8*(s:Int))) 64))))):Nat):Int)/\True)/\Bh x.b/\True) (∃y:Unit,True/\(zu (fun(k:Nat)=>x.b.g (x.b.q+k)) x.at_ x.w=zu (fun(k:Nat)=>x.b.g (x.b.q+k)) x.at_ s/\(0:Int)=0/\True)/\Bh x.b/\True))/\True)))
theorem aqm(x:I4):auh x=wpF Tryz.prog [] tt (awQ x) 200 5 228 (auc.args x) (hO auc.k (auc.os x)) (fun v h'=>fA auc.k x v h' auc.outs):=by kernel_rfl
def alO(x:Dl):Prop:=
 ((0:Int)<=64/\(0:Int)<=0/\(0:Int)<=281474976710592/\(0:Int)<=4611686018427387839)/\((0:Int)<=0/\(0:Int)<=63)/\0<64/\(aee x.b.key/\aed x.b.kind/\WV x.b.cls)/\((0:Int)<=1/\(0:Int)<=62)/\1<64/\(aee x.b.key/\WV x.b.kind)/\((0:Int)<=2/\(0:Int)<=61)/\2<64/\(aee x.b.key/\True)/\((0:Int)<=3/\(0:Int)<=60)/\3<64/\True/\ ∃x_1:FI,ahG x_1/\(EC/\(x_1.at_:Int)=4/\(x_1.w:Int)=2/\x_1.v=IntKind.wrap .u64 (x.b.value.size:Int)/\True)/\((64=64/\ ∀q:Nat,q<64->[Value.int .u8 (x_1.g q)]=Cs.eff (fun(x_2:Nat)=>[Value.int .u8 0]) [(3,[Value.int .u8 (IntKind.wrap .u8 (x.b.key.size:Int))]),(2,[Value.int .u8 (IntKind.wrap .u8 x.b.kind)]),(1,[Value.int .u8 (IntKind.wrap .u8 x.b.cls)]),(0,[Value.int .u8 1])] q)/\True)/\ ∀y:Unit,True-> ∃x_2:FI,ahG x_2/\(EC/\(x_2.at_:Int)=8/\(x_2.w:Int)=8/\x_2.v=x.b.id/\True)/\WX x_2 x_1/\ ∀y_1:Unit,True-> ∃x_3:FI,ahG x_3/\(EC/\(x_3.at_:Int)=16/\(x_3.w:Int)=8/\x_3.v=x.b.ver/\True)/\WX x_3 x_2/\ ∀y_2:Unit,True-> ∃x_4:FI,ahG x_4/\(EC/\(x_4.at_:Int)=24/\(x_4.w:Int)=8/\x_4.v=x.b.epoch/\True)/\WX x_4 x_3/\ ∀y_3:Unit,True->(0:Int)<=32/\(0<=32/\32<=64/\64<=64)/\32<=64/\ ∃n:Nat,∃g: ∀a:Nat,Int,32=n/\n<1099511627776/\(∀k:Nat,k<n->[Value.int .u8 (qX x_4.g x_4.at_ x_4.w x_4.v (0+k))]=[Value.int .u8 (g k)])/\(∀k:Nat,0<=g k/\g k<256)/\ ∃x_5:atF,Hd (U32 x_5.c/\x_5.b.ok)/\(x_5.c=pV (0:Int) g n/\(x_5.b.q=x.d.q/\x_5.b.n=x.d.n)/\True)/\((x_5.b.N=x.d.N/\ ∀q:Nat,q<x_5.b.N->[Value.int .u8 (x_5.b.g q)]=[Value.int .u8 (x.d.g q)])/\True)/\
 ∀y_4:Unit,True-> ∃x_6:FI,ahG x_6/\(EC/\(x_6.at_:Int)=32/\(x_6.w:Int)=4/\x_6.v=IntKind.wrap .u64 (pV x_5.c (fun(k:Nat)=>x_5.b.g (x_5.b.q+k)) x_5.b.n)/\True)/\WX x_6 x_4/\ ∀y_5:Unit,True->(0:Int)<=36/\(36<=64/\64<=64/\64<=64)/\64<=64/\cP (Nat.ble x.d.n 28) (x.d.q+x.d.n<=x.d.N/\(∀k:Nat,k<x.d.n->alM x.d k)/\ ∃y_6:Unit,True/\EC/\Bh x.d/\(64=64/\ ∀q:Nat,q<64->[Value.int .u8 (x.b.kT (fun(k:Nat)=>x.d.g (x.d.q+k)) x.d.n q)]=Cs.eff (fun(p:Nat)=>cond (Nat.ble 36 p&&Nat.blt p (36+x.d.n)) [Value.int .u8 (x.d.g (x.d.q+(p-36)))] [Value.int .u8 (qX x_6.g x_6.at_ x_6.w x_6.v p)]) [] q)/\True) (x.d.q+28<=x.d.N/\(∀k:Nat,k<28->alM x.d k)/\ ∃y_6:Unit,True/\EC/\Bh x.d/\(64=64/\ ∀q:Nat,q<64->[Value.int .u8 (x.b.kT (fun(k:Nat)=>x.d.g (x.d.q+k)) x.d.n q)]=Cs.eff (fun(p:Nat)=>cond (Nat.ble 36 p&&Nat.blt p 64) [Value.int .u8 (x.d.g (x.d.q+(p-36)))] [Value.int .u8 (qX x_6.g x_6.at_ x_6.w x_6.v p)]) [] q)/\True)
theorem alP(x:Dl):alO x=wpF Tryz.prog awR tt (noA x) 200 5 114 (Ii.args x) (hO Ii.k (Ii.os x)) (fun v h'=>fA Ii.k x v h' Ii.outs):=by kernel_rfl
def alQ(x:FI):Prop:=
 ∃x_1:xK,Hd x_1.ok/\((x_1.b.q=0/\x_1.b.n=64/\x_1.c=64)/\(x_1.at_:Int)=(x.at_:Int)/\(x_1.w:Int)=(x.w:Int)/\x_1.v=x.v/\True)/\((x_1.b.N=64/\ ∀q:Nat,q<x_1.b.N->[Value.int .u8 (x_1.b.g q)]=[Value.int .u8 (x.g q)])/\True)/\ ∀y:Unit,True->64<=64/\cP (Nat.ble x_1.b.n 64) (0+x_1.b.n<=x_1.b.n/\(∀k:Nat,k<x_1.b.n->alN x_1 k)/\ ∃y_1:Unit,True/\True/\(64=64/\ ∀q:Nat,q<64->[Value.int .u8 (qX x.g x.at_ x.w x.v q)]=Cs.eff (fun(p:Nat)=>cond (Nat.ble 0 p&&Nat.blt p (0+x_1.b.n)) [Value.int .u8 (x_1.res (0+(p-0)))] [Value.int .u8 (x.g p)]) [] q)/\True) (64<=x_1.b.n/\(∀k:Nat,k<64->alN x_1 k)/\ ∃y_1:Unit,True/\True/\(64=64/\ ∀q:Nat,q<64->[Value.int .u8 (qX x.g x.at_ x.w x.v q)]=Cs.eff (fun(p:Nat)=>cond (Nat.ble 0 p&&Nat.blt p 64) [Value.int .u8 (x_1.res (0+(p-0)))] [Value.int .u8 (x.g p)]) [] q)/\True)
theorem alR(x:FI):alQ x=wpF Tryz.prog tblB0 tt (noA x) 200 5 169 (aa2.args x) (hO aa2.k (aa2.os x)) (fun v h'=>fA aa2.k x v h' aa2.outs):=by kernel_rfl
theorem tN{b:Bool}{x y:Prop}:cP b x y↔(b=true->x)/\(b=false->y):=⟨fun h=>by cases b with
 |true=>exact⟨fun _=>h,fun e=>nomatch e⟩
 |false=>exact⟨fun e=>(nomatch e),fun _=>h⟩,fun h=>bg h.1 h.2⟩
theorem aa3(x:FI)(hx:x.at_+x.w<=64/\1<=x.w/\x.w<=8/\0<=x.v/\x.v<256^x.w/\ ∀k,0<=x.g k/\x.g k<256):alQ x:=by
 obtain⟨h1,h2,h3,h4,h5,h6⟩:=hx
 have e1:Nat.ble 64 64=true:=rfl
 unfold alQ
 simp only[alN]
 simp only[aY,aU,aT,ay,aH,bP,bC,aN,aJ,au,aW,aV,bQ,bF,bG,bH,bT,bf,bJ,aZ,dZ,aG,aK,ah,aj,aA,aC,aB,aF]
 simp only[tN]
 refine⟨⟨⟨x.g,0,64,64⟩,x.at_,x.w,x.v,64⟩,⟨⟨by simp,by simp,h6⟩,h1,h2,h3,h4,h5⟩,⟨⟨rfl,rfl,rfl⟩,rfl,rfl,rfl⟩,⟨rfl,fun q _=>rfl⟩,?_⟩
 have key: ∀q,q<64->qX x.g x.at_ x.w x.v q=bif Nat.blt q 64 then(xK.mk ⟨x.g,0,64,64⟩ x.at_ x.w x.v 64).res q else x.g q:=fun q hq=>by
  rw[bW.2 hq,aO]
  simp only[xK.res,ay]
 exact⟨aX _,fun _=>⟨aX _,fun q hq=>key q hq⟩,fun h=>absurd (show Nat.ble 64 64=false from h) (by decide)⟩
theorem alS{g:Nat->Int}(hg: ∀k,0<=g k/\g k<256)(a:Nat): ∀w,0<=zu g a w/\zu g a w<256^w
 |0=>⟨Int.le_refl _,by show(0:Int)<256^0;decide⟩
 |w+1=>by
  have ih:=alS hg a w
  have h:=hg (a+w)
  have hp:(0:Int)<256^w:=Int.pow_pos (by omega)
  simp only[zu]
  have h1:0<=g (a+w)*256^w:=Int.mul_nonneg h.1 (Int.le_of_lt hp)
  have h2:g (a+w)*256^w<=255*256^w:=Int.mul_le_mul_of_nonneg_right (by omega) (Int.le_of_lt hp)
  rw[Int.pow_succ]
  omega
theorem or64{a b:Int}{s:Nat}(ha:0<=a)(ha2:a<256^s)(hb:0<=b)(hb2:b<256)(hs:s<8):IntKind.u64.wrap (((BitVec.ofInt 64 a|||BitVec.ofInt 64 (IntKind.u64.wrap (b*256^s))).toNat:Nat):Int)=a+b*256^s:=by
 obtain⟨x,rfl⟩:=Int.eq_ofNat_of_zero_le ha
 obtain⟨y,rfl⟩:=Int.eq_ofNat_of_zero_le hb
 have hx:x<2^(8*s):=by
  rw[Nat.pow_mul]
  have:((256:Nat):Int)^s=((256^s:Nat):Int):=(Int.natCast_pow 256 s).symm
  have h2:(x:Int)<((256^s:Nat):Int):=by rw[<-this];exact ha2
  exact Int.ofNat_lt.1 h2
 have hy:y<256:=by omega
 have e1:(y:Int)*256^s=((y*2^(8*s):Nat):Int):=by rw[Nat.pow_mul,show(2:Nat)^8=256 from rfl,Int.natCast_mul,Int.natCast_pow];rfl
 have hp:2^(8*s)<=2^56:=Nat.pow_le_pow_right (by decide) (by omega)
 have hlt:y*2^(8*s)<2^64:=by
  have:y*2^(8*s)<=255*2^56:=Nat.mul_le_mul (by omega) hp
  omega
 have hor:x|||y*2^(8*s)=x+y*2^(8*s):=by
  rw[Nat.or_comm,Nat.add_comm,<-Nat.shiftLeft_eq,Nat.shiftLeft_add_eq_or_of_lt hx]
 have hx64:x<2^64:=by omega
 have hsum:x+y*2^(8*s)<2^64:=by
  have:y*2^(8*s)<=255*2^(8*s):=Nat.mul_le_mul_right _ (by omega)
  omega
 have hw: ∀n:Nat,n<2^64->IntKind.u64.wrap (n:Int)=(n:Int):=fun n hn=>by
  unfold IntKind.wrap
  simp only[IntKind.bits,IntKind.signed]
  have:(n:Int)%(2^64)=n:=Int.emod_eq_of_lt (by omega) (by omega)
  simpa using this
 rw[e1,hw _ hlt,show BitVec.ofInt 64 ((x:Nat):Int)=BitVec.ofNat 64 x from BitVec.ofInt_natCast ..,show BitVec.ofInt 64 ((y*2^(8*s):Nat):Int)=BitVec.ofNat 64 (y*2^(8*s)) from BitVec.ofInt_natCast ..,BitVec.toNat_or,BitVec.toNat_ofNat,BitVec.toNat_ofNat,Nat.mod_eq_of_lt hx64,Nat.mod_eq_of_lt hlt,hor,hw _ hsum]
 omega
theorem aqn{z:Int}(h:0<=z/\z<256):IntKind.u64.wrap z=z:=by
 unfold IntKind.wrap
 simp only[IntKind.bits,IntKind.signed]
 have:z%(2^64)=z:=Int.emod_eq_of_lt (by omega) (by omega)
 simpa using this
theorem ahH(x:I4)(hx:x.b.ok/\x.at_+x.w<=x.b.n/\1<=x.w/\x.w<=8):auh x:=by
 obtain⟨⟨h1,h2,h3⟩,h4,h5,h6⟩:=hx
 unfold auh
 simp only[alL,Bh]
 simp only[aY,aU,aT,ay,aH,bP,bC,aN,aJ,au,aW,aV,bQ,bF,bG,bH,bT,bf,bJ,aZ,dZ,aG,aK,ah,aj,aA,aC,aB,aF]
 refine bg (fun h=>absurd (aQ h) (by omega)) fun _=>bg (fun h=>absurd (aQ h) (by omega)) fun _=>⟨by unfold I64;omega,bg (fun h=>absurd (aQ h) (by omega)) fun _=>⟨⟨0,by omega,rfl,rfl⟩,fun s hs=>bg (fun h=> ?_) fun h=> ?_⟩⟩
 ·have hs':s<x.w:=by have:=aQ h;omega
  refine⟨by unfold I64;omega,⟨by omega,by omega⟩,by omega,by unfold I64;omega,by omega,by unfold I64;omega,s+1,by omega,by omega,by omega,?_⟩
  have hb:=alS (g:=fun k=>x.b.g (x.b.q+k)) (fun k=>h3 _) x.at_ s
  rw[show((x.at_:Int)+(s:Int)).toNat=x.at_+s by omega,aqn (h3 _),Z7 (by omega),or64 hb.1 hb.2 (h3 _).1 (h3 _).2 (by omega)]
  rfl
 ·rw[show x.w=s by have:=aS h;omega]
theorem NJ(a b:ByteArray):(a.toList==b.toList)=true↔a=b:=by
 rw[beq_iff_eq]
 exact⟨fun h=>by rw[toList_data,toList_data]at h;cases a;cases b;simp at h;simp[h],fun h=>by rw[h]⟩
theorem ahI(b:dN)(hb:b.key.size<1099511627776/\b.value.size<1099511627776):aug b:=by
 unfold aug
 simp only[qZ,WW,aue,auf,aud,WV,WU,aed]
 simp only[aY,aU,aT,ay,aH,bP,bC,aN,aJ,au,aW,aV,bQ,bF,bG,bH,bT,bf,bJ,aZ,dZ,aG,aK,ah,aj,aA,aC,aB,aF]
 have hF: ¬b.may->b.Zi=false:=fun h=>by
  cases hm:b.Zi with
  |true=>exact absurd (Bg.1 hm) h
  |false=>rfl
 have hT:b.may->b.Zi=true:=Bg.2
 have hB: ∀x:Bool,(x=true↔b.may)->b.Zi=x:=fun x h=>by
  cases hx:x with
  |true=>exact hT (h.1 hx)
  |false=>exact hF fun hm=>by rw[h.2 hm]at hx;cases hx
 have n1:((b.key.size:Int)+((b.key.size:Int)+(b.value.size:Int)-(b.key.size:Int)))=((b.key.size+b.value.size:Nat):Int):=by omega
 have n2:((b.key.size:Int)+(b.value.size:Int)-(b.key.size:Int))=(b.value.size:Int):=by omega
 have kz:b.key=⟨#[]⟩->b.key.size=0:=fun h=>by rw[h];rfl
 have vz:b.value=⟨#[]⟩->b.value.size=0:=fun h=>by rw[h];rfl
 obtain⟨b1,b2⟩:=hb
 have ek:=NJ b.key ⟨#[]⟩
 have ev:=NJ b.value ⟨#[]⟩
 generalize hek:(b.key.toList==ByteArray.toList ⟨#[]⟩)=kk at ek ⊢
 generalize hev:(b.value.toList==ByteArray.toList ⟨#[]⟩)=vv at ev ⊢
 simp only[n1,n2,I64,beq_self_eq_true,aG,Bool.and_true]
 unfold dN.may dN.nums dN.num at hB hF hT
 clear hek hev
 generalize b.Zi=m at hB hF hT ⊢
 by_cases s0:spn b.cls=0
 ·rw[show(spn b.cls==0)=true from beq_iff_eq.2 s0]
  exact hF fun h=>h.1 s0
 rw[show(spn b.cls==0)=false from beq_eq_false_iff_ne.2 s0]
 refine⟨by omega,?_⟩
 by_cases k0:b.kind=0
 ·simp only[k0,beq_self_eq_true,lJ]
  exact hB _ (by grind)
 by_cases k1:b.kind=1
 ·simp only[k1,tN]
  simp only[k1]at hT hF
  clear hB ek ev kz vz
  grind (splits:=30)
 by_cases k2:b.kind=2
 ·by_cases hk:b.key=⟨#[]⟩
  ·have k0':=kz hk
   have n3:((0:Nat):Int)+(((0:Nat):Int)+(b.value.size:Int))=((0+b.value.size:Nat):Int):=by omega
   have hkk:=ek.2 hk
   simp only[k2,k0',hkk,hk,n3,tN]at hF hT ⊢
   clear hB ek ev kz vz
   grind (splits:=30)
  ·have hkk:kk=false:=by
    cases h:kk with
    |false=>rfl
    |true=>exact absurd (ek.1 h) hk
   simp only[k2,hkk,tN]at hT hF ⊢
   clear hB ek ev kz vz
   grind
 by_cases k3:b.kind=3
 ·simp only[k3,tN]
  simp only[k3]at hT hF
  clear hB ek ev kz vz
  grind (splits:=30)
 ·rw[show(b.kind==0)=false from beq_eq_false_iff_ne.2 k0,show(b.kind==1)=false from beq_eq_false_iff_ne.2 k1,show(b.kind==2)=false from beq_eq_false_iff_ne.2 k2,show(b.kind==3)=false from beq_eq_false_iff_ne.2 k3]
  exact hF (by grind)
theorem jZ{z:Int}(h:0<=z)(h2:z<18446744073709551616):IntKind.u64.wrap z=z:=by
 unfold IntKind.wrap
 simp only[IntKind.bits,IntKind.signed]
 have:z%(2^64)=z:=Int.emod_eq_of_lt h (by omega)
 simpa using this
theorem aui(b:dN)(q:Nat):qX (qX (qX (qX (fun q=>if q=0 then 1 else if q=1 then b.cls else if q=2 then b.kind else if q=3 then(b.key.size:Int)else 0) 4 2 b.value.size) 8 8 b.id) 16 8 b.ver) 24 8 b.epoch q=b.h32 q:=by
 unfold qX dN.h32
 grind (splits:=30)
theorem aa4(x:Dl)(hx:x.ok):alO x:=by
 obtain⟨⟨d1,d2,d3⟩,dn,h1,h2,h3,h4,h5,h6,h7,h8,h9,h10,h11,h12⟩:=hx
 let g0:Nat->Int:=fun q=>if q=0 then 1 else if q=1 then x.b.cls else if q=2 then x.b.kind else if q=3 then(x.b.key.size:Int)else 0
 have hg0: ∀k,0<=g0 k/\g0 k<256:=fun k=>by simp only[g0];grind
 let g1:=qX g0 4 2 x.b.value.size
 have hg1: ∀k,0<=g1 k/\g1 k<256:=C9 hg0 _ _ _
 let g2:=qX g1 8 8 x.b.id
 have hg2: ∀k,0<=g2 k/\g2 k<256:=C9 hg1 _ _ _
 let g3:=qX g2 16 8 x.b.ver
 have hg3: ∀k,0<=g3 k/\g3 k<256:=C9 hg2 _ _ _
 let g4:=qX g3 24 8 x.b.epoch
 have hg4: ∀k,0<=g4 k/\g4 k<256:=C9 hg3 _ _ _
 have e4: ∀q,g4 q=x.b.h32 q:=fun q=>aui x.b q
 have hU1:=adz 0 g4 32
 have hU:=adz (pV 0 g4 32) (fun k=>x.d.g (x.d.q+k)) x.d.n
 have w1:IntKind.u64.wrap (x.b.value.size:Int)=x.b.value.size:=jZ (by omega) (by omega)
 have w2:IntKind.u64.wrap (pV (pV 0 g4 32) (fun k=>x.d.g (x.d.q+k)) x.d.n)=pV (pV 0 g4 32) (fun k=>x.d.g (x.d.q+k)) x.d.n:=jZ hU.1 (by have:=hU.2;omega)
 have ub: ∀z:Int,0<=z->z<256->IntKind.u8.wrap z=z:=fun z a b=>by rw[asj];exact Int.emod_eq_of_lt a b
 have fin: ∀q,q<64->x.b.kT (fun k=>x.d.g (x.d.q+k)) x.d.n q=if 36<=q then x.d.g (x.d.q+(q-36))else qX g4 32 4 (pV (pV 0 g4 32) (fun k=>x.d.g (x.d.q+k)) x.d.n) q:=fun q hq=>by
  unfold dN.kT
  have ea:pV 0 g4 32=pV 0 x.b.h32 32:=CZ fun k _=>e4 k
  rw[ea]
  unfold qX
  by_cases q1:q<32
  ·rw[if_pos q1,if_neg (by omega),if_neg (by omega),e4]
  ·rw[if_neg q1]
   by_cases q2:q<36
   ·rw[if_pos q2,if_neg (by omega),if_pos (by omega)]
   ·rw[if_neg q2,if_pos (by omega)]
 unfold alO
 simp only[aee,aed,WV,ahG,EC,WX,alM,Bh]
 simp only[aY,aU,aT,ay,aH,bP,bC,aN,aJ,au,aW,aV,bQ,bF,bG,bH,bT,bf,bJ,aZ,dZ,aG,aK,ah,aj,aA,aC,aB,aF,w1,ub _ h3 h4,ub _ h5 h6,ub _ (show(0:Int)<=x.b.key.size by omega) (show(x.b.key.size:Int)<256 by omega)]
 refine⟨by decide,by decide,by decide,by decide,by decide,by decide,by decide,by decide,by decide,
  ⟨g0,4,2,x.b.value.size⟩,⟨show 4+2<=64 by decide,show 1<=2 by decide,show 2<=8 by decide,show(0:Int)<=x.b.value.size by omega,show(x.b.value.size:Int)<256^2 by omega,hg0⟩,⟨rfl,rfl,rfl⟩,fun q _=> ?_,
  ⟨g1,8,8,x.b.id⟩,⟨show 8+8<=64 by decide,show 1<=8 by decide,show 8<=8 by decide,h7,h8,hg1⟩,⟨rfl,rfl,rfl⟩,fun q _=>rfl,
  ⟨g2,16,8,x.b.ver⟩,⟨show 16+8<=64 by decide,show 1<=8 by decide,show 8<=8 by decide,h9,h10,hg2⟩,⟨rfl,rfl,rfl⟩,fun q _=>rfl,
  ⟨g3,24,8,x.b.epoch⟩,⟨show 24+8<=64 by decide,show 1<=8 by decide,show 8<=8 by decide,h11,h12,hg3⟩,⟨rfl,rfl,rfl⟩,fun q _=>rfl,
  by decide,by decide,by decide,32,g4,rfl,by decide,fun k _=>rfl,hg4,⟨pV 0 g4 32,x.d⟩,⟨hU1,d1,d2,d3⟩,⟨rfl,rfl,rfl⟩,⟨rfl,fun q _=>rfl⟩,
  ⟨g4,32,4,pV (pV 0 g4 32) (fun k=>x.d.g (x.d.q+k)) x.d.n⟩,⟨show 32+4<=64 by decide,show 1<=4 by decide,show 4<=8 by decide,hU.1,hU.2,hg4⟩,⟨rfl,rfl,w2.symm⟩,fun q _=>rfl,?_⟩
 ·simp only[Cs.eff,cO,dR,dQ,eX,<-Bool.decide_and,g0]
  split
  ·grind
  ·grind
 ·simp only[tN]
  refine⟨by decide,by decide,by decide,fun hb=>⟨d1,fun q hq=> ?_⟩,fun hb=>⟨by omega,fun q hq=> ?_⟩⟩
  ·rw[fin q hq]
   have hn:x.d.n=28:=by have:=Nat.le_of_ble_eq_true hb;omega
   simp only[Cs.eff,cO,dR,dQ,eX,<-Bool.decide_and,hn]
   grind
  ·rw[fin q hq]
   simp only[Cs.eff,cO,dR,dQ,eX,<-Bool.decide_and]
   grind
theorem asx:bZ Tryz.prog 229 asw:=dV dB mixed (.cons (bU mX) (.cons (bU ak4) .nil)) noA 200 5 (fun _=>rfl) (fun _=>rfl) fun x hx=>Eq.mp (aql x) (ahI x (aY.1 hx))
theorem awS:bZ Tryz.prog 228 auc:=dV dB mixed .nil awQ 200 5 (fun _=>rfl) (fun _=>rfl) fun x hx=>Eq.mp (aqm x) (ahH x (aY.1 hx))
theorem auj:bZ Tryz.prog 169 aa2:=dV dB mixed (.cons (bU asl) .nil) noA 200 5 (fun _=>rfl) (fun _=>rfl) fun x hx=>Eq.mp (alR x) (aa3 x (aY.1 hx))
theorem aqo:fJ Tryz.prog awR:= .cons adA (.cons (bU asi) (.cons (bU auj) .nil))
theorem auk:bZ Tryz.prog 114 Ii:=dV dB mixed aqo noA 200 5 (fun _=>rfl) (fun _=>rfl) fun x hx=>Eq.mp (alP x) (aa4 x (aY.1 hx))
noncomputable def aqp:Ctr:={X:=dN,args:=fun b=>[b.av],k:=0,os:=fun _=>[],pre:=fun b=>Hd (b.may/\b.key.size<1099511627776/\b.value.size<1099511627776),outs:=[
 {Y:=Unit,post:=fun b _=>Hd (b.cls=0),ret:=fun _ _=> .tup [.slE 0 0 1 64 64,i64 0],m:=1,os:=fun b _=>[.cells 5 (rowB b.enc 64)]},
 {Y:=Unit,post:=fun b _=>Hd (b.cls≠0),ret:=fun b _=> .tup [.slW 0 0 1 (64*b.dJ),i64 0],m:=1,os:=fun b _=>[.room 5 (rowB b.enc (64*b.dJ))]}]}
noncomputable def awT(x:dN):FuncId->tK:=fun f=>bif Nat.beq f 180 then(fun b _ _=>bif Nat.beq b 0 then [
 {σ:=Unit,fr:=fun _=>[(31,i64 0),(4,.slE 1 28 1 (x.jD-28) (x.jD-28)),(5,.slE 2 0 1 64 64)],ob:=fun _=>[],inv:=fun _=>Hd True,meas:=fun _=>x.dJ+1,test:=fun fr _=>(match SE.look fr 5 with| .slE .. =>true|_=>false)},
 {σ:=Nat,fr:=fun i=>[(31,i64 i),(4,.slE 1 (28+63*i) 1 (x.jD-28-63*i) (x.jD-28-63*i)),(5,.slW 3 0 1 (64*(i+1)))],ob:=fun i=>[(3,some (.room 5 (rowB x.enc (64*(i+1)))))],inv:=fun i=>Hd (1<=i/\i+1<=x.dJ),meas:=fun i=>x.dJ-i,nx:=1,test:=fun fr _=>(match SE.look fr 5 with| .slE .. =>false|_=>true)}]else [])else fun _ _ _=>[]
noncomputable def I5:Ctr:=det Int (fun c=>[i64 c]) 0 (fun _=>[]) (fun c=>Hd (0<=c/\c<=3)) (fun _=> .slE 0 0 1 64 64) 1 (fun c=>[.cells 5 (rowB ((dN.mk c 0 0 0 0 ⟨#[]⟩ ⟨#[]⟩).kT (fun _=>0) (cpc c).toNat) 64)])
structure ED where
 b:Bys
 s:Nat
def ED.at_(x:ED)(i:Nat):Int:=if i<28 then x.b.g (x.b.q+(36+i))else x.b.g (x.b.q+(64*((i-28)/63+1)+1+(i-28)%63))
def ED.str(x:ED):ByteArray:=mkStr (28+63*(x.s-1)) (fun i=>UInt8.ofNat (x.at_ i).toNat)
def aa5:Ctr:=det ED (fun x=>[x.b.av 0]) 1 (fun x=>[x.b.ro]) (fun x=>Hd (x.b.ok/\x.b.n=64*x.s/\1<=x.s/\x.s<=8)) (fun x=> .lit (.string x.str)) 1 (fun x=>[x.b.ro])
def asy(x:ED):FuncId->tK:=fun f=>bif Nat.beq f 179 then(fun b _ h=>bif Nat.beq b 0 then [
 {σ:=Unit,fr:=fun _=>[(4,i64 64),(3,.slW 2 0 1 28)],ob:=fun _=>[(2,some (.room 5 (rowB x.at_ 28)))],inv:=fun _=>Hd True,meas:=fun _=>x.s+1,test:=fun fr _=>(match SE.look fr 3 with| .slW i _ _ _=>Nat.beq i 2|_=>false)},
 {σ:=Nat,fr:=fun i=>[(4,i64 (64+64*i:Nat)),(3,.slW 3 0 1 (28+63*i))],ob:=fun i=>[(2,none),(3,some (.room 5 (rowB x.at_ (28+63*i))))],inv:=fun i=>Hd (1<=i/\i+1<=x.s),meas:=fun i=>x.s-i,nx:=1,test:=fun fr _=>(match SE.look fr 3 with| .slW i _ _ _=> !Nat.beq i 2|_=>false)}]else [])else fun _ _ _=>[]
structure alT where
 b:dN
 g:Nat->Int
noncomputable def aul:Ctr:=det alT (fun x=>[.slW 0 0 1 (64*x.b.dJ)]) 1 (fun x=>[.room 5 (rowB x.g (64*x.b.dJ))]) (fun x=>Hd (x.b.may/\x.b.key.size<1099511627776/\x.b.value.size<1099511627776/\ ∀k,k<64*x.b.dJ->x.g k=x.b.enc k)) (fun x=> .tup [x.b.av,boo true]) 1 (fun x=>[.room 5 (rowB x.g (64*x.b.dJ))])
noncomputable def aum:jY:=[(113,eG Aw),(115,eG aso),(229,eG asw),(114,eG Ii)]
noncomputable def awU:jY:=[(113,eG Aw),(228,eG auc),(179,eG aa5),(180,eG aqp)]
end Go.Proofs.YtenfleoejgjklaaGreat
end
