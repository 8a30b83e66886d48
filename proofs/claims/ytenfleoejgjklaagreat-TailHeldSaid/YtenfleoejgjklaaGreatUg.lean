import Derived.Test.YtenfleoejgjklaaGreatUa
import Derived.Test.YtenfleoejgjklaaGreatUb
import Derived.Test.YtenfleoejgjklaaGreatUc
import Derived.Test.YtenfleoejgjklaaGreatUd
import Derived.Test.YtenfleoejgjklaaGreatUe
import Derived.Test.YtenfleoejgjklaaGreatUf
import Derived.KernelRfl
set_option linter.unusedVariables false
set_option linter.unusedSimpArgs false
set_option linter.unnecessarySimpa false
section
namespace Go.Proofs.YtenfleoejgjklaaGreat
open Go SE
theorem Rq(x:ZEn)(hx:x.r.ok/\x.c.ok/\x.t<x.r.t/\x.r.has x.t=0):Rk x:=by
 obtain⟨h1,h2,h3,h4⟩:=hx
 unfold Rk
 simp only[bY,dD,dP,bM,kH,uj,EM,EN,aeR,Jq,aeM,aeQ,mZ,vM,rG,pz,rF]
 simp only[aY,aU,aT,ay,aH,bP,bC,aN,aJ,au,aW,aV,bQ,bF,bG,bH,bT,bf,bJ,aZ,dZ,aG,aK,ah,aj,aA,aC,aB,aF]
 refine⟨by decide,bg (fun h=> .inl (by have:=aQ h;omega)) fun h=>⟨⟨x.r,x.t⟩,⟨h1,h3⟩,rfl,rfl,fun _=>⟨x.c,h2,rfl,.inr ⟨by have:=aS h;omega,rfl,rfl,rfl⟩⟩,fun h'=>absurd h4 h'⟩⟩
theorem Rt(x:ZEn)(hx:x.r.ok/\x.c.ok/\x.t<x.r.t/\x.r.has x.t=0):Rl x:=by
 obtain⟨h1,h2,h3,h4⟩:=hx
 unfold Rl
 simp only[EN,bY,dD,dP,aeR,uj,Jq,aeM,EM,aeQ,bM,kH,rF,mZ,vM,rG,pz]
 simp only[aY,aU,aT,ay,aH,bP,bC,aN,aJ,au,aW,aV,bQ,bF,bG,bH,bT,bf,bJ,aZ,dZ,aG,aK,ah,aj,aA,aC,aB,aF]
 refine⟨by decide,⟨x.r,x.t⟩,⟨h1,h3⟩,rfl,rfl,fun _=>⟨x.c,h2,rfl,.inr ⟨fun e=>absurd e (by decide),rfl,rfl,rfl⟩⟩,fun h'=>absurd h4 h'⟩
theorem XT(x:ZFi)(hx:x.l.ok/\x.f.line= -1):Jt x:=by
 obtain⟨h1,h2⟩:=hx
 unfold Jt
 simp only[Jl,bY,dD,dP,bM,mZ,Oq,nI,pz,vM,kH,rF]
 simp only[aY,aU,aT,ay,aH,bP,bC,aN,aJ,au,aW,aV,bQ,bF,bG,bH,bT,bf,bJ,aZ,dZ,aG,aK,ah,aj,aA,aC,aB,aF]
 refine⟨by decide,x.l,h1,rfl,bg (fun h=>bg (fun h'=>absurd (aQ h') (by omega)) fun _=> .inl ?_) fun h=> .inr ?_⟩
 ·have hn:x.l.n=0:=by simpa using h
  rw[Bf hn]
  exact⟨hn,⟨by rw[hn];rfl,rfl,rfl,rfl,rfl,rfl⟩,rfl⟩
 ·have hn:x.l.n≠0:=by simpa using h
  exact⟨hn,⟨(decide_eq_true hn).symm,rfl,rfl,rfl,rfl,rfl⟩,rfl⟩
theorem aeZ{n:Nat}(h:n<=400):0<=ned n/\ned n<=3:=by
 unfold ned
 repeat' split
 all_goals omega
theorem XU{c:Int}(h:0<=c/\c<=3):spn c≠0:=by
 rcases dX c with h'|h'|h'|h'|h'<;>omega
theorem XV(x:ZTk)(hx:x.p.ok/\x.f.value.size<=400):abK x:=by
 obtain⟨h1,h2⟩:=hx
 have hc:x.c 4=ned x.f.value.size:=if_pos rfl
 have hz:=XU (aeZ h2)
 unfold abK
 simp only[vP,aeS,bY,dD,dP,bM,Js,Ou,qB,Ot,aeX,aeV,mZ,vM,kH,rF,Bz,vK,rG,pz]
 simp only[aY,aU,aT,ay,aH,bP,bC,aN,aJ,au,aW,aV,bQ,bF,bG,bH,bT,bf,bJ,aZ,dZ,aG,aK,ah,aj,aA,aC,aB,aF,hc]
 exact⟨by decide,⟨x.p,ned x.f.value.size⟩,h1,rfl,rfl,fun h=>absurd h hz,fun h=> .inl ⟨h.2,rfl,rfl⟩,fun y hy=> .inr ⟨y,hy.2,rfl,rfl⟩⟩
theorem XW(x:ZTk)(hx:x.p.ok/\x.f.value.size<=400):abL x:=by
 obtain⟨h1,h2⟩:=hx
 have hc:x.c 5=0:=if_neg (by decide)
 have hn:ned 0=0:=rfl
 unfold abL
 simp only[vP,aeT,bY,dD,dP,bM,Ou,qB,Ot,aeX,aeV,mZ,vM,kH,rF,Bz,vK,rG,pz]
 simp only[aY,aU,aT,ay,aH,bP,bC,aN,aJ,au,aW,aV,bQ,bF,bG,bH,bT,bf,bJ,aZ,dZ,aG,aK,ah,aj,aA,aC,aB,aF,hc,hn]
 exact⟨by decide,⟨x.p,0⟩,h1,rfl,rfl,fun h=>absurd (show spn 0=0 from h) (by decide),fun h=> .inl ⟨h.2,rfl,rfl⟩,fun y hy=> .inr ⟨y,hy.2,rfl,rfl⟩⟩
theorem Ru(x:ZLv)(hx:x.r.ok/\x.t<x.r.t):Rn x:=by
 unfold Rn
 simp only[aeY,aeW,vK,rG,pz,bY,dD,dP,bM,Jq,mZ,vM,kH,rF]
 simp only[aY,aU,aT,ay,aH,bP,bC,aN,aJ,au,aW,aV,bQ,bF,bG,bH,bT,bf,bJ,aZ,dZ,aG,aK,ah,aj,aA,aC,aB,aF]
 exact⟨by decide,⟨x.r,x.t⟩,hx,rfl,rfl,rfl⟩
theorem Rw(x:ZLv)(hx:x.r.ok/\x.t<x.r.t):Ro x:=by
 unfold Ro
 simp only[aeY,aeW,vK,rG,pz,bY,dD,dP,bM,Jq,mZ,vM,kH,rF]
 simp only[aY,aU,aT,ay,aH,bP,bC,aN,aJ,au,aW,aV,bQ,bF,bG,bH,bT,bf,bJ,aZ,dZ,aG,aK,ah,aj,aA,aC,aB,aF]
 exact⟨by decide,⟨x.r,x.t⟩,hx,rfl,rfl,rfl⟩
theorem anh{c:Int}(h:0<=c/\c<=3):dN.may ⟨c,0,0,0,0,⟨#[]⟩,⟨#[]⟩⟩:=⟨XU h,.inl ⟨rfl,rfl,rfl,rfl,rfl,rfl⟩⟩
theorem GR{c:Int}(h:0<=c/\c<=3)(k:Nat):0<=(dN.mk c 0 0 0 0 ⟨#[]⟩ ⟨#[]⟩).kT (fun _=>0) (cpc c).toNat k/\(dN.mk c 0 0 0 0 ⟨#[]⟩ ⟨#[]⟩).kT (fun _=>0) (cpc c).toNat k<256:=by
 have hd:(dN.mk c 0 0 0 0 ⟨#[]⟩ ⟨#[]⟩).dat=fun _=>0:=by
  funext i;unfold dN.dat;rw[if_neg];exact Nat.not_lt_zero i
 by_cases hk:k<64
 ·have:=vI (anh h) k
  unfold dN.enc at this
  rw[if_pos hk,hd]at this
  exact this
 ·unfold dN.kT
  rw[if_neg (by omega),if_neg (by omega)]
  exact⟨Int.le_refl 0,show(0:Int)<256 by decide⟩
theorem XY{x:ZWr}(h:x.p=0)(N:Nat):x.d'=(⟨x.d,x.ln,0,⟨x.draft.kT (fun _=>0) (cpc x.c).toNat,0,64,N⟩⟩:pW).d.store x.ln 0 64 (fun q=>x.draft.kT (fun _=>0) (cpc x.c).toNat (0+q)):=by
 unfold ZWr.d'
 rw[if_pos h,XC]
theorem Lj(x:ZWr)(hx:x.ok/\x.p=0):Ju x:=by
 obtain⟨⟨o1,o2,o3,o4,o5,o6,o7,o8⟩,hp⟩:=hx
 have hs:=dX x.c
 unfold Ju
 simp only[EK,EL,Oo,vO,aeP,nJ,Jm,aeN,aeO,bY,dD,dP,bM,jy,mZ,vM,kH,rF,rH,nI,pz,Bz,vK,rG,lW]
 simp only[aY,aU,aT,ay,aH,bP,bC,aN,aJ,au,aW,aV,bQ,bF,bG,bH,bT,bf,bJ,aZ,dZ,aG,aK,ah,aj,aA,aC,aB,aF]
 refine⟨by decide,x.c,⟨o2,o3⟩,rfl,⟨x.d,x.ln,0,⟨x.draft.kT (fun _=>0) (cpc x.c).toNat,0,64,64⟩⟩,⟨o1,by show x.ln<x.d.n;omega,⟨aX _,show 64<1099511627776 by decide,GR ⟨o2,o3⟩⟩,aX _⟩,⟨rfl,rfl,rfl,rfl⟩,⟨rfl,rfl,fun _ _=>rfl⟩,by unfold I64;omega,by unfold I64;omega,bg (fun h=> .inr ⟨beq_iff_eq.1 h,by first|exact congrArg (fun d=>bK (dS.os d)) (XY hp 64)|exact⟨rfl,congrArg (fun d=>bK (dS.os d)) (XY hp 64)⟩⟩) fun h=> .inl ⟨beq_eq_false_iff_ne.1 h,by first|exact congrArg (fun d=>bK (dS.os d)) (XY hp 64)|exact⟨rfl,congrArg (fun d=>bK (dS.os d)) (XY hp 64)⟩⟩⟩
theorem Ll(x:ZWr)(hx:x.ok/\x.p=0):Jv x:=by
 obtain⟨⟨o1,o2,o3,o4,o5,o6,o7,o8⟩,hp⟩:=hx
 have hs:=dX x.c
 unfold Jv
 simp only[EK,EL,Oo,vO,aeP,nJ,Jm,aeN,aeO,bY,dD,dP,bM,jy,mZ,vM,kH,rF,rH,nI,pz,Bz,vK,rG,lW]
 simp only[aY,aU,aT,ay,aH,bP,bC,aN,aJ,au,aW,aV,bQ,bF,bG,bH,bT,bf,bJ,aZ,dZ,aG,aK,ah,aj,aA,aC,aB,aF]
 refine⟨by decide,x.c,⟨o2,o3⟩,rfl,⟨x.d,x.ln,0,⟨x.draft.kT (fun _=>0) (cpc x.c).toNat,0,64,64⟩⟩,⟨o1,by show x.ln<x.d.n;omega,⟨aX _,show 64<1099511627776 by decide,GR ⟨o2,o3⟩⟩,aX _⟩,⟨rfl,rfl,rfl,rfl⟩,⟨rfl,rfl,fun _ _=>rfl⟩,by unfold I64;omega,by unfold I64;omega,bg (fun h=> .inr ⟨beq_iff_eq.1 h,by first|exact congrArg (fun d=>bK (dS.os d)) (XY hp 64)|exact⟨rfl,congrArg (fun d=>bK (dS.os d)) (XY hp 64)⟩⟩) fun h=> .inl ⟨beq_eq_false_iff_ne.1 h,by first|exact congrArg (fun d=>bK (dS.os d)) (XY hp 64)|exact⟨rfl,congrArg (fun d=>bK (dS.os d)) (XY hp 64)⟩⟩⟩
theorem au1(v:ByteArray):(⟨#[]⟩:ByteArray)++v=v:=by
 have: ∀a:ByteArray,a=⟨a.data⟩:=fun a=>rfl
 apply ByteArray.ext
 simp
theorem ani{s:ByteArray}{a k:Nat}(hk:a+k<s.size):gG (s.extract a s.size) k=gG s (a+k):=by
 unfold gG
 rw[ByteArray.data_extract]
 have h1:a+k<s.data.size:=hk
 simp only[List.getD_eq_getElem?_getD,Array.getElem?_toList,Array.getElem?_extract]
 rw[if_pos (by have:s.size=s.data.size:=rfl;omega)]
theorem ae0(x:dN){m:Nat}(h:64<=m):0<=x.enc m/\x.enc m<256:=by
 unfold dN.enc
 rw[if_neg (by omega)]
 split
 ·decide
 ·exact QU _ _
theorem asD(x:ZWr){t q o B:Nat}(hq:q<64)(ho:o=min (28+63*t) x.f.value.size)(hB:(x.f.value.extract o x.f.value.size).size<=63/\B=1+(x.f.value.extract o x.f.value.size).size\/63<(x.f.value.extract o x.f.value.size).size/\B=64):[Value.int .u8 (x.blk.enc (64*(t+1)+q))]=bif Nat.ble 1 q&&Nat.blt q B then [Value.int .u8 (gG (x.f.value.extract o x.f.value.size) (q-1))]else Cs.eff (fun _=>[Value.int .u8 0]) [(0,[Value.int .u8 2])] q:=by
 have hsz:(x.f.value.extract o x.f.value.size).size=x.f.value.size-o:=by rw[ByteArray.size_extract];omega
 rw[hsz]at hB
 rw[QS _ _ _ hq]
 unfold dN.dat
 rw[show x.blk.key++x.blk.value=x.f.value from au1 _]
 by_cases h0:q=0
 ·subst h0;rfl
 ·rw[if_neg h0]
  by_cases h1:28+63*t+(q-1)<x.f.value.size
  ·rw[if_pos h1,show(Nat.ble 1 q&&Nat.blt q B)=true by rw[cO,Nat.ble_eq_true_of_le (by omega)];simp;omega,aO,ani (by omega),show o=28+63*t by omega]
  ·rw[if_neg h1,show(Nat.ble 1 q&&Nat.blt q B)=false by rw[cO,Nat.ble_eq_true_of_le (by omega)];simp;omega,aP]
   show _=bif Nat.beq q 0 then _ else _
   rw[dQ,decide_eq_false h0];rfl
theorem aqY{x:ZWr}(h:x.p≠0)(N:Nat):x.d'=(⟨x.d,x.ln+x.p,0,⟨fun q=>x.blk.enc (64*x.p+q),0,64,N⟩⟩:pW).d.store (x.ln+x.p) 0 64 (fun q=>(fun q=>x.blk.enc (64*x.p+q)) (0+q)):=by
 unfold ZWr.d'
 rw[if_neg h]
 exact(XC _ _ _ _ (fun q=>x.blk.enc (64*x.p+q))).symm
theorem Lm(x:ZWr)(hx:x.ok/\x.p≠0):Jw x:=by
 obtain⟨⟨o1,o2,o3,o4,o5,o6,o7,o8⟩,hp⟩:=hx
 have hs:=dX x.c
 obtain⟨t,ht⟩: ∃t,x.p=t+1:=⟨x.p-1,by omega⟩
 have hn:=o1.1
 have e1:(G5 (imax (28+((x.p:Int)-1)*63) 0) x.f.value.size).toNat=min (28+63*t) x.f.value.size:=by unfold G5 imax;omega
 have e0:0<=G5 (imax (28+((x.p:Int)-1)*63) 0) x.f.value.size:=by unfold G5 imax;omega
 unfold Jw
 simp only[EK,EL,Oo,am5,Jm,nJ,am6,am4,ane,lW,am7,bY,dD,dP,bM,jy,mZ,vM,kH,rF,yu,rH,nI,pz,Bz,vK,rG]
 simp only[aY,aU,aT,ay,aH,bP,bC,aN,aJ,au,aW,aV,bQ,bF,bG,bH,bT,bf,bJ,aZ,dZ,aG,aK,ah,aj,aA,aC,aB,aF,e1]
 refine⟨by decide,bg (fun h=>absurd (beq_iff_eq.1 h) (by omega)) fun _=>⟨by decide,by decide,by decide,by unfold I64;omega,by unfold I64;omega,by unfold I64;omega,by decide,by decide,e0,⟨Nat.min_le_right _ _,aX _⟩,by decide,bg (fun h=> ?_) fun h=> ?_⟩⟩
 ·refine⟨by unfold I64;omega,⟨x.d,x.ln+x.p,0,⟨fun q=>x.blk.enc (64*x.p+q),0,64,64⟩⟩,⟨o1,by show x.ln+x.p<x.d.n;omega,⟨aX _,show 64<1099511627776 by decide,fun k=>ae0 _ (by omega)⟩,aX _⟩,⟨rfl,rfl,rfl,rfl⟩,⟨rfl,rfl,fun q hq=> ?_⟩,by unfold I64;omega,by unfold I64;omega,bg (fun h=> .inr ⟨beq_iff_eq.1 h,congrArg (fun d=>bK (dS.os d)) (aqY hp 64)⟩) fun h=> .inl ⟨beq_eq_false_iff_ne.1 h,congrArg (fun d=>bK (dS.os d)) (aqY hp 64)⟩⟩
  rw[ht];exact asD x hq rfl (.inl ⟨Nat.le_of_ble_eq_true h,rfl⟩)
 ·refine⟨by unfold I64;omega,⟨x.d,x.ln+x.p,0,⟨fun q=>x.blk.enc (64*x.p+q),0,64,64⟩⟩,⟨o1,by show x.ln+x.p<x.d.n;omega,⟨aX _,show 64<1099511627776 by decide,fun k=>ae0 _ (by omega)⟩,aX _⟩,⟨rfl,rfl,rfl,rfl⟩,⟨rfl,rfl,fun q hq=> ?_⟩,by unfold I64;omega,by unfold I64;omega,bg (fun h=> .inr ⟨beq_iff_eq.1 h,congrArg (fun d=>bK (dS.os d)) (aqY hp 64)⟩) fun h=> .inl ⟨beq_eq_false_iff_ne.1 h,congrArg (fun d=>bK (dS.os d)) (aqY hp 64)⟩⟩
  rw[ht];exact asD x hq rfl (.inr ⟨Nat.not_le.1 fun hh=>(by rw[Nat.ble_eq_true_of_le hh]at h;cases h),rfl⟩)
theorem re_b{b:dN}(h:b.may)(hk:b.kind=2):b.key=⟨#[]⟩/\b.value.size<=400:=by
 rcases h.2 with h|h|h|h<;>first|(exfalso;have:=h.1;omega)|exact⟨h.2.1,h.2.2.1⟩
noncomputable def ZRe.de(x:ZRe):ZDe:=⟨x.b.cls,x.b.id,x.b.ver,x.b.epoch,x.b.value,x.b.enc⟩
theorem au2{x:ZRe}(h:x.b.may)(hk:x.b.kind=2):x.de.b=x.b:=by
 have:=(re_b h hk).1
 unfold ZRe.de ZDe.b
 rw[<-hk,<-this]
theorem XZ(x:ZRe)(hx:x.ok/\x.p=0):abO x:=by
 obtain⟨⟨o1,o2,o3,o4,o5,o6⟩,hp⟩:=hx
 have hs:=kU x.b
 have h1:=qA o2
 have hde:=au2 o2 o3
 have hv:=re_b o2 o3
 have hn:=o1.1
 have by_: ∀q,q<64->x.b.enc q=x.d.b (x.ln*193+q):=fun q hq=>by
  rw[<-o6 q (by omega),show q/64=0 by omega,show q%64=q by omega,aH]
 unfold abO
 simp only[Jr,lW,vO,bY,dD,dP,bM,jy,vM,rH,nI,Jp,anf,BD,Jo,XL,aeU,ang,Rj,XK,am9,Jl,kH,am8,Om,rF,Rh,Ri,pz,Bz,vK,rG]
 simp only[aY,aU,aT,ay,aH,bP,bC,aN,aJ,au,aW,aV,bQ,bF,bG,bH,bT,bf,bJ,aZ,dZ,aG,aK,ah,aj,aA,aC,aB,aF]
 refine⟨by decide,by unfold I64;omega,⟨x.d,x.ln⟩,⟨o1,by show x.ln<x.d.n;omega⟩,by show(x.ln:Int)=x.ln+0;omega,rfl,by decide,by decide,by unfold I64;omega,bg (fun h=> .inl ⟨by simpa using h,rfl,by_⟩) fun h=> ?_⟩
 have hc:1=spn x.b.cls:=by simpa using h
 have hsn:x.b.dJ=1:=by omega
 have he:64*x.de.b.dJ=64:=by rw[hde,hsn]
 refine⟨x.de,⟨by rw[hde];exact o2,by show x.b.value.size<_;omega,fun k _=>by rw[hde];rfl⟩,he,⟨he,fun q hq=>by_ q (by omega)⟩,?_⟩
 rw[show(x.de.id==x.b.id)=true from beq_self_eq_true _,show(x.de.ver==x.b.ver)=true from beq_self_eq_true _,lJ,lJ]
 exact bg (fun h=> .inr (.inl ⟨⟨hc,aQ h⟩,rfl,rfl⟩)) fun h=> .inr (.inr ⟨⟨hc,by have:=aS h;omega⟩,rfl,rfl⟩)
theorem X0(x:ZRe)(hx:x.ok/\x.p≠0):abP x:=by
 obtain⟨⟨o1,o2,o3,o4,o5,o6⟩,hp⟩:=hx
 have hs:=kU x.b
 have h1:=qA o2
 have hde:=au2 o2 o3
 have hv:=re_b o2 o3
 have hn:=o1.1
 unfold abP
 simp only[Jr,lW,abH,Ol,bY,dD,dP,bM,jy,yu,vM,rH,nI,XH,anb,XL,aeU,au0,am2,aeL,XJ,XG,BA,XI,auZ,Jl,kH,am3,Om,rF,Rh,Ri,ana,pz,Bz,vK,rG]
 simp only[aY,aU,aT,ay,aH,bP,bC,aN,aJ,au,aW,aV,bQ,bF,bG,bH,bT,bf,bJ,aZ,dZ,aG,aK,ah,aj,aA,aC,aB,aF]
 refine⟨aX _,bg (fun h=>absurd (ak h) (by omega)) fun _=>⟨by omega,by decide,by unfold I64;omega,⟨x.d,x.ln+x.p⟩,⟨o1,by show x.ln+x.p<x.d.n;omega⟩,rfl,rfl,?_⟩⟩
 have row: ∀q,q<64*(x.p+1)->x.b.enc q=bif Nat.blt q (64*x.p)then x.b.enc q else x.d.b ((x.ln+x.p)*193+(q-64*x.p)):=fun q hq=>by
  by_cases hh:q<64*x.p
  ·rw[bW.2 hh];rfl
  ·rw[show Nat.blt q (64*x.p)=false by rw[cO];exact decide_eq_false hh,aP,<-o6 q (by omega),show q/64=x.p by omega,show q%64=q-64*x.p by omega]
 refine⟨by decide,by omega,by unfold I64;omega,bg (fun h=> .inl ⟨by simpa using h,by omega,rfl,by omega,row⟩) fun h=> ?_⟩
 have hc:(x.p:Int)+1=spn x.b.cls:=by simpa using h
 have hsn:x.b.dJ=x.p+1:=by omega
 have he:64*x.de.b.dJ=64*x.p+64:=by rw[hde,hsn];omega
 refine⟨x.de,⟨by rw[hde];exact o2,by show x.b.value.size<_;omega,fun k _=>by rw[hde];rfl⟩,he,⟨he,fun q hq=>row q (by omega)⟩,?_⟩
 rw[show(x.de.id==x.b.id)=true from beq_self_eq_true _,show(x.de.ver==x.b.ver)=true from beq_self_eq_true _,lJ,lJ]
 exact bg (fun h=> .inr (.inl ⟨⟨hc,aQ h⟩,rfl,rfl⟩)) fun h=> .inr (.inr ⟨⟨hc,by have:=aS h;omega⟩,rfl,rfl⟩)
theorem ku:fJ Tryz.prog Bv:= .cons am0 .nil
theorem ae1:fJ Tryz.prog auV:= .append ku (.cons (bU aqj) (.cons (bU AU) .nil))
theorem ae2:fJ Tryz.prog aw6:= .append ku (.cons (bU sG) .nil)
theorem ae3:fJ Tryz.prog auW:= .append ku (.cons aqW (.cons (bU atZ) .nil))
theorem Rx:fJ Tryz.prog aqX:= .append ku (.cons GL (.cons (bU aqt) (.cons (bU IE) .nil)))
theorem ae4:fJ Tryz.prog auX:= .append ku (.cons (bU aqk) .nil)
theorem ae5:fJ Tryz.prog auY:= .append ku (.cons GL (.cons (bU am1) (.cons (bU alC) .nil)))
theorem Ox:bZ Tryz.prog 19 (ug 4):=gB dB mixed ae1 noA 200 6 (fun _=>rfl) (fun _=>⟨fun _=>rfl,fun _=>rfl,trivial⟩) fun x hx=>Eq.mp (abI x) (Rq x (aY.1 hx))
theorem Oy:bZ Tryz.prog 19 (ug 5):=gB dB mixed ae1 noA 200 6 (fun _=>rfl) (fun _=>⟨fun _=>rfl,fun _=>rfl,trivial⟩) fun x hx=>Eq.mp (abJ x) (Rt x (aY.1 hx))
theorem ae6:bZ Tryz.prog 19 abG:=gB dB mixed ae2 noA 200 6 (fun _=>rfl) (fun _=>⟨fun _=>rfl,fun _=>rfl,trivial⟩) fun x hx=>Eq.mp (Ov x) (XT x (aY.1 hx))
theorem X3:bZ Tryz.prog 19 (FN 4):=gB dB mixed ae3 noA 200 6 (fun _=>rfl) (fun _=>⟨fun _=>rfl,fun _=>rfl,trivial⟩) fun x hx=>Eq.mp (aic x) (XV x (aY.1 hx))
theorem X4:bZ Tryz.prog 19 (FN 5):=gB dB mixed ae3 noA 200 6 (fun _=>rfl) (fun _=>⟨fun _=>rfl,fun _=>rfl,trivial⟩) fun x hx=>Eq.mp (aie x) (XW x (aY.1 hx))
theorem Oz:bZ Tryz.prog 19 (uh 4):=dV dB mixed ae4 noA 200 6 (fun _=>rfl) (fun _=>rfl) fun x hx=>Eq.mp (abM x) (Ru x (aY.1 hx))
theorem OA:bZ Tryz.prog 19 (uh 5):=dV dB mixed ae4 noA 200 6 (fun _=>rfl) (fun _=>rfl) fun x hx=>Eq.mp (abN x) (Rw x (aY.1 hx))
theorem Jy:bZ Tryz.prog 19 (mY 4):=gB dB mixed Rx noA 200 6 (fun _=>rfl) (fun _=>⟨fun _=>rfl,fun _=>rfl,trivial⟩) fun x hx=>Eq.mp (XM x) (Lj x (aY.1 hx))
theorem Jz:bZ Tryz.prog 19 (mY 5):=gB dB mixed Rx noA 200 6 (fun _=>rfl) (fun _=>⟨fun _=>rfl,fun _=>rfl,trivial⟩) fun x hx=>Eq.mp (XO x) (Ll x (aY.1 hx))
theorem OB:bZ Tryz.prog 19 Dt:=gB dB mixed Rx noA 200 6 (fun _=>rfl) (fun _=>⟨fun _=>rfl,fun _=>rfl,trivial⟩) fun x hx=>Eq.mp (XP x) (Lm x (aY.1 hx))
theorem X5:bZ Tryz.prog 19 Oi:=gB dB mixed ae5 noA 200 6 (fun _=>rfl) (fun _=>⟨fun _=>rfl,fun _=>rfl,fun _=>rfl,trivial⟩) fun x hx=>Eq.mp (aif x) (XZ x (aY.1 hx))
theorem X6:bZ Tryz.prog 19 Oj:=gB dB mixed ae5 noA 200 6 (fun _=>rfl) (fun _=>⟨fun _=>rfl,fun _=>rfl,fun _=>rfl,trivial⟩) fun x hx=>Eq.mp (aii x) (X0 x (aY.1 hx))
structure ZSt where
 a:dF
 f:ZFr
 t:Nat
namespace dF
def sJ(a:dF)(t:Nat)(v:Int):dF:={a with r:=a.r.put t v}
def UR(a:dF)(p:dI):dF:={a with p:=p}
def Ry(a:dF)(d:dS):dF:={a with d:=d}
end dF
noncomputable def jK(k:Int):xR:={X:=ZSt,args:=fun x=>[.ptr 0 0,i64 x.t,x.f.av k 0 fO],a:=ZSt.a,k:=1,ex:=fun _=>[],pre:=fun x=>Hd (x.a.r.ok/\x.a.c.ok/\x.t<x.a.r.t/\x.a.r.has x.t=0),outs:=[
 {Y:=Unit,post:=fun x _=>Hd (k=4/\400<x.f.value.size),ret:=fun x _=>{x.f with code:=5}.av k 7 fO,a:=fun x _=>x.a,m:=1,ex:=fun _ _=>[]},
 {Y:=Unit,post:=fun x _=>Hd (k=4->x.f.value.size<=400),ret:=fun x _=>{x.f with epoch:=x.a.c.now}.av k (if k=4 then 3 else 1) fO,a:=fun x _=>x.a.sJ x.t x.a.r.now,m:=1,ex:=fun _ _=>[]}]}
noncomputable def Du:xR:={X:=ZSt,args:=fun x=>[.ptr 0 0,i64 x.t,x.f.av 5 1 fO],a:=ZSt.a,k:=1,ex:=fun _=>[],pre:=fun x=>Hd (x.a.l.ok/\x.f.line= -1),outs:=[
 {Y:=Unit,post:=fun x _=>Hd (x.a.l.n=0),ret:=fun x _=>{x.f with had:=false,old:=qO}.av 5 6 fO,a:=fun x _=>x.a,m:=1,ex:=fun _ _=>[]},
 {Y:=Unit,post:=fun x _=>Hd (x.a.l.n≠0),ret:=fun x _=>{x.f with had:=true,old:=x.a.l.head,piece:=0}.av 5 2 fO,a:=fun x _=>x.a,m:=1,ex:=fun _ _=>[]}]}
def ZSt.c(x:ZSt)(k:Int):Int:=if k=4 then ned x.f.value.size else 0
noncomputable def oh(k:Int):xR:={X:=ZSt,args:=fun x=>[.ptr 0 0,i64 x.t,x.f.av k 3 fO],a:=ZSt.a,k:=1,ex:=fun _=>[],pre:=fun x=>Hd (x.a.p.ok/\x.f.value.size<=400),outs:=[
 {Y:=Unit,post:=fun x _=>Hd (∀i,i<x.a.p.n->x.a.p.cls i≠ -1/\x.a.p.full (x.c k) i),ret:=fun x _=>{x.f with cls:=x.c k,ans:=emp,code:=4}.av k 6 fO,a:=fun x _=>x.a,m:=1,ex:=fun _ _=>[]},
 {Y:=Nat×Nat,post:=fun x y=>Hd (x.a.p.takes (x.c k) y.1 y.2),ret:=fun x y=>{x.f with cls:=x.c k,line:=2+y.1*8+y.2*spn (x.c k),piece:=0}.av k 4 fO,a:=fun x y=>x.a.UR (x.a.p.take (x.c k) y.1 y.2),m:=1,ex:=fun _ _=>[]}]}
noncomputable def jL(k:Int):xR:={X:=ZSt,args:=fun x=>[.ptr 0 0,i64 x.t,x.f.av k 6 fO],a:=ZSt.a,k:=1,ex:=fun _=>[],pre:=fun x=>Hd (x.a.r.ok/\x.t<x.a.r.t),outs:=[
 {Y:=Unit,post:=fun _ _=>True,ret:=fun x _=>x.f.av k 7 fO,a:=fun x _=>x.a.sJ x.t 0,m:=1,ex:=fun _ _=>[]}]}
structure ou where
 a:dF
 f:ZFr
 t:Nat
 ln:Nat
 c:Int
 p:Nat
def ou.w(x:ou):ZWr:=⟨x.a.d,x.t,x.f,x.ln,x.c,x.p⟩
noncomputable def iE(k:Int):xR:={X:=ou,args:=fun x=>[.ptr 0 0,i64 x.t,(x.w.fr 0).av k 4 fO],a:=ou.a,k:=1,ex:=fun _=>[],pre:=fun x=>Hd (x.w.ok/\x.p=0),outs:=[
 {Y:=Unit,post:=fun x _=>Hd (1≠spn x.c),ret:=fun x _=>(x.w.fr 1).av k 4 fO,a:=fun x _=>x.a.Ry x.w.d',m:=1,ex:=fun _ _=>[]},
 {Y:=Unit,post:=fun x _=>Hd (1=spn x.c),ret:=fun x _=>(x.w.fr 0).av k 5 fO,a:=fun x _=>x.a.Ry x.w.d',m:=1,ex:=fun _ _=>[]}]}
noncomputable def pF:xR:={X:=ou,args:=fun x=>[.ptr 0 0,i64 x.t,(x.w.fr x.p).av 4 4 fO],a:=ou.a,k:=1,ex:=fun _=>[],pre:=fun x=>Hd (x.w.ok/\x.p≠0),outs:=[
 {Y:=Unit,post:=fun x _=>Hd (x.p+1≠spn x.c),ret:=fun x _=>(x.w.fr (x.p+1)).av 4 4 fO,a:=fun x _=>x.a.Ry x.w.d',m:=1,ex:=fun _ _=>[]},
 {Y:=Unit,post:=fun x _=>Hd (x.p+1=spn x.c),ret:=fun x _=>(x.w.fr 0).av 4 5 fO,a:=fun x _=>x.a.Ry x.w.d',m:=1,ex:=fun _ _=>[]}]}
structure lq where
 a:dF
 f:ZFr
 t:Nat
 b:dN
 ln:Nat
 p:Nat
def lq.w(x:lq):ZRe:=⟨x.a.d,x.t,x.f,x.b,x.ln,x.p⟩
noncomputable def uo:xR:={X:=lq,args:=fun x=>[.ptr 0 0,i64 x.t,(x.w.fr 0).av 5 2 fO],a:=lq.a,k:=1,ex:=fun _=>[],pre:=fun x=>Hd (x.w.ok/\x.p=0),outs:=[
 {Y:=Unit,post:=fun x _=>Hd (1≠spn x.b.cls),ret:=fun x _=>(x.w.fr 1).av 5 2 (.slW 1 0 1 64),a:=fun x _=>x.a,m:=2,ex:=fun x _=>[GN x.b.enc 64]},
 {Y:=Unit,post:=fun x _=>Hd (1=spn x.b.cls/\x.f.line<0),ret:=fun x _=>(x.w.fr2 1).av 5 3 fO,a:=fun x _=>x.a,m:=1,ex:=fun _ _=>[]},
 {Y:=Unit,post:=fun x _=>Hd (1=spn x.b.cls/\0<=x.f.line),ret:=fun x _=>(x.w.fr2 1).av 5 5 fO,a:=fun x _=>x.a,m:=1,ex:=fun _ _=>[]}]}
noncomputable def uq:xR:={X:=lq,args:=fun x=>[.ptr 0 0,i64 x.t,(x.w.fr x.p).av 5 2 (.slW 1 0 1 (64*x.p))],a:=lq.a,k:=2,ex:=fun x=>[GN x.b.enc (64*x.p)],pre:=fun x=>Hd (x.w.ok/\x.p≠0),outs:=[
 {Y:=Unit,post:=fun x _=>Hd (x.p+1≠spn x.b.cls),ret:=fun x _=>(x.w.fr (x.p+1)).av 5 2 (.slW 2 0 1 (64*(x.p+1))),a:=fun x _=>x.a,m:=3,ex:=fun x _=>[GN x.b.enc (64*x.p),GN x.b.enc (64*(x.p+1))]},
 {Y:=Unit,post:=fun x _=>Hd (x.p+1=spn x.b.cls/\x.f.line<0),ret:=fun x _=>(x.w.fr2 (x.p+1)).av 5 3 fO,a:=fun x _=>x.a,m:=2,ex:=fun x _=>[GN x.b.enc (64*x.p)]},
 {Y:=Unit,post:=fun x _=>Hd (x.p+1=spn x.b.cls/\0<=x.f.line),ret:=fun x _=>(x.w.fr2 (x.p+1)).av 5 5 fO,a:=fun x _=>x.a,m:=2,ex:=fun x _=>[GN x.b.enc (64*x.p)]}]}
def dY:Prop:=Value.slice none 0 0=Value.slice none 0 0
def gK:Prop:=dY/\dY/\dY/\dY/\True
def BF(a:dF):Prop:=(a.n=a.n/\ ∀q:Nat,q<a.n->[Value.int .i64 (fZ.kind (a.e q)),Value.string (fZ.key (a.e q)),Value.string (fZ.value (a.e q)),Value.int .u64 (fZ.id (a.e q)),Value.int .u64 (fZ.ver (a.e q)),Value.int .u64 (fZ.epoch (a.e q)),Value.int .i64 (fZ.group (a.e q))]=[Value.int .i64 (fZ.kind (a.e q)),Value.string (fZ.key (a.e q)),Value.string (fZ.value (a.e q)),Value.int .u64 (fZ.id (a.e q)),Value.int .u64 (fZ.ver (a.e q)),Value.int .u64 (fZ.epoch (a.e q)),Value.int .i64 (fZ.group (a.e q))])/\True
def xU(a:dF):Prop:=bK a.b.os=bK a.b.os/\bK lT=bK lT/\gK/\bK a.l.os=bK a.l.os/\BF a
def FP(a:dF):Prop:=bK (a.c.os 0)=bK (a.c.os 0)/\xU a
def vS(a:dF):Prop:=bK a.r.os=bK a.r.os/\FP a
def gI(a:Int)(b:Int):Prop:=dY/\dY/\a=b/\True
def gQ(a:ZFr)(b:ZFr):Prop:=a.found=b.found/\a.ans=b.ans/\gI a.aep b.aep
def jf(a:ZFr)(b:ZFr):Prop:=(0:Int)=0/\dY/\a.code=b.code/\gQ a b
def gJ(a:ZFr)(b:ZFr):Prop:=dY/\jf a b
def cZ:Prop:=ByteArray.mk #[]=ByteArray.mk #[]
def vT(a:ZFr)(b:ZFr):Prop:=cZ/\false=false/\(0:Int)=0/\a.had=b.had/\a.old.key=b.old.key/\a.old.id=b.old.id/\a.old.ver=b.old.ver/\a.old.line=b.old.line/\a.old.cls=b.old.cls/\a.line=b.line/\a.cls=b.cls/\a.piece=b.piece/\gJ a b
def lM(a:ZFr)(b:ZFr):Prop:=a.epoch=b.epoch/\vT a b
def nK(a:dF):Prop:=bK a.b.os=bK a.b.os/\bK lT=bK lT/\gK/\bK a.l.os=bK a.l.os/\True
def uw(a:dF):Prop:=bK (a.c.os 0)=bK (a.c.os 0)/\nK a
def nM(a:dF):Prop:=bK a.r.os=bK a.r.os/\uw a
def gU(a:dF):Prop:=0=0/\0=0/\0=0/\0=0/\0=0/\0=0/\0=0/\0=0/\a.id=a.id/\a.ver=a.ver/\(0=0/\a.n=a.n)/\True
def gV(a:dI):Prop:=bK a.os=bK a.os
def JA(a:dF):Prop:=gV a.p/\nM a
def eH:Prop:=0=0/\(1:Int)=1/\(0:Int)=0/\(0:Int)=0/\True
def gW(a:dF):Prop:=0=0/\0=0/\0=0/\0=0/\0=0/\0=0/\0=0/\0=0/\a.id=a.id/\a.ver=a.ver/\dY/\True
def Dv(a:lq)(b:ZRe):Prop:=dY/\(0:Int)=0/\dY/\a.f.code=b.f.code/\a.f.found=b.f.found/\a.b.value=b.b.value/\gI a.f.aep b.f.aep
def eu(a:Nat)(b:Nat):Prop:=(a:Int)=(b:Int)
def OC(a:lq)(b:ZRe):Prop:=a.f.epoch=b.f.epoch/\cZ/\false=false/\(0:Int)=0/\true=true/\cZ/\a.b.id=b.b.id/\a.b.ver=b.b.ver/\eu a.ln b.ln/\a.b.cls=b.b.cls/\a.f.line=b.f.line/\a.f.cls=b.f.cls/\(a.p:Int)+1=(b.p:Int)+1/\Dv a b
def OD(a:lq)(b:ZRe):Prop:=a.f.epoch=b.f.epoch/\cZ/\false=false/\(0:Int)=0/\true=true/\cZ/\a.b.id=b.b.id/\a.b.ver=b.b.ver/\eu a.ln b.ln/\a.b.cls=b.b.cls/\a.f.line=b.f.line/\a.f.cls=b.f.cls/\(1:Int)=1/\Dv a b
def uD(a:ou)(b:ZWr):Prop:=a.f.key=b.f.key/\a.f.value=b.f.value/\cZ/\dY/\(5:Int)=5/\a.f.epoch=b.f.epoch/\cZ/\false=false/\(0:Int)=0/\a.f.had=b.f.had/\a.f.old.key=b.f.old.key/\a.f.old.id=b.f.old.id/\a.f.old.ver=b.f.old.ver/\a.f.old.line=b.f.old.line/\a.f.old.cls=b.f.old.cls/\eu a.ln b.ln/\a.c=b.c/\(0:Int)=0/\gJ a.f b.f
def EO(a:ZFr)(b:ZFr):Prop:=a.key=b.key/\a.value=b.value/\cZ/\dY/\(7:Int)=7/\a.epoch=b.epoch/\cZ/\false=false/\(0:Int)=0/\a.had=b.had/\a.old.key=b.old.key/\a.old.id=b.old.id/\a.old.ver=b.old.ver/\a.old.line=b.old.line/\a.old.cls=b.old.cls/\a.line=b.line/\a.cls=b.cls/\a.piece=b.piece/\dY/\(0:Int)=0/\dY/\(5:Int)=5/\gQ a b
def OE(a:ZSt)(b:ZFr):Prop:=a.a.c.now=b.epoch/\cZ/\false=false/\(0:Int)=0/\a.f.had=b.had/\a.f.old.key=b.old.key/\a.f.old.id=b.old.id/\a.f.old.ver=b.old.ver/\a.f.old.line=b.old.line/\a.f.old.cls=b.old.cls/\a.f.line=b.line/\a.f.cls=b.cls/\a.f.piece=b.piece/\dY/\(0:Int)=0/\dY/\a.f.code=5/\gQ a.f b
def OG(a:ZFr)(b:ZEn):Prop:=a.epoch=b.c.now/\cZ/\false=false/\(0:Int)=0/\a.had=b.f.had/\a.old.key=b.f.old.key/\a.old.id=b.f.old.id/\a.old.ver=b.f.old.ver/\a.old.line=b.f.old.line/\a.old.cls=b.f.old.cls/\a.line=b.f.line/\a.cls=b.f.cls/\a.piece=b.f.piece/\dY/\(0:Int)=0/\dY/\5=b.f.code/\gQ a b.f
def Dw(a:lq)(b:ZFr):Prop:=False/\(0:Int)=0/\dY/\a.f.code=b.code/\a.f.found=b.found/\a.b.value=b.ans/\gI a.f.aep b.aep
def ae7(a:lq)(b:ZRe):Prop:=a.f.epoch=b.f.epoch/\cZ/\false=false/\(0:Int)=0/\true=true/\cZ/\a.b.id=b.b.id/\a.b.ver=b.b.ver/\eu a.ln b.ln/\a.b.cls=b.b.cls/\a.f.line=b.f.line/\a.f.cls=b.f.cls/\(a.p:Int)+1=(b.p:Int)+1/\Dw a b.f
def qM(a:dN)(b:Nat)(c:dN):Prop:=[Value.int .u8 (a.enc b)]=[Value.int .u8 (c.enc b)]
def OI(a:lq)(b:ZRe):Prop:=64*a.p=64*b.p/\ ∀q:Nat,q<64*a.p->qM a.b q b.b
def gZ:Prop:=True/\True/\True/\True
def ji:Prop:=True/\True/\True/\True/\gZ
def ae8(a:lq)(b:ZRe):Prop:=a.f.epoch=b.f.epoch/\cZ/\false=false/\(0:Int)=0/\true=true/\cZ/\a.b.id=b.b.id/\a.b.ver=b.b.ver/\eu a.ln b.ln/\a.b.cls=b.b.cls/\a.f.line=b.f.line/\a.f.cls=b.f.cls/\(1:Int)=1/\Dw a b.f
def EP(a:ZWr)(b:ou):Prop:=a.f.key=b.f.key/\a.f.value=b.f.value/\cZ/\dY/\(4:Int)=4/\a.f.epoch=b.f.epoch/\cZ/\false=false/\(0:Int)=0/\a.f.had=b.f.had/\a.f.old.key=b.f.old.key/\a.f.old.id=b.f.old.id/\a.f.old.ver=b.f.old.ver/\a.f.old.line=b.f.old.line/\a.f.old.cls=b.f.old.cls/\eu a.ln b.ln/\a.c=b.c/\(0:Int)=0/\gJ a.f b.f
def ER(a:ou)(b:ZWr):Prop:=a.f.key=b.f.key/\a.f.value=b.f.value/\cZ/\dY/\(4:Int)=4/\a.f.epoch=b.f.epoch/\cZ/\false=false/\(0:Int)=0/\a.f.had=b.f.had/\a.f.old.key=b.f.old.key/\a.f.old.id=b.f.old.id/\a.f.old.ver=b.f.old.ver/\a.f.old.line=b.f.old.line/\a.f.old.cls=b.f.old.cls/\eu a.ln b.ln/\a.c=b.c/\(1:Int)=1/\gJ a.f b.f
def ES(a:ou)(b:ZWr):Prop:=a.f.key=b.f.key/\a.f.value=b.f.value/\cZ/\dY/\(5:Int)=4/\a.f.epoch=b.f.epoch/\cZ/\false=false/\(0:Int)=0/\a.f.had=b.f.had/\a.f.old.key=b.f.old.key/\a.f.old.id=b.f.old.id/\a.f.old.ver=b.f.old.ver/\a.f.old.line=b.f.old.line/\a.f.old.cls=b.f.old.cls/\eu a.ln b.ln/\a.c=b.c/\(0:Int)=1/\gJ a.f b.f
def ET(a:ou)(b:ZWr):Prop:=a.f.key=b.f.key/\a.f.value=b.f.value/\cZ/\dY/\(4:Int)=5/\a.f.epoch=b.f.epoch/\cZ/\false=false/\(0:Int)=0/\a.f.had=b.f.had/\a.f.old.key=b.f.old.key/\a.f.old.id=b.f.old.id/\a.f.old.ver=b.f.old.ver/\a.f.old.line=b.f.old.line/\a.f.old.cls=b.f.old.cls/\eu a.ln b.ln/\a.c=b.c/\(1:Int)=0/\gJ a.f b.f
def pG(a:ou)(b:ZWr):Prop:=gU a.a/\eH/\bK a.w.d'.os=bK b.d'.os/\gV a.a.p/\vS a.a
def vU(a:dF)(b:dS):Prop:=eH/\bK a.d.os=bK b.os/\gV a.p/\vS a
def fM(a:dS):Prop:=bK a.os=bK a.os
def X7(a:dF)(b:ZLn):Prop:=gU a/\eH/\fM a.d/\gV a.p/\bK a.r.os=bK a.r.os/\bK (a.c.os 0)=bK (a.c.os 0)/\bK a.b.os=bK a.b.os/\bK lT=bK lT/\gK/\bK a.l.os=bK b.os/\BF a
def X8(a:dF)(b:ZLn):Prop:=gW a/\eH/\fM a.d/\gV a.p/\bK a.r.os=bK a.r.os/\bK (a.c.os 0)=bK (a.c.os 0)/\bK a.b.os=bK a.b.os/\bK lT=bK lT/\gK/\bK a.l.os=bK b.os/\True
def kV:Prop:=0=0/\gZ
def nN(a:dS)(b:dS):Prop:=(0=0/\True/\True/\True/\ji)/\kV/\bK a.os=bK b.os/\True
def pI(a:ou)(b:ZWr):Prop:=gW a.a/\eH/\bK a.w.d'.os=bK b.d'.os/\JA a.a
def Dx(a:ZFr)(b:ZFr):Prop:=a.piece=0/\dY/\(0:Int)=0/\dY/\4=b.code/\a.found=b.found/\emp=b.ans/\gI a.aep b.aep
def ae9(a:ZSt)(b:ZTk)(c:Prod Nat Nat):Prop:=(4:Int)=4/\a.f.key=b.f.key/\a.f.value=b.f.value/\cZ/\dY/\(6:Int)=4/\a.f.epoch=b.f.epoch/\cZ/\false=false/\(0:Int)=0/\a.f.had=b.f.had/\a.f.old.key=b.f.old.key/\a.f.old.id=b.f.old.id/\a.f.old.ver=b.f.old.ver/\a.f.old.line=b.f.old.line/\a.f.old.cls=b.f.old.cls/\a.f.line=2+(c.1:Int)*8+(c.2:Int)*spn (b.c (4:Int))/\a.c (4:Int)=b.c (4:Int)/\Dx a.f b.f
def afa(a:ZSt)(b:ZTk)(c:Prod Nat Nat):Prop:=(5:Int)=5/\a.f.key=b.f.key/\a.f.value=b.f.value/\cZ/\dY/\(6:Int)=4/\a.f.epoch=b.f.epoch/\cZ/\false=false/\(0:Int)=0/\a.f.had=b.f.had/\a.f.old.key=b.f.old.key/\a.f.old.id=b.f.old.id/\a.f.old.ver=b.f.old.ver/\a.f.old.line=b.f.old.line/\a.f.old.cls=b.f.old.cls/\a.f.line=2+(c.1:Int)*8+(c.2:Int)*spn (b.c (5:Int))/\a.c (5:Int)=b.c (5:Int)/\Dx a.f b.f
def Dy(a:ZFr)(b:ZFr):Prop:=0=a.piece/\dY/\(0:Int)=0/\dY/\b.code=4/\b.found=a.found/\b.ans=emp/\gI b.aep a.aep
def afb(a:ZSt)(b:ZTk)(c:Prod Nat Nat):Prop:=(4:Int)=4/\a.f.key=b.f.key/\a.f.value=b.f.value/\cZ/\dY/\(4:Int)=6/\a.f.epoch=b.f.epoch/\cZ/\false=false/\(0:Int)=0/\a.f.had=b.f.had/\a.f.old.key=b.f.old.key/\a.f.old.id=b.f.old.id/\a.f.old.ver=b.f.old.ver/\a.f.old.line=b.f.old.line/\a.f.old.cls=b.f.old.cls/\2+(c.1:Int)*8+(c.2:Int)*spn (a.c (4:Int))=b.f.line/\a.c (4:Int)=b.c (4:Int)/\Dy b.f a.f
def afc(a:ZSt)(b:ZTk)(c:Prod Nat Nat):Prop:=(5:Int)=5/\a.f.key=b.f.key/\a.f.value=b.f.value/\cZ/\dY/\(4:Int)=6/\a.f.epoch=b.f.epoch/\cZ/\false=false/\(0:Int)=0/\a.f.had=b.f.had/\a.f.old.key=b.f.old.key/\a.f.old.id=b.f.old.id/\a.f.old.ver=b.f.old.ver/\a.f.old.line=b.f.old.line/\a.f.old.cls=b.f.old.cls/\2+(c.1:Int)*8+(c.2:Int)*spn (a.c (5:Int))=b.f.line/\a.c (5:Int)=b.c (5:Int)/\Dy b.f a.f
def Dz(a:ZFr)(b:ZFr):Prop:=a.piece=b.piece/\dY/\(0:Int)=0/\dY/\(4:Int)=4/\a.found=b.found/\emp=emp/\gI a.aep b.aep
def afd(a:ZSt)(b:ZTk):Prop:=(4:Int)=4/\a.f.key=b.f.key/\a.f.value=b.f.value/\cZ/\dY/\(6:Int)=6/\a.f.epoch=b.f.epoch/\cZ/\false=false/\(0:Int)=0/\a.f.had=b.f.had/\a.f.old.key=b.f.old.key/\a.f.old.id=b.f.old.id/\a.f.old.ver=b.f.old.ver/\a.f.old.line=b.f.old.line/\a.f.old.cls=b.f.old.cls/\a.f.line=b.f.line/\a.c (4:Int)=b.c (4:Int)/\Dz a.f b.f
def afe(a:ZSt)(b:ZTk):Prop:=(5:Int)=5/\a.f.key=b.f.key/\a.f.value=b.f.value/\cZ/\dY/\(6:Int)=6/\a.f.epoch=b.f.epoch/\cZ/\false=false/\(0:Int)=0/\a.f.had=b.f.had/\a.f.old.key=b.f.old.key/\a.f.old.id=b.f.old.id/\a.f.old.ver=b.f.old.ver/\a.f.old.line=b.f.old.line/\a.f.old.cls=b.f.old.cls/\a.f.line=b.f.line/\a.c (5:Int)=b.c (5:Int)/\Dz a.f b.f
def vV(a:dF)(b:dS):Prop:=eH/\bK a.d.os=bK b.os/\JA a
def aff(a:ZSt)(b:ZTk)(c:Prod Nat Nat)(d:Prod Nat Nat):Prop:=(4:Int)=4/\a.f.key=b.f.key/\a.f.value=b.f.value/\cZ/\dY/\(4:Int)=4/\a.f.epoch=b.f.epoch/\cZ/\false=false/\(0:Int)=0/\a.f.had=b.f.had/\a.f.old.key=b.f.old.key/\a.f.old.id=b.f.old.id/\a.f.old.ver=b.f.old.ver/\a.f.old.line=b.f.old.line/\a.f.old.cls=b.f.old.cls/\2+(c.1:Int)*8+(c.2:Int)*spn (a.c (4:Int))=2+(d.1:Int)*8+(d.2:Int)*spn (b.c (4:Int))/\a.c (4:Int)=b.c (4:Int)/\(0:Int)=0/\gJ a.f b.f
def afg(a:ZSt)(b:ZTk)(c:Prod Nat Nat)(d:Prod Nat Nat):Prop:=(5:Int)=5/\a.f.key=b.f.key/\a.f.value=b.f.value/\cZ/\dY/\(4:Int)=4/\a.f.epoch=b.f.epoch/\cZ/\false=false/\(0:Int)=0/\a.f.had=b.f.had/\a.f.old.key=b.f.old.key/\a.f.old.id=b.f.old.id/\a.f.old.ver=b.f.old.ver/\a.f.old.line=b.f.old.line/\a.f.old.cls=b.f.old.cls/\2+(c.1:Int)*8+(c.2:Int)*spn (a.c (5:Int))=2+(d.1:Int)*8+(d.2:Int)*spn (b.c (5:Int))/\a.c (5:Int)=b.c (5:Int)/\(0:Int)=0/\gJ a.f b.f
def afh(a:ZWr)(b:ou):Prop:=0=0/\eu a.t b.t/\((4:Int)=4/\a.f.key=b.f.key/\a.f.value=b.f.value/\cZ/\dY/\(4:Int)=4/\a.f.epoch=b.f.epoch/\cZ/\false=false/\(0:Int)=0/\a.f.had=b.f.had/\a.f.old.key=b.f.old.key/\a.f.old.id=b.f.old.id/\a.f.old.ver=b.f.old.ver/\a.f.old.line=b.f.old.line/\a.f.old.cls=b.f.old.cls/\eu a.ln b.ln/\a.c=b.c/\eu a.p b.p/\gJ a.f b.f)/\True
def afi(a:ZRe)(b:lq):Prop:=0=0/\eu a.t b.t/\((5:Int)=5/\a.f.key=b.f.key/\a.f.value=b.f.value/\cZ/\dY/\(2:Int)=2/\a.f.epoch=b.f.epoch/\cZ/\false=false/\(0:Int)=0/\true=true/\cZ/\a.b.id=b.b.id/\a.b.ver=b.b.ver/\eu a.ln b.ln/\a.b.cls=b.b.cls/\a.f.line=b.f.line/\a.f.cls=b.f.cls/\eu a.p b.p/\(0=0/\64*a.p=64*b.p)/\jf a.f b.f)/\True
def afj(a:ZSt)(b:ZFi):Prop:=(5:Int)=5/\a.f.key=b.f.key/\a.f.value=b.f.value/\cZ/\dY/\(2:Int)=2/\a.f.epoch=b.f.epoch/\cZ/\false=false/\(0:Int)=0/\true=true/\a.a.l.head.key=b.l.head.key/\a.a.l.head.id=b.l.head.id/\a.a.l.head.ver=b.l.head.ver/\a.a.l.head.line=b.l.head.line/\a.a.l.head.cls=b.l.head.cls/\a.f.line=b.f.line/\a.f.cls=b.f.cls/\(0:Int)=0/\gJ a.f b.f
def afk(a:ou)(b:ZWr):Prop:=(4:Int)=4/\a.f.key=b.f.key/\a.f.value=b.f.value/\cZ/\dY/\(4:Int)=4/\a.f.epoch=b.f.epoch/\cZ/\false=false/\(0:Int)=0/\a.f.had=b.f.had/\a.f.old.key=b.f.old.key/\a.f.old.id=b.f.old.id/\a.f.old.ver=b.f.old.ver/\a.f.old.line=b.f.old.line/\a.f.old.cls=b.f.old.cls/\eu a.ln b.ln/\a.c=b.c/\(a.p:Int)+1=(b.p:Int)+1/\gJ a.f b.f
def Rz(a:lq)(b:ZRe):Prop:=(5:Int)=5/\a.f.key=b.f.key/\a.f.value=b.f.value/\cZ/\dY/\(2:Int)=2/\a.f.epoch=b.f.epoch/\cZ/\false=false/\(0:Int)=0/\true=true/\cZ/\a.b.id=b.b.id/\a.b.ver=b.b.ver/\eu a.ln b.ln/\a.b.cls=b.b.cls/\a.f.line=b.f.line/\a.f.cls=b.f.cls/\(a.p:Int)+1=(b.p:Int)+1/\(0=0/\64*(a.p+1)=64*(b.p+1))/\jf a.f b.f
def RD(a:ou)(b:ZWr):Prop:=(4:Int)=4/\a.f.key=b.f.key/\a.f.value=b.f.value/\cZ/\dY/\(5:Int)=4/\a.f.epoch=b.f.epoch/\cZ/\false=false/\(0:Int)=0/\a.f.had=b.f.had/\a.f.old.key=b.f.old.key/\a.f.old.id=b.f.old.id/\a.f.old.ver=b.f.old.ver/\a.f.old.line=b.f.old.line/\a.f.old.cls=b.f.old.cls/\eu a.ln b.ln/\a.c=b.c/\0=(b.p:Int)+1/\gJ a.f b.f
def RF(a:ou)(b:ZWr):Prop:=(4:Int)=4/\a.f.key=b.f.key/\a.f.value=b.f.value/\cZ/\dY/\(4:Int)=5/\a.f.epoch=b.f.epoch/\cZ/\false=false/\(0:Int)=0/\a.f.had=b.f.had/\a.f.old.key=b.f.old.key/\a.f.old.id=b.f.old.id/\a.f.old.ver=b.f.old.ver/\a.f.old.line=b.f.old.line/\a.f.old.cls=b.f.old.cls/\eu a.ln b.ln/\a.c=b.c/\(a.p:Int)+1=0/\gJ a.f b.f
def RG(a:ZRe)(b:lq):Prop:=0=0/\eu a.t b.t/\((5:Int)=5/\a.f.key=b.f.key/\a.f.value=b.f.value/\cZ/\dY/\(2:Int)=2/\a.f.epoch=b.f.epoch/\cZ/\false=false/\(0:Int)=0/\true=true/\cZ/\a.b.id=b.b.id/\a.b.ver=b.b.ver/\eu a.ln b.ln/\a.b.cls=b.b.cls/\a.f.line=b.f.line/\a.f.cls=b.f.cls/\(0:Int)=0/\gJ a.f b.f)/\True
def RH(a:ZSt)(b:ZFr):Prop:=(5:Int)=5/\a.f.key=b.key/\a.f.value=b.value/\cZ/\dY/\(2:Int)=6/\a.f.epoch=b.epoch/\cZ/\false=false/\(0:Int)=0/\true=false/\a.a.l.head.key=ByteArray.mk #[]/\a.a.l.head.id=0/\a.a.l.head.ver=0/\a.a.l.head.line=0/\a.a.l.head.cls=0/\a.f.line=b.line/\a.f.cls=b.cls/\0=b.piece/\gJ a.f b
def RI(a:ZFr)(b:ZFi):Prop:=(5:Int)=5/\a.key=b.f.key/\a.value=b.f.value/\cZ/\dY/\(6:Int)=2/\a.epoch=b.f.epoch/\cZ/\false=false/\(0:Int)=0/\false=true/\ByteArray.mk #[]=b.l.head.key/\0=b.l.head.id/\0=b.l.head.ver/\0=b.l.head.line/\0=b.l.head.cls/\a.line=b.f.line/\a.cls=b.f.cls/\a.piece=0/\gJ a b.f
def RJ(a:lq)(b:ZRe):Prop:=(5:Int)=5/\a.f.key=b.f.key/\a.f.value=b.f.value/\cZ/\dY/\(2:Int)=2/\a.f.epoch=b.f.epoch/\cZ/\false=false/\(0:Int)=0/\true=true/\cZ/\a.b.id=b.b.id/\a.b.ver=b.b.ver/\eu a.ln b.ln/\a.b.cls=b.b.cls/\a.f.line=b.f.line/\a.f.cls=b.f.cls/\(1:Int)=1/\(0=0/\64=64)/\jf a.f b.f
def mD(a:fD)(b:fD):Prop:=bK (a.os 0)=bK (b.os 0)
def RN(a:ZFr)(b:ZFr):Prop:=(5:Int)=5/\a.key=b.key/\a.value=b.value/\cZ/\dY/\(6:Int)=6/\a.epoch=b.epoch/\cZ/\false=false/\(0:Int)=0/\false=false/\cZ/\(0:Int)=0/\(0:Int)=0/\(0:Int)=0/\(0:Int)=0/\a.line=b.line/\a.cls=b.cls/\a.piece=b.piece/\gJ a b
def vW(a:ZEn)(b:dF):Prop:=(True/\True/\0=0/\0=0/\ji)/\bK a.r.os=bK b.r.os/\mD a.c b.c/\True
def ig(a:Int):Prop:=Hd ((1:Int)≠spn a)
def DC(a:ZSt):Prop:=Hd (∀i:Nat,i<a.a.p.n->a.a.p.cls i≠(-(1:Int))/\a.a.p.full (a.c (4:Int)) i)
def DF(a:ZSt):Prop:=Hd (∀i:Nat,i<a.a.p.n->a.a.p.cls i≠(-(1:Int))/\a.a.p.full (a.c (5:Int)) i)
def vY(a:ZFr)(b:ZFr):Prop:=a.key=b.key/\a.value=b.value/\cZ/\dY/\(0:Int)=0/\lM a b
def vZ(a:ZFr)(b:ZFr):Prop:=a.key=b.key/\a.value=b.value/\cZ/\dY/\(3:Int)=3/\lM a b
def wo(a:ZFr)(b:ZFr):Prop:=a.key=b.key/\a.value=b.value/\cZ/\dY/\(6:Int)=6/\lM a b
def wu(a:ZFr)(b:ZFr):Prop:=a.key=b.key/\a.value=b.value/\cZ/\dY/\(7:Int)=7/\lM a b
def RP(a:ZRe)(b:lq):Prop:=(0=0/\True/\True/\True/\ji)/\kV/\bK a.d.os=bK b.a.d.os/\(64*a.p=64*b.p/\ ∀q:Nat,q<64*a.p->qM a.b q b.b)/\True
def wz(a:lq):Prop:=Hd ((a.p:Int)+1=spn a.b.cls/\0<=a.f.line)
def wB(a:lq):Prop:=Hd ((a.p:Int)+1=spn a.b.cls/\a.f.line<0)
def DI(a:ZSt)(b:ZEn):Prop:=bK (ZRd.os (a.a.r.put a.t a.a.r.now))=bK (ZRd.os (b.r.put b.t b.r.now))
def wC(a:ZSt)(b:ZLv):Prop:=bK (ZRd.os (a.a.r.put a.t (0:Int)))=bK (ZRd.os (b.r.put b.t (0:Int)))
def wF(a:ZRd)(b:ZRd):Prop:=(True/\True/\0=0/\True/\ji)/\bK a.os=bK b.os/\True
def wG(a:dI)(b:dI):Prop:=(True/\0=0/\True/\True/\ji)/\bK a.os=bK b.os/\True
def wH(a:ZEn):Prop:=Hd (a.r.ok/\a.c.ok/\a.t<a.r.t/\a.r.has a.t=0)
def y8(a:lq)(b:ZRe):Prop:=gW a.a/\OI a b/\vV a.a b.d
def y9(a:lq)(b:ZRe):Prop:=gU a.a/\OI a b/\vU a.a b.d
def JB(a:lq):Prop:=Hd ((a.p:Int)+1≠spn a.b.cls)
def DK(a:lq):Prop:= ∃y_1:Unit,JB a/\False
def wI(a:lq):Prop:=Hd (1=spn a.b.cls/\0<=a.f.line)
def wJ(a:lq):Prop:=Hd (1=spn a.b.cls/\a.f.line<0)
def RQ(a:ZFi)(b:ZSt):Prop:=0=0/\eu a.t b.t/\((5:Int)=5/\a.f.key=b.f.key/\a.f.value=b.f.value/\cZ/\dY/\(1:Int)=1/\lM a.f b.f)/\True
def wL(a:ByteArray):Prop:=Hd ((4:Int)=4/\400<a.size)
def wM(a:ByteArray):Prop:=Hd ((4:Int)=4->a.size<=400)
def wO(a:ByteArray):Prop:=Hd ((5:Int)=4/\400<a.size)
def wP(a:ByteArray):Prop:=Hd ((5:Int)=4->a.size<=400)
def RS(a:ZSt)(b:ZEn):Prop:=gW a.a/\eH/\fM a.a.d/\gV a.a.p/\bK (ZRd.os (a.a.r.put a.t a.a.r.now))=bK b.r.os/\mD a.a.c b.c/\nK a.a
def RU(a:ZSt)(b:ZEn):Prop:=gU a.a/\eH/\fM a.a.d/\gV a.a.p/\bK (ZRd.os (a.a.r.put a.t a.a.r.now))=bK b.r.os/\mD a.a.c b.c/\xU a.a
def RV(a:dF)(b:ZEn):Prop:=gW a/\eH/\fM a.d/\gV a.p/\bK a.r.os=bK (ZRd.os (b.r.put b.t b.r.now))/\mD a.c b.c/\nK a
def RX(a:ZSt)(b:ZEn):Prop:=(4:Int)=4/\a.f.key=b.f.key/\a.f.value=b.f.value/\cZ/\dY/\(3:Int)=3/\a.a.c.now=b.c.now/\vT a.f b.f
def RY(a:dF)(b:ZEn):Prop:=gU a/\eH/\fM a.d/\gV a.p/\bK a.r.os=bK (ZRd.os (b.r.put b.t b.r.now))/\mD a.c b.c/\xU a
def RZ(a:ZSt)(b:ZEn):Prop:=(5:Int)=5/\a.f.key=b.f.key/\a.f.value=b.f.value/\cZ/\dY/\(1:Int)=1/\a.a.c.now=b.c.now/\vT a.f b.f
def Si(a:ZLn)(b:ZLn):Prop:=(True/\True/\True/\True/\True/\True/\True/\kV)/\bK a.os=bK b.os/\True
def Sj(a:dF)(b:ZEn):Prop:=gW a/\eH/\fM a.d/\gV a.p/\bK a.r.os=bK b.r.os/\mD a.c b.c/\nK a
def Sl(a:dF)(b:ZEn):Prop:=gU a/\eH/\fM a.d/\gV a.p/\bK a.r.os=bK b.r.os/\mD a.c b.c/\xU a
def wQ(a:ZTk):Prop:=Hd (a.p.ok/\a.f.value.size<=400)
def Sm(a:lq)(b:ZRe):Prop:=(5:Int)=5/\a.f.key=b.f.key/\a.f.value=b.f.value/\cZ/\dY/\(3:Int)=2/\ae8 a b
def Sr(a:lq)(b:ZRe):Prop:=(5:Int)=5/\a.f.key=b.f.key/\a.f.value=b.f.value/\cZ/\dY/\(5:Int)=2/\ae8 a b
def Sv(a:lq)(b:ZRe):Prop:=(5:Int)=5/\a.f.key=b.f.key/\a.f.value=b.f.value/\cZ/\dY/\(3:Int)=3/\OD a b
def Sz(a:lq)(b:ZRe):Prop:=(5:Int)=5/\a.f.key=b.f.key/\a.f.value=b.f.value/\cZ/\dY/\(5:Int)=3/\OD a b
def SA(a:lq)(b:ZRe):Prop:=(5:Int)=5/\a.f.key=b.f.key/\a.f.value=b.f.value/\cZ/\dY/\(3:Int)=5/\OD a b
def SB(a:lq)(b:ZRe):Prop:=(5:Int)=5/\a.f.key=b.f.key/\a.f.value=b.f.value/\cZ/\dY/\(5:Int)=5/\OD a b
def SC(a:lq)(b:ZRe):Prop:=(5:Int)=5/\a.f.key=b.f.key/\a.f.value=b.f.value/\cZ/\dY/\(3:Int)=2/\ae7 a b
def SG(a:lq)(b:ZRe):Prop:=(5:Int)=5/\a.f.key=b.f.key/\a.f.value=b.f.value/\cZ/\dY/\(5:Int)=2/\ae7 a b
def SH(a:lq)(b:ZRe):Prop:=(5:Int)=5/\a.f.key=b.f.key/\a.f.value=b.f.value/\cZ/\dY/\(3:Int)=3/\OC a b
def SI(a:lq)(b:ZRe):Prop:=(5:Int)=5/\a.f.key=b.f.key/\a.f.value=b.f.value/\cZ/\dY/\(5:Int)=3/\OC a b
def SK(a:lq)(b:ZRe):Prop:=(5:Int)=5/\a.f.key=b.f.key/\a.f.value=b.f.value/\cZ/\dY/\(3:Int)=5/\OC a b
def SL(a:lq)(b:ZRe):Prop:=(5:Int)=5/\a.f.key=b.f.key/\a.f.value=b.f.value/\cZ/\dY/\(5:Int)=5/\OC a b
def SN(a:ZSt)(b:ZFr):Prop:=(4:Int)=4/\a.f.key=b.key/\a.f.value=b.value/\cZ/\dY/\(3:Int)=7/\OE a b
def SQ(a:ZFr)(b:ZEn):Prop:=(4:Int)=4/\a.key=b.f.key/\a.value=b.f.value/\cZ/\dY/\(7:Int)=3/\OG a b
def SS(a:ZSt)(b:ZFr):Prop:=(5:Int)=5/\a.f.key=b.key/\a.f.value=b.value/\cZ/\dY/\(1:Int)=7/\OE a b
def SV(a:ZFr)(b:ZEn):Prop:=(5:Int)=5/\a.key=b.f.key/\a.value=b.f.value/\cZ/\dY/\(7:Int)=1/\OG a b
def SX(a:ZSt)(b:ZEn):Prop:=gW a.a/\eH/\fM a.a.d/\gV a.a.p/\DI a b/\mD a.a.c b.c/\nK a.a
def SY(a:ZSt)(b:ZEn):Prop:=gU a.a/\eH/\fM a.a.d/\gV a.a.p/\DI a b/\mD a.a.c b.c/\xU a.a
def S9(a:ZTk):Prop:=Hd (∀i:Nat,i<a.p.n->a.p.cls i≠(-(1:Int))/\a.p.full (a.c (4:Int)) i)
def Tc(a:ZTk):Prop:=Hd (∀i:Nat,i<a.p.n->a.p.cls i≠(-(1:Int))/\a.p.full (a.c (5:Int)) i)
def DL(x:ZSt):Prop:=
 ∃x_1:ZEn,wH x_1/\(0=0/\eu x_1.t x.t/\((4:Int)=4/\vY x_1.f x.f)/\True)/\vW x_1 x.a/\(∀y:Unit,wL x_1.f.value->(∃y_1:Unit,wL x.f.value/\((4:Int)=4/\EO x.f x_1.f)/\Sj x.a x_1)\/ ∃y_1:Unit,wM x.f.value/\SN x x_1.f/\RS x x_1)/\ ∀y:Unit,wM x_1.f.value->(∃y_1:Unit,wL x.f.value/\SQ x.f x_1/\RV x.a x_1)\/ ∃y_1:Unit,wM x.f.value/\RX x x_1/\SX x x_1
theorem Td(x:ZSt):DL x=eG (ug 4) ((jK 4).N.args x) (hO 10 (dO 1 ((jK 4).N.l x))) (fun v h'=>dA 1 x v h' (jK 4).N.outs):=by kernel_rfl
def DN(x:ZSt):Prop:=
 ∃x_1:ZEn,wH x_1/\(0=0/\eu x_1.t x.t/\((4:Int)=4/\vY x_1.f x.f)/\True)/\vW x_1 x.a/\(∀y:Unit,wL x_1.f.value->(∃y_1:Unit,wL x.f.value/\((4:Int)=4/\EO x.f x_1.f)/\Sl x.a x_1)\/ ∃y_1:Unit,wM x.f.value/\SN x x_1.f/\RU x x_1)/\ ∀y:Unit,wM x_1.f.value->(∃y_1:Unit,wL x.f.value/\SQ x.f x_1/\RY x.a x_1)\/ ∃y_1:Unit,wM x.f.value/\RX x x_1/\SY x x_1
theorem Tf(x:ZSt):DN x=eG (ug 4) ((jK 4).P.args x) (hO 11 (dO 1 ((jK 4).P.l x))) (fun v h'=>dA 1 x v h' (jK 4).P.outs):=by kernel_rfl
def DR(x:ZSt):Prop:=
 ∃x_1:ZEn,wH x_1/\(0=0/\eu x_1.t x.t/\((5:Int)=5/\vY x_1.f x.f)/\True)/\vW x_1 x.a/\(∀y:Unit,wO x_1.f.value->(∃y_1:Unit,wO x.f.value/\((5:Int)=5/\EO x.f x_1.f)/\Sj x.a x_1)\/ ∃y_1:Unit,wP x.f.value/\SS x x_1.f/\RS x x_1)/\ ∀y:Unit,wP x_1.f.value->(∃y_1:Unit,wO x.f.value/\SV x.f x_1/\RV x.a x_1)\/ ∃y_1:Unit,wP x.f.value/\RZ x x_1/\SX x x_1
theorem Ti(x:ZSt):DR x=eG (ug 5) ((jK 5).N.args x) (hO 10 (dO 1 ((jK 5).N.l x))) (fun v h'=>dA 1 x v h' (jK 5).N.outs):=by kernel_rfl
def DT(x:ZSt):Prop:=
 ∃x_1:ZEn,wH x_1/\(0=0/\eu x_1.t x.t/\((5:Int)=5/\vY x_1.f x.f)/\True)/\vW x_1 x.a/\(∀y:Unit,wO x_1.f.value->(∃y_1:Unit,wO x.f.value/\((5:Int)=5/\EO x.f x_1.f)/\Sl x.a x_1)\/ ∃y_1:Unit,wP x.f.value/\SS x x_1.f/\RU x x_1)/\ ∀y:Unit,wP x_1.f.value->(∃y_1:Unit,wO x.f.value/\SV x.f x_1/\RY x.a x_1)\/ ∃y_1:Unit,wP x.f.value/\RZ x x_1/\SY x x_1
theorem Tj(x:ZSt):DT x=eG (ug 5) ((jK 5).P.args x) (hO 11 (dO 1 ((jK 5).P.l x))) (fun v h'=>dA 1 x v h' (jK 5).P.outs):=by kernel_rfl
def Tm(x:ZSt):Prop:=
 ∃x_1:ZFi,Hd (x_1.l.ok/\x_1.f.line=(-(1:Int)))/\RQ x_1 x/\Si x_1.l x.a.l/\(∀y:Unit,Hd (x_1.l.n=0)->(∃y_1:Unit,Hd (x.a.l.n=0)/\RN x.f x_1.f/\X8 x.a x_1.l)\/ ∃y_1:Unit,Hd (x.a.l.n≠0)/\RH x x_1.f/\X8 x.a x_1.l)/\ ∀y:Unit,Hd (x_1.l.n≠0)->(∃y_1:Unit,Hd (x.a.l.n=0)/\RI x.f x_1/\X8 x.a x_1.l)\/ ∃y_1:Unit,Hd (x.a.l.n≠0)/\afj x x_1/\X8 x.a x_1.l
theorem abQ(x:ZSt):Tm x=eG abG (Du.N.args x) (hO 10 (dO 1 (Du.N.l x))) (fun v h'=>dA 1 x v h' Du.N.outs):=by kernel_rfl
def Tn(x:ZSt):Prop:=
 ∃x_1:ZFi,Hd (x_1.l.ok/\x_1.f.line=(-(1:Int)))/\RQ x_1 x/\Si x_1.l x.a.l/\(∀y:Unit,Hd (x_1.l.n=0)->(∃y_1:Unit,Hd (x.a.l.n=0)/\RN x.f x_1.f/\X7 x.a x_1.l)\/ ∃y_1:Unit,Hd (x.a.l.n≠0)/\RH x x_1.f/\X7 x.a x_1.l)/\ ∀y:Unit,Hd (x_1.l.n≠0)->(∃y_1:Unit,Hd (x.a.l.n=0)/\RI x.f x_1/\X7 x.a x_1.l)\/ ∃y_1:Unit,Hd (x.a.l.n≠0)/\afj x x_1/\X7 x.a x_1.l
theorem abR(x:ZSt):Tn x=eG abG (Du.P.args x) (hO 11 (dO 1 (Du.P.l x))) (fun v h'=>dA 1 x v h' Du.P.outs):=by kernel_rfl
def JC(x:ZSt):Prop:=
 ∃x_1:ZTk,wQ x_1/\(0=0/\eu x_1.t x.t/\((4:Int)=4/\vZ x_1.f x.f)/\True)/\wG x_1.p x.a.p/\(∀y:Unit,S9 x_1->(∃y_1:Unit,DC x/\afd x x_1/\gW x.a/\eH/\fM x.a.d/\bK x.a.p.os=bK x_1.p.os/\nM x.a)\/ ∃y_1:Prod Nat Nat,Hd (x.a.p.takes (x.c (4:Int)) y_1.1 y_1.2)/\afb x x_1 y_1/\gW x.a/\eH/\fM x.a.d/\bK (dI.os (x.a.p.take (x.c (4:Int)) y_1.1 y_1.2))=bK x_1.p.os/\nM x.a)/\ ∀y:Prod Nat Nat,Hd (x_1.p.takes (x_1.c (4:Int)) y.1 y.2)->(∃y_1:Unit,DC x/\ae9 x x_1 y/\gW x.a/\eH/\fM x.a.d/\bK x.a.p.os=bK (dI.os (x_1.p.take (x_1.c (4:Int)) y.1 y.2))/\nM x.a)\/ ∃y_1:Prod Nat Nat,Hd (x.a.p.takes (x.c (4:Int)) y_1.1 y_1.2)/\aff x x_1 y_1 y/\gW x.a/\eH/\fM x.a.d/\bK (dI.os (x.a.p.take (x.c (4:Int)) y_1.1 y_1.2))=bK (dI.os (x_1.p.take (x_1.c (4:Int)) y.1 y.2))/\nM x.a
theorem X9(x:ZSt):JC x=eG (FN 4) ((oh 4).N.args x) (hO 10 (dO 1 ((oh 4).N.l x))) (fun v h'=>dA 1 x v h' (oh 4).N.outs):=by kernel_rfl
def JD(x:ZSt):Prop:=
 ∃x_1:ZTk,wQ x_1/\(0=0/\eu x_1.t x.t/\((4:Int)=4/\vZ x_1.f x.f)/\True)/\wG x_1.p x.a.p/\(∀y:Unit,S9 x_1->(∃y_1:Unit,DC x/\afd x x_1/\gU x.a/\eH/\fM x.a.d/\bK x.a.p.os=bK x_1.p.os/\vS x.a)\/ ∃y_1:Prod Nat Nat,Hd (x.a.p.takes (x.c (4:Int)) y_1.1 y_1.2)/\afb x x_1 y_1/\gU x.a/\eH/\fM x.a.d/\bK (dI.os (x.a.p.take (x.c (4:Int)) y_1.1 y_1.2))=bK x_1.p.os/\vS x.a)/\ ∀y:Prod Nat Nat,Hd (x_1.p.takes (x_1.c (4:Int)) y.1 y.2)->(∃y_1:Unit,DC x/\ae9 x x_1 y/\gU x.a/\eH/\fM x.a.d/\bK x.a.p.os=bK (dI.os (x_1.p.take (x_1.c (4:Int)) y.1 y.2))/\vS x.a)\/ ∃y_1:Prod Nat Nat,Hd (x.a.p.takes (x.c (4:Int)) y_1.1 y_1.2)/\aff x x_1 y_1 y/\gU x.a/\eH/\fM x.a.d/\bK (dI.os (x.a.p.take (x.c (4:Int)) y_1.1 y_1.2))=bK (dI.os (x_1.p.take (x_1.c (4:Int)) y.1 y.2))/\vS x.a
theorem Ya(x:ZSt):JD x=eG (FN 4) ((oh 4).P.args x) (hO 11 (dO 1 ((oh 4).P.l x))) (fun v h'=>dA 1 x v h' (oh 4).P.outs):=by kernel_rfl
def JE(x:ZSt):Prop:=
 ∃x_1:ZTk,wQ x_1/\(0=0/\eu x_1.t x.t/\((5:Int)=5/\vZ x_1.f x.f)/\True)/\wG x_1.p x.a.p/\(∀y:Unit,Tc x_1->(∃y_1:Unit,DF x/\afe x x_1/\gW x.a/\eH/\fM x.a.d/\bK x.a.p.os=bK x_1.p.os/\nM x.a)\/ ∃y_1:Prod Nat Nat,Hd (x.a.p.takes (x.c (5:Int)) y_1.1 y_1.2)/\afc x x_1 y_1/\gW x.a/\eH/\fM x.a.d/\bK (dI.os (x.a.p.take (x.c (5:Int)) y_1.1 y_1.2))=bK x_1.p.os/\nM x.a)/\ ∀y:Prod Nat Nat,Hd (x_1.p.takes (x_1.c (5:Int)) y.1 y.2)->(∃y_1:Unit,DF x/\afa x x_1 y/\gW x.a/\eH/\fM x.a.d/\bK x.a.p.os=bK (dI.os (x_1.p.take (x_1.c (5:Int)) y.1 y.2))/\nM x.a)\/ ∃y_1:Prod Nat Nat,Hd (x.a.p.takes (x.c (5:Int)) y_1.1 y_1.2)/\afg x x_1 y_1 y/\gW x.a/\eH/\fM x.a.d/\bK (dI.os (x.a.p.take (x.c (5:Int)) y_1.1 y_1.2))=bK (dI.os (x_1.p.take (x_1.c (5:Int)) y.1 y.2))/\nM x.a
theorem Yb(x:ZSt):JE x=eG (FN 5) ((oh 5).N.args x) (hO 10 (dO 1 ((oh 5).N.l x))) (fun v h'=>dA 1 x v h' (oh 5).N.outs):=by kernel_rfl
def JF(x:ZSt):Prop:=
 ∃x_1:ZTk,wQ x_1/\(0=0/\eu x_1.t x.t/\((5:Int)=5/\vZ x_1.f x.f)/\True)/\wG x_1.p x.a.p/\(∀y:Unit,Tc x_1->(∃y_1:Unit,DF x/\afe x x_1/\gU x.a/\eH/\fM x.a.d/\bK x.a.p.os=bK x_1.p.os/\vS x.a)\/ ∃y_1:Prod Nat Nat,Hd (x.a.p.takes (x.c (5:Int)) y_1.1 y_1.2)/\afc x x_1 y_1/\gU x.a/\eH/\fM x.a.d/\bK (dI.os (x.a.p.take (x.c (5:Int)) y_1.1 y_1.2))=bK x_1.p.os/\vS x.a)/\ ∀y:Prod Nat Nat,Hd (x_1.p.takes (x_1.c (5:Int)) y.1 y.2)->(∃y_1:Unit,DF x/\afa x x_1 y/\gU x.a/\eH/\fM x.a.d/\bK x.a.p.os=bK (dI.os (x_1.p.take (x_1.c (5:Int)) y.1 y.2))/\vS x.a)\/ ∃y_1:Prod Nat Nat,Hd (x.a.p.takes (x.c (5:Int)) y_1.1 y_1.2)/\afg x x_1 y_1 y/\gU x.a/\eH/\fM x.a.d/\bK (dI.os (x.a.p.take (x.c (5:Int)) y_1.1 y_1.2))=bK (dI.os (x_1.p.take (x_1.c (5:Int)) y.1 y.2))/\vS x.a
theorem Yc(x:ZSt):JF x=eG (FN 5) ((oh 5).P.args x) (hO 11 (dO 1 ((oh 5).P.l x))) (fun v h'=>dA 1 x v h' (oh 5).P.outs):=by kernel_rfl
def DU(x:ZSt):Prop:=
 ∃x_1:ZLv,Hd (x_1.r.ok/\x_1.t<x_1.r.t)/\(0=0/\eu x_1.t x.t/\((4:Int)=4/\wo x_1.f x.f)/\True)/\wF x_1.r x.a.r/\ ∀y:Unit,True-> ∃y_1:Unit,True/\((4:Int)=4/\wu x.f x_1.f)/\gW x.a/\eH/\fM x.a.d/\gV x.a.p/\wC x x_1/\uw x.a
theorem Tq(x:ZSt):DU x=eG (uh 4) ((jL 4).N.args x) (hO 10 (dO 1 ((jL 4).N.l x))) (fun v h'=>dA 1 x v h' (jL 4).N.outs):=by kernel_rfl
def DV(x:ZSt):Prop:=
 ∃x_1:ZLv,Hd (x_1.r.ok/\x_1.t<x_1.r.t)/\(0=0/\eu x_1.t x.t/\((4:Int)=4/\wo x_1.f x.f)/\True)/\wF x_1.r x.a.r/\ ∀y:Unit,True-> ∃y_1:Unit,True/\((4:Int)=4/\wu x.f x_1.f)/\gU x.a/\eH/\fM x.a.d/\gV x.a.p/\wC x x_1/\FP x.a
theorem Tt(x:ZSt):DV x=eG (uh 4) ((jL 4).P.args x) (hO 11 (dO 1 ((jL 4).P.l x))) (fun v h'=>dA 1 x v h' (jL 4).P.outs):=by kernel_rfl
def DW(x:ZSt):Prop:=
 ∃x_1:ZLv,Hd (x_1.r.ok/\x_1.t<x_1.r.t)/\(0=0/\eu x_1.t x.t/\((5:Int)=5/\wo x_1.f x.f)/\True)/\wF x_1.r x.a.r/\ ∀y:Unit,True-> ∃y_1:Unit,True/\((5:Int)=5/\wu x.f x_1.f)/\gW x.a/\eH/\fM x.a.d/\gV x.a.p/\wC x x_1/\uw x.a
theorem Tv(x:ZSt):DW x=eG (uh 5) ((jL 5).N.args x) (hO 10 (dO 1 ((jL 5).N.l x))) (fun v h'=>dA 1 x v h' (jL 5).N.outs):=by kernel_rfl
def DX(x:ZSt):Prop:=
 ∃x_1:ZLv,Hd (x_1.r.ok/\x_1.t<x_1.r.t)/\(0=0/\eu x_1.t x.t/\((5:Int)=5/\wo x_1.f x.f)/\True)/\wF x_1.r x.a.r/\ ∀y:Unit,True-> ∃y_1:Unit,True/\((5:Int)=5/\wu x.f x_1.f)/\gU x.a/\eH/\fM x.a.d/\gV x.a.p/\wC x x_1/\FP x.a
theorem Tz(x:ZSt):DX x=eG (uh 5) ((jL 5).P.args x) (hO 11 (dO 1 ((jL 5).P.l x))) (fun v h'=>dA 1 x v h' (jL 5).P.outs):=by kernel_rfl
def zf(x:ou):Prop:=
 ∃x_1:ZWr,Hd (x_1.ok/\x_1.p=0)/\(0=0/\eu x_1.t x.t/\((4:Int)=4/\EP x_1 x)/\True)/\nN x_1.d x.a.d/\(∀y:Unit,ig x_1.c->(∃y_1:Unit,ig x.c/\((4:Int)=4/\ER x x_1)/\pI x x_1)\/ ∃y_1:Unit,Hd (1=spn x.c)/\((4:Int)=4/\ES x x_1)/\pI x x_1)/\ ∀y:Unit,Hd (1=spn x_1.c)->(∃y_1:Unit,ig x.c/\((4:Int)=4/\ET x x_1)/\pI x x_1)\/ ∃y_1:Unit,Hd (1=spn x.c)/\((4:Int)=4/\uD x x_1)/\pI x x_1
theorem Lp(x:ou):zf x=eG (mY 4) ((iE 4).N.args x) (hO 10 (dO 1 ((iE 4).N.l x))) (fun v h'=>dA 1 x v h' (iE 4).N.outs):=by kernel_rfl
def zh(x:ou):Prop:=
 ∃x_1:ZWr,Hd (x_1.ok/\x_1.p=0)/\(0=0/\eu x_1.t x.t/\((4:Int)=4/\EP x_1 x)/\True)/\nN x_1.d x.a.d/\(∀y:Unit,ig x_1.c->(∃y_1:Unit,ig x.c/\((4:Int)=4/\ER x x_1)/\pG x x_1)\/ ∃y_1:Unit,Hd (1=spn x.c)/\((4:Int)=4/\ES x x_1)/\pG x x_1)/\ ∀y:Unit,Hd (1=spn x_1.c)->(∃y_1:Unit,ig x.c/\((4:Int)=4/\ET x x_1)/\pG x x_1)\/ ∃y_1:Unit,Hd (1=spn x.c)/\((4:Int)=4/\uD x x_1)/\pG x x_1
theorem Lr(x:ou):zh x=eG (mY 4) ((iE 4).P.args x) (hO 11 (dO 1 ((iE 4).P.l x))) (fun v h'=>dA 1 x v h' (iE 4).P.outs):=by kernel_rfl
def zi(x:ou):Prop:=
 ∃x_1:ZWr,Hd (x_1.ok/\x_1.p=0)/\(0=0/\eu x_1.t x.t/\((5:Int)=5/\EP x_1 x)/\True)/\nN x_1.d x.a.d/\(∀y:Unit,ig x_1.c->(∃y_1:Unit,ig x.c/\((5:Int)=5/\ER x x_1)/\pI x x_1)\/ ∃y_1:Unit,Hd (1=spn x.c)/\((5:Int)=5/\ES x x_1)/\pI x x_1)/\ ∀y:Unit,Hd (1=spn x_1.c)->(∃y_1:Unit,ig x.c/\((5:Int)=5/\ET x x_1)/\pI x x_1)\/ ∃y_1:Unit,Hd (1=spn x.c)/\((5:Int)=5/\uD x x_1)/\pI x x_1
theorem Ls(x:ou):zi x=eG (mY 5) ((iE 5).N.args x) (hO 10 (dO 1 ((iE 5).N.l x))) (fun v h'=>dA 1 x v h' (iE 5).N.outs):=by kernel_rfl
def zk(x:ou):Prop:=
 ∃x_1:ZWr,Hd (x_1.ok/\x_1.p=0)/\(0=0/\eu x_1.t x.t/\((5:Int)=5/\EP x_1 x)/\True)/\nN x_1.d x.a.d/\(∀y:Unit,ig x_1.c->(∃y_1:Unit,ig x.c/\((5:Int)=5/\ER x x_1)/\pG x x_1)\/ ∃y_1:Unit,Hd (1=spn x.c)/\((5:Int)=5/\ES x x_1)/\pG x x_1)/\ ∀y:Unit,Hd (1=spn x_1.c)->(∃y_1:Unit,ig x.c/\((5:Int)=5/\ET x x_1)/\pG x x_1)\/ ∃y_1:Unit,Hd (1=spn x.c)/\((5:Int)=5/\uD x x_1)/\pG x x_1
theorem Lu(x:ou):zk x=eG (mY 5) ((iE 5).P.args x) (hO 11 (dO 1 ((iE 5).P.l x))) (fun v h'=>dA 1 x v h' (iE 5).P.outs):=by kernel_rfl
def zl(x:ou):Prop:=
 ∃x_1:ZWr,Hd (x_1.ok/\x_1.p≠0)/\afh x_1 x/\nN x_1.d x.a.d/\(∀y:Unit,Hd ((x_1.p:Int)+1≠spn x_1.c)->(∃y_1:Unit,Hd ((x.p:Int)+1≠spn x.c)/\afk x x_1/\pI x x_1)\/ ∃y_1:Unit,Hd ((x.p:Int)+1=spn x.c)/\RD x x_1/\pI x x_1)/\ ∀y:Unit,Hd ((x_1.p:Int)+1=spn x_1.c)->(∃y_1:Unit,Hd ((x.p:Int)+1≠spn x.c)/\RF x x_1/\pI x x_1)\/ ∃y_1:Unit,Hd ((x.p:Int)+1=spn x.c)/\((4:Int)=4/\uD x x_1)/\pI x x_1
theorem LC(x:ou):zl x=eG Dt (pF.N.args x) (hO 10 (dO 1 (pF.N.l x))) (fun v h'=>dA 1 x v h' pF.N.outs):=by kernel_rfl
def zn(x:ou):Prop:=
 ∃x_1:ZWr,Hd (x_1.ok/\x_1.p≠0)/\afh x_1 x/\nN x_1.d x.a.d/\(∀y:Unit,Hd ((x_1.p:Int)+1≠spn x_1.c)->(∃y_1:Unit,Hd ((x.p:Int)+1≠spn x.c)/\afk x x_1/\pG x x_1)\/ ∃y_1:Unit,Hd ((x.p:Int)+1=spn x.c)/\RD x x_1/\pG x x_1)/\ ∀y:Unit,Hd ((x_1.p:Int)+1=spn x_1.c)->(∃y_1:Unit,Hd ((x.p:Int)+1≠spn x.c)/\RF x x_1/\pG x x_1)\/ ∃y_1:Unit,Hd ((x.p:Int)+1=spn x.c)/\((4:Int)=4/\uD x x_1)/\pG x x_1
theorem LD(x:ou):zn x=eG Dt (pF.P.args x) (hO 11 (dO 1 (pF.P.l x))) (fun v h'=>dA 1 x v h' pF.P.outs):=by kernel_rfl
def JG(x:lq):Prop:=
 ∃x_1:ZRe,Hd (x_1.ok/\x_1.p=0)/\RG x_1 x/\nN x_1.d x.a.d/\(∀y:Unit,ig x_1.b.cls->(∃y_1:Unit,ig x.b.cls/\RJ x x_1/\gW x.a/\(64=64/\ ∀q:Nat,q<64->qM x.b q x_1.b)/\vV x.a x_1.d)\/(∃y_1:Unit,wJ x/\Sm x x_1/\gW x.a/\vV x.a x_1.d)\/ ∃y_1:Unit,wI x/\Sr x x_1/\gW x.a/\vV x.a x_1.d)/\(∀y:Unit,Hd (1=spn x_1.b.cls/\x_1.f.line<0)->(∃y_1:Unit,ig x.b.cls/\False)\/(∃y_1:Unit,wJ x/\Sv x x_1/\gW x.a/\vV x.a x_1.d)\/ ∃y_1:Unit,wI x/\Sz x x_1/\gW x.a/\vV x.a x_1.d)/\ ∀y:Unit,Hd (1=spn x_1.b.cls/\0<=x_1.f.line)->(∃y_1:Unit,ig x.b.cls/\False)\/(∃y_1:Unit,wJ x/\SA x x_1/\gW x.a/\vV x.a x_1.d)\/ ∃y_1:Unit,wI x/\SB x x_1/\gW x.a/\vV x.a x_1.d
theorem Yd(x:lq):JG x=eG Oi (uo.N.args x) (hO 10 (dO 1 (uo.N.l x))) (fun v h'=>dA 1 x v h' uo.N.outs):=by kernel_rfl
def JH(x:lq):Prop:=
 ∃x_1:ZRe,Hd (x_1.ok/\x_1.p=0)/\RG x_1 x/\nN x_1.d x.a.d/\(∀y:Unit,ig x_1.b.cls->(∃y_1:Unit,ig x.b.cls/\RJ x x_1/\gU x.a/\(64=64/\ ∀q:Nat,q<64->qM x.b q x_1.b)/\vU x.a x_1.d)\/(∃y_1:Unit,wJ x/\Sm x x_1/\gU x.a/\vU x.a x_1.d)\/ ∃y_1:Unit,wI x/\Sr x x_1/\gU x.a/\vU x.a x_1.d)/\(∀y:Unit,Hd (1=spn x_1.b.cls/\x_1.f.line<0)->(∃y_1:Unit,ig x.b.cls/\False)\/(∃y_1:Unit,wJ x/\Sv x x_1/\gU x.a/\vU x.a x_1.d)\/ ∃y_1:Unit,wI x/\Sz x x_1/\gU x.a/\vU x.a x_1.d)/\ ∀y:Unit,Hd (1=spn x_1.b.cls/\0<=x_1.f.line)->(∃y_1:Unit,ig x.b.cls/\False)\/(∃y_1:Unit,wJ x/\SA x x_1/\gU x.a/\vU x.a x_1.d)\/ ∃y_1:Unit,wI x/\SB x x_1/\gU x.a/\vU x.a x_1.d
theorem Ye(x:lq):JH x=eG Oi (uo.P.args x) (hO 11 (dO 1 (uo.P.l x))) (fun v h'=>dA 1 x v h' uo.P.outs):=by kernel_rfl
def JI(x:lq):Prop:=
 ∃x_1:ZRe,Hd (x_1.ok/\x_1.p≠0)/\afi x_1 x/\RP x_1 x/\(∀y:Unit,Hd ((x_1.p:Int)+1≠spn x_1.b.cls)->(∃y_1:Unit,JB x/\Rz x x_1/\gW x.a/\OI x x_1/\(64*(x.p+1)=64*(x_1.p+1)/\ ∀q:Nat,q<64*(x.p+1)->qM x.b q x_1.b)/\vV x.a x_1.d)\/(∃y_1:Unit,wB x/\SC x x_1/\y8 x x_1)\/ ∃y_1:Unit,wz x/\SG x x_1/\y8 x x_1)/\(∀y:Unit,Hd ((x_1.p:Int)+1=spn x_1.b.cls/\x_1.f.line<0)->DK x\/(∃y_1:Unit,wB x/\SH x x_1/\y8 x x_1)\/ ∃y_1:Unit,wz x/\SI x x_1/\y8 x x_1)/\ ∀y:Unit,Hd ((x_1.p:Int)+1=spn x_1.b.cls/\0<=x_1.f.line)->DK x\/(∃y_1:Unit,wB x/\SK x x_1/\y8 x x_1)\/ ∃y_1:Unit,wz x/\SL x x_1/\y8 x x_1
theorem Yf(x:lq):JI x=eG Oj (uq.N.args x) (hO 11 (dO 2 (uq.N.l x))) (fun v h'=>dA 2 x v h' uq.N.outs):=by kernel_rfl
def JJ(x:lq):Prop:=
 ∃x_1:ZRe,Hd (x_1.ok/\x_1.p≠0)/\afi x_1 x/\RP x_1 x/\(∀y:Unit,Hd ((x_1.p:Int)+1≠spn x_1.b.cls)->(∃y_1:Unit,JB x/\Rz x x_1/\gU x.a/\OI x x_1/\(64*(x.p+1)=64*(x_1.p+1)/\ ∀q:Nat,q<64*(x.p+1)->qM x.b q x_1.b)/\vU x.a x_1.d)\/(∃y_1:Unit,wB x/\SC x x_1/\y9 x x_1)\/ ∃y_1:Unit,wz x/\SG x x_1/\y9 x x_1)/\(∀y:Unit,Hd ((x_1.p:Int)+1=spn x_1.b.cls/\x_1.f.line<0)->DK x\/(∃y_1:Unit,wB x/\SH x x_1/\y9 x x_1)\/ ∃y_1:Unit,wz x/\SI x x_1/\y9 x x_1)/\ ∀y:Unit,Hd ((x_1.p:Int)+1=spn x_1.b.cls/\0<=x_1.f.line)->DK x\/(∃y_1:Unit,wB x/\SK x x_1/\y9 x x_1)\/ ∃y_1:Unit,wz x/\SL x x_1/\y9 x x_1
theorem Yg(x:lq):JJ x=eG Oj (uq.P.args x) (hO 12 (dO 2 (uq.P.l x))) (fun v h'=>dA 2 x v h' uq.P.outs):=by kernel_rfl
structure ZPb where
 a:dF
 f:ZFr
 t:Nat
 ln:Nat
namespace ZPb
def chg(x:ZPb):gX:=⟨x.a,x.t,x.f.epoch,x.f.value,⟨#[]⟩,false,x.f.old,x.ln,x.f.cls⟩
def fr(x:ZPb)(h:Bool):ZFr:={x.f with had:=h,line:=x.ln}
end ZPb
noncomputable def anj:Ctr:=det ZPb (fun x=>[.ptr 0 0,i64 x.t,(x.fr false).av 4 5 fO]) 1 (fun x=>[.abs (bK x.a.os)]) (fun x=>Hd (x.chg.okE/\(∃i j,x.chg.inP i j)/\ ∀k,x.a.c.o k+8<1099511627776)) (fun x=>{x.fr false with found:=false,aep:=x.f.epoch,line:= -1}.av 4 6 fO) 1 (fun x=>[.abs (bK x.chg.enq.os)])
noncomputable def ank:Ctr:=det ZPb (fun x=>[.ptr 0 0,i64 x.t,(x.fr true).av 5 5 fO]) 1 (fun x=>[.abs (bK x.a.os)]) (fun x=>Hd (x.chg.okD/\(∃i j,x.chg.inP i j)/\0<=x.a.id/\x.a.id<1152921504606846976/\x.a.n≠0)) (fun x=>{x.fr true with found:=true,aep:=x.f.epoch,line:= -1}.av 5 6 fO) 1 (fun x=>[.abs (bK x.chg.deq.os)])
noncomputable def aw7:jY:=Bv++[(162,eG enqG.ctr)]
noncomputable def aw8:jY:=Bv++[(162,eG deqG.ctr)]
theorem aqZ:fJ Tryz.prog aw7:= .append ku (.cons (bU auO) .nil)
theorem aq0:fJ Tryz.prog aw8:= .append ku (.cons (bU auP) .nil)
def LG:Prop:=Value.slice none 0 0=Value.slice none 0 0
def aq1(a:gX)(b:ZPb):Prop:=a.old.key=b.f.old.key/\a.old.id=b.f.old.id/\a.old.ver=b.f.old.ver/\a.old.line=b.f.old.line/\a.old.cls=b.f.old.cls/\(a.k:Int)=(b.ln:Int)/\a.c=b.f.cls/\True
def aq2(a:ZPb):Prop:=AV.lit (Value.int .u64 a.f.epoch)=AV.lit (Value.int .u64 a.f.epoch)/\AV.lit (Value.int .i64 (a.t:Int))=AV.lit (Value.int .i64 (a.t:Int))/\AV.ptr 0 0=AV.ptr 0 0/\True
def aq3(a:ZFr):Prop:=a.ans=a.ans/\LG/\LG/\a.epoch=a.epoch/\True
def aij:Prop:=ByteArray.mk #[]=ByteArray.mk #[]
def abS(x:ZPb):Prop:=
 ((0:Int)<=5/\(0:Int)<=1)/\aq2 x/\ ∃x_1:gX,Hd (x_1.okE/\(∃i:Nat,∃j:Nat,x_1.inP i j)/\ ∀k:Nat,x_1.a.c.o k+8<1099511627776)/\(0=0/\(x_1.t:Int)=(x.t:Int)/\x_1.e=x.f.epoch/\(0=0/\1=1/\1=1)/\True)/\(bK x_1.a.os=bK x.a.os/\((4:Int)=4/\x_1.key=ByteArray.mk #[]/\x_1.v=x.f.value/\false=false/\aq1 x_1 x)/\True)/\ ∀y:Unit,True->True/\((0:Int)<=0/\(0:Int)<=0)/\0<1/\True/\True/\True/\True/\ ∃y_1:Unit,True/\((4:Int)=4/\x.f.key=x.f.key/\x.f.value=x.f.value/\aij/\LG/\(6:Int)=6/\x.f.epoch=x.f.epoch/\aij/\false=false/\(0:Int)=0/\false=false/\x.f.old.key=x.f.old.key/\x.f.old.id=x.f.old.id/\x.f.old.ver=x.f.old.ver/\x.f.old.line=x.f.old.line/\x.f.old.cls=x.f.old.cls/\(-(1:Int))=(-(1:Int))/\x.f.cls=x.f.cls/\x.f.piece=x.f.piece/\LG/\(0:Int)=0/\LG/\x.f.code=x.f.code/\false=false/\aq3 x.f)/\bK x.chg.enq.os=bK x_1.enq.os/\True
theorem aik(x:ZPb):abS x=wpF Tryz.prog aw7 tt (noA x) 200 6 19 (anj.args x) (hO 1 (anj.os x)) (fun v h'=>fA 1 x v h' anj.outs):=by kernel_rfl
def abT(x:ZPb):Prop:=
 ((0:Int)<=5/\(0:Int)<=1)/\aq2 x/\ ∃x_1:gX,Hd (x_1.okD/\(∃i:Nat,∃j:Nat,x_1.inP i j)/\0<=x_1.a.id/\x_1.a.id<1152921504606846976/\x_1.a.n≠0)/\(0=0/\(x_1.t:Int)=(x.t:Int)/\x_1.e=x.f.epoch/\(0=0/\1=1/\1=1)/\True)/\(bK x_1.a.os=bK x.a.os/\((5:Int)=5/\x_1.key=ByteArray.mk #[]/\x_1.v=x.f.value/\true=true/\aq1 x_1 x)/\True)/\ ∀y:Unit,True->True/\((0:Int)<=0/\(0:Int)<=0)/\0<1/\True/\True/\True/\True/\ ∃y_1:Unit,True/\((5:Int)=5/\x.f.key=x.f.key/\x.f.value=x.f.value/\aij/\LG/\(6:Int)=6/\x.f.epoch=x.f.epoch/\aij/\false=false/\(0:Int)=0/\true=true/\x.f.old.key=x.f.old.key/\x.f.old.id=x.f.old.id/\x.f.old.ver=x.f.old.ver/\x.f.old.line=x.f.old.line/\x.f.old.cls=x.f.old.cls/\(-(1:Int))=(-(1:Int))/\x.f.cls=x.f.cls/\x.f.piece=x.f.piece/\LG/\(0:Int)=0/\LG/\x.f.code=x.f.code/\true=true/\aq3 x.f)/\bK x.chg.deq.os=bK x_1.deq.os/\True
theorem ail(x:ZPb):abT x=wpF Tryz.prog aw8 tt (noA x) 200 6 19 (ank.args x) (hO 1 (ank.os x)) (fun v h'=>fA 1 x v h' ank.outs):=by kernel_rfl
def nOk{X:Type}(x:X)(n:Nat):List (ao3 X)->Prop
 |[]=>True
 |o::r=>(∀y,(o.a x y).n=n)/\nOk x n r
theorem anl{X:Type}{x:X}{n:Nat}: ∀{l:List (ao3 X)},nOk x n l-> ∀o∈l,∀y,(o.a x y).n=n
 |o::r,h,p,hp,y=>by
  rcases List.mem_cons.1 hp with rfl|hp
  ·exact h.1 y
  ·exact anl h.2 p hp y
theorem wR{P:Program}{f:FuncId}{C:xR}(hn: ∀x,nOk x (C.a x).n C.outs)(hN:bZ P f C.N.ctr)(hP:bZ P f C.P.ctr):bZ P f C.M.ctr:=glue (fun x _ o ho y _=>anl (hn x) o ho y) hN hP
theorem JK(x:ZSt)(hx:((jK 4).pre x)):DL x:=by
 have hx:=aY.1 hx
 unfold DL
 simp only[wH,eu,vY,vW,wL,EO,Sj,wM,SN,RS,SQ,RV,RX,SX,gW,eH,fM,gV,DI,mD,nK,gK,dY,cZ,vT,gJ,jf,gQ,gI,OG,OE,ji,gZ,lM]
 simp only[aY,aU,aT,ay,aH,bP,bC,aN,aJ,au,aW,aV,bQ,bF,bG,bH,bT,bf,bJ,aZ,dZ,aG,aK,ah,aj,aA,aC,aB,aF]
 refine⟨⟨x.a.r,x.a.c,x.t,x.f⟩,hx,?_⟩
 simp only[aY,aU,aT,ay,aH,bP,bC,aN,aJ,au,aW,aV,bQ,bF,bG,bH,bT,bf,bJ,aZ,dZ,aG,aK,ah,aj,aA,aC,aB,aF]
 exact⟨fun h=> .inl h,fun h=> .inr h⟩
theorem JL(x:ZSt)(hx:((jK 4).pre x)):DN x:=by
 have hx:=aY.1 hx
 unfold DN
 simp only[wH,eu,vY,vW,wL,EO,Sl,wM,SN,RU,SQ,RY,RX,SY,gU,eH,fM,gV,DI,mD,xU,gK,BF,dY,cZ,vT,gJ,jf,gQ,gI,OG,OE,ji,gZ,lM]
 simp only[aY,aU,aT,ay,aH,bP,bC,aN,aJ,au,aW,aV,bQ,bF,bG,bH,bT,bf,bJ,aZ,dZ,aG,aK,ah,aj,aA,aC,aB,aF]
 refine⟨⟨x.a.r,x.a.c,x.t,x.f⟩,hx,?_⟩
 simp only[aY,aU,aT,ay,aH,bP,bC,aN,aJ,au,aW,aV,bQ,bF,bG,bH,bT,bf,bJ,aZ,dZ,aG,aK,ah,aj,aA,aC,aB,aF]
 exact⟨fun h=> .inl h,fun h=> .inr h⟩
theorem JM(x:ZSt)(hx:((jK 5).pre x)):DR x:=by
 have hx:=aY.1 hx
 unfold DR
 simp only[wH,eu,vY,vW,wO,EO,Sj,wP,SS,RS,SV,RV,RZ,SX,gW,eH,fM,gV,DI,mD,nK,gK,dY,cZ,vT,gJ,jf,gQ,gI,OG,OE,ji,gZ,lM]
 simp only[aY,aU,aT,ay,aH,bP,bC,aN,aJ,au,aW,aV,bQ,bF,bG,bH,bT,bf,bJ,aZ,dZ,aG,aK,ah,aj,aA,aC,aB,aF]
 refine⟨⟨x.a.r,x.a.c,x.t,x.f⟩,hx,?_⟩
 simp only[aY,aU,aT,ay,aH,bP,bC,aN,aJ,au,aW,aV,bQ,bF,bG,bH,bT,bf,bJ,aZ,dZ,aG,aK,ah,aj,aA,aC,aB,aF]
 exact⟨fun h=> .inl h,fun h=> .inr h⟩
theorem JO(x:ZSt)(hx:((jK 5).pre x)):DT x:=by
 have hx:=aY.1 hx
 unfold DT
 simp only[wH,eu,vY,vW,wO,EO,Sl,wP,SS,RU,SV,RY,RZ,SY,gU,eH,fM,gV,DI,mD,xU,gK,BF,dY,cZ,vT,gJ,jf,gQ,gI,OG,OE,ji,gZ,lM]
 simp only[aY,aU,aT,ay,aH,bP,bC,aN,aJ,au,aW,aV,bQ,bF,bG,bH,bT,bf,bJ,aZ,dZ,aG,aK,ah,aj,aA,aC,aB,aF]
 refine⟨⟨x.a.r,x.a.c,x.t,x.f⟩,hx,?_⟩
 simp only[aY,aU,aT,ay,aH,bP,bC,aN,aJ,au,aW,aV,bQ,bF,bG,bH,bT,bf,bJ,aZ,dZ,aG,aK,ah,aj,aA,aC,aB,aF]
 exact⟨fun h=> .inl h,fun h=> .inr h⟩
theorem TA(x:ZSt)(hx:(Du.pre x)):Tm x:=by
 have hx:=aY.1 hx
 unfold Tm
 simp only[RQ,Si,RN,X8,RH,RI,afj,cZ,dY,gJ,jf,gQ,gI,gW,eH,fM,gV,gK,kV,gZ,eu,lM,vT]
 simp only[aY,aU,aT,ay,aH,bP,bC,aN,aJ,au,aW,aV,bQ,bF,bG,bH,bT,bf,bJ,aZ,dZ,aG,aK,ah,aj,aA,aC,aB,aF]
 refine⟨⟨x.a.l,x.t,x.f⟩,hx,?_⟩
 simp only[aY,aU,aT,ay,aH,bP,bC,aN,aJ,au,aW,aV,bQ,bF,bG,bH,bT,bf,bJ,aZ,dZ,aG,aK,ah,aj,aA,aC,aB,aF]
 exact⟨fun h=> .inl h,fun h=> .inr h⟩
theorem TB(x:ZSt)(hx:(Du.pre x)):Tn x:=by
 have hx:=aY.1 hx
 unfold Tn
 simp only[RQ,Si,RN,X7,RH,RI,afj,cZ,dY,gJ,jf,gQ,gI,gU,eH,fM,gV,gK,BF,kV,gZ,eu,lM,vT]
 simp only[aY,aU,aT,ay,aH,bP,bC,aN,aJ,au,aW,aV,bQ,bF,bG,bH,bT,bf,bJ,aZ,dZ,aG,aK,ah,aj,aA,aC,aB,aF]
 refine⟨⟨x.a.l,x.t,x.f⟩,hx,?_⟩
 simp only[aY,aU,aT,ay,aH,bP,bC,aN,aJ,au,aW,aV,bQ,bF,bG,bH,bT,bf,bJ,aZ,dZ,aG,aK,ah,aj,aA,aC,aB,aF]
 exact⟨fun h=> .inl h,fun h=> .inr h⟩
theorem LH(x:ZSt)(hx:((oh 4).pre x)):JC x:=by
 have hx:=aY.1 hx
 unfold JC
 simp only[wQ,eu,vZ,wG,S9,DC,afd,gW,eH,fM,nM,afb,ae9,aff,cZ,dY,gJ,jf,gQ,gI,Dx,Dy,uw,nK,gK,Dz,ji,gZ,lM,vT]
 simp only[aY,aU,aT,ay,aH,bP,bC,aN,aJ,au,aW,aV,bQ,bF,bG,bH,bT,bf,bJ,aZ,dZ,aG,aK,ah,aj,aA,aC,aB,aF]
 refine⟨⟨x.a.p,x.t,x.f⟩,hx,?_⟩
 simp only[ZTk.c,ZSt.c,aY,aU,aT,ay,aH,bP,bC,aN,aJ,au,aW,aV,bQ,bF,bG,bH,bT,bf,bJ,aZ,dZ,aG,aK,ah,aj,aA,aC,aB,aF]
 exact⟨fun h=> .inl h,fun y hy=> .inr ⟨y,hy,rfl,rfl⟩⟩
theorem LJ(x:ZSt)(hx:((oh 4).pre x)):JD x:=by
 have hx:=aY.1 hx
 unfold JD
 simp only[wQ,eu,vZ,wG,S9,DC,afd,gU,eH,fM,vS,afb,ae9,aff,cZ,dY,gJ,jf,gQ,gI,Dx,Dy,FP,xU,gK,BF,Dz,ji,gZ,lM,vT]
 simp only[aY,aU,aT,ay,aH,bP,bC,aN,aJ,au,aW,aV,bQ,bF,bG,bH,bT,bf,bJ,aZ,dZ,aG,aK,ah,aj,aA,aC,aB,aF]
 refine⟨⟨x.a.p,x.t,x.f⟩,hx,?_⟩
 simp only[ZTk.c,ZSt.c,aY,aU,aT,ay,aH,bP,bC,aN,aJ,au,aW,aV,bQ,bF,bG,bH,bT,bf,bJ,aZ,dZ,aG,aK,ah,aj,aA,aC,aB,aF]
 exact⟨fun h=> .inl h,fun y hy=> .inr ⟨y,hy,rfl,rfl⟩⟩
theorem LK(x:ZSt)(hx:((oh 5).pre x)):JE x:=by
 have hx:=aY.1 hx
 unfold JE
 simp only[wQ,eu,vZ,wG,Tc,DF,afe,gW,eH,fM,nM,afc,afa,afg,cZ,dY,gJ,jf,gQ,gI,Dx,Dy,uw,nK,gK,Dz,ji,gZ,lM,vT]
 simp only[aY,aU,aT,ay,aH,bP,bC,aN,aJ,au,aW,aV,bQ,bF,bG,bH,bT,bf,bJ,aZ,dZ,aG,aK,ah,aj,aA,aC,aB,aF]
 refine⟨⟨x.a.p,x.t,x.f⟩,hx,?_⟩
 simp only[ZTk.c,ZSt.c,aY,aU,aT,ay,aH,bP,bC,aN,aJ,au,aW,aV,bQ,bF,bG,bH,bT,bf,bJ,aZ,dZ,aG,aK,ah,aj,aA,aC,aB,aF]
 exact⟨fun h=> .inl h,fun y hy=> .inr ⟨y,hy,rfl,rfl⟩⟩
theorem LM(x:ZSt)(hx:((oh 5).pre x)):JF x:=by
 have hx:=aY.1 hx
 unfold JF
 simp only[wQ,eu,vZ,wG,Tc,DF,afe,gU,eH,fM,vS,afc,afa,afg,cZ,dY,gJ,jf,gQ,gI,Dx,Dy,FP,xU,gK,BF,Dz,ji,gZ,lM,vT]
 simp only[aY,aU,aT,ay,aH,bP,bC,aN,aJ,au,aW,aV,bQ,bF,bG,bH,bT,bf,bJ,aZ,dZ,aG,aK,ah,aj,aA,aC,aB,aF]
 refine⟨⟨x.a.p,x.t,x.f⟩,hx,?_⟩
 simp only[ZTk.c,ZSt.c,aY,aU,aT,ay,aH,bP,bC,aN,aJ,au,aW,aV,bQ,bF,bG,bH,bT,bf,bJ,aZ,dZ,aG,aK,ah,aj,aA,aC,aB,aF]
 exact⟨fun h=> .inl h,fun y hy=> .inr ⟨y,hy,rfl,rfl⟩⟩
theorem JQ(x:ZSt)(hx:((jL 4).pre x)):DU x:=by
 have hx:=aY.1 hx
 unfold DU
 simp only[eu,wo,wF,wu,gW,eH,fM,gV,wC,uw,nK,gK,dY,cZ,lM,vT,gJ,jf,gQ,gI,ji,gZ]
 simp only[aY,aU,aT,ay,aH,bP,bC,aN,aJ,au,aW,aV,bQ,bF,bG,bH,bT,bf,bJ,aZ,dZ,aG,aK,ah,aj,aA,aC,aB,aF]
 refine⟨⟨x.a.r,x.t,x.f⟩,hx,?_⟩
 first|done|(simp only[aY,aU,aT,ay,aH,bP,bC,aN,aJ,au,aW,aV,bQ,bF,bG,bH,bT,bf,bJ,aZ,dZ,aG,aK,ah,aj,aA,aC,aB,aF])
theorem JR(x:ZSt)(hx:((jL 4).pre x)):DV x:=by
 have hx:=aY.1 hx
 unfold DV
 simp only[eu,wo,wF,wu,gU,eH,fM,gV,wC,FP,xU,gK,BF,dY,cZ,lM,vT,gJ,jf,gQ,gI,ji,gZ]
 simp only[aY,aU,aT,ay,aH,bP,bC,aN,aJ,au,aW,aV,bQ,bF,bG,bH,bT,bf,bJ,aZ,dZ,aG,aK,ah,aj,aA,aC,aB,aF]
 refine⟨⟨x.a.r,x.t,x.f⟩,hx,?_⟩
 first|done|(simp only[aY,aU,aT,ay,aH,bP,bC,aN,aJ,au,aW,aV,bQ,bF,bG,bH,bT,bf,bJ,aZ,dZ,aG,aK,ah,aj,aA,aC,aB,aF])
theorem JU(x:ZSt)(hx:((jL 5).pre x)):DW x:=by
 have hx:=aY.1 hx
 unfold DW
 simp only[eu,wo,wF,wu,gW,eH,fM,gV,wC,uw,nK,gK,dY,cZ,lM,vT,gJ,jf,gQ,gI,ji,gZ]
 simp only[aY,aU,aT,ay,aH,bP,bC,aN,aJ,au,aW,aV,bQ,bF,bG,bH,bT,bf,bJ,aZ,dZ,aG,aK,ah,aj,aA,aC,aB,aF]
 refine⟨⟨x.a.r,x.t,x.f⟩,hx,?_⟩
 first|done|(simp only[aY,aU,aT,ay,aH,bP,bC,aN,aJ,au,aW,aV,bQ,bF,bG,bH,bT,bf,bJ,aZ,dZ,aG,aK,ah,aj,aA,aC,aB,aF])
theorem JV(x:ZSt)(hx:((jL 5).pre x)):DX x:=by
 have hx:=aY.1 hx
 unfold DX
 simp only[eu,wo,wF,wu,gU,eH,fM,gV,wC,FP,xU,gK,BF,dY,cZ,lM,vT,gJ,jf,gQ,gI,ji,gZ]
 simp only[aY,aU,aT,ay,aH,bP,bC,aN,aJ,au,aW,aV,bQ,bF,bG,bH,bT,bf,bJ,aZ,dZ,aG,aK,ah,aj,aA,aC,aB,aF]
 refine⟨⟨x.a.r,x.t,x.f⟩,hx,?_⟩
 first|done|(simp only[aY,aU,aT,ay,aH,bP,bC,aN,aJ,au,aW,aV,bQ,bF,bG,bH,bT,bf,bJ,aZ,dZ,aG,aK,ah,aj,aA,aC,aB,aF])
theorem FT(x:ou)(hx:((iE 4).pre x)):zf x:=by
 have hx:=aY.1 hx
 unfold zf
 simp only[eu,EP,nN,ig,ER,pI,ES,ET,uD,cZ,dY,gJ,jf,gQ,gI,gW,eH,JA,gV,nM,uw,nK,gK,ji,kV,gZ]
 simp only[aY,aU,aT,ay,aH,bP,bC,aN,aJ,au,aW,aV,bQ,bF,bG,bH,bT,bf,bJ,aZ,dZ,aG,aK,ah,aj,aA,aC,aB,aF]
 refine⟨x.w,hx,?_⟩
 simp only[ou.w,ZWr.fr,aY,aU,aT,ay,aH,bP,bC,aN,aJ,au,aW,aV,bQ,bF,bG,bH,bT,bf,bJ,aZ,dZ,aG,aK,ah,aj,aA,aC,aB,aF]
 exact⟨fun h=> .inl h,fun h=> .inr h⟩
theorem FU(x:ou)(hx:((iE 4).pre x)):zh x:=by
 have hx:=aY.1 hx
 unfold zh
 simp only[eu,EP,nN,ig,ER,pG,ES,ET,uD,cZ,dY,gJ,jf,gQ,gI,gU,eH,gV,vS,FP,xU,gK,BF,ji,kV,gZ]
 simp only[aY,aU,aT,ay,aH,bP,bC,aN,aJ,au,aW,aV,bQ,bF,bG,bH,bT,bf,bJ,aZ,dZ,aG,aK,ah,aj,aA,aC,aB,aF]
 refine⟨x.w,hx,?_⟩
 simp only[ou.w,ZWr.fr,aY,aU,aT,ay,aH,bP,bC,aN,aJ,au,aW,aV,bQ,bF,bG,bH,bT,bf,bJ,aZ,dZ,aG,aK,ah,aj,aA,aC,aB,aF]
 exact⟨fun h=> .inl h,fun h=> .inr h⟩
theorem FV(x:ou)(hx:((iE 5).pre x)):zi x:=by
 have hx:=aY.1 hx
 unfold zi
 simp only[eu,EP,nN,ig,ER,pI,ES,ET,uD,cZ,dY,gJ,jf,gQ,gI,gW,eH,JA,gV,nM,uw,nK,gK,ji,kV,gZ]
 simp only[aY,aU,aT,ay,aH,bP,bC,aN,aJ,au,aW,aV,bQ,bF,bG,bH,bT,bf,bJ,aZ,dZ,aG,aK,ah,aj,aA,aC,aB,aF]
 refine⟨x.w,hx,?_⟩
 simp only[ou.w,ZWr.fr,aY,aU,aT,ay,aH,bP,bC,aN,aJ,au,aW,aV,bQ,bF,bG,bH,bT,bf,bJ,aZ,dZ,aG,aK,ah,aj,aA,aC,aB,aF]
 exact⟨fun h=> .inl h,fun h=> .inr h⟩
theorem FW(x:ou)(hx:((iE 5).pre x)):zk x:=by
 have hx:=aY.1 hx
 unfold zk
 simp only[eu,EP,nN,ig,ER,pG,ES,ET,uD,cZ,dY,gJ,jf,gQ,gI,gU,eH,gV,vS,FP,xU,gK,BF,ji,kV,gZ]
 simp only[aY,aU,aT,ay,aH,bP,bC,aN,aJ,au,aW,aV,bQ,bF,bG,bH,bT,bf,bJ,aZ,dZ,aG,aK,ah,aj,aA,aC,aB,aF]
 refine⟨x.w,hx,?_⟩
 simp only[ou.w,ZWr.fr,aY,aU,aT,ay,aH,bP,bC,aN,aJ,au,aW,aV,bQ,bF,bG,bH,bT,bf,bJ,aZ,dZ,aG,aK,ah,aj,aA,aC,aB,aF]
 exact⟨fun h=> .inl h,fun h=> .inr h⟩
theorem FX(x:ou)(hx:(pF.pre x)):zl x:=by
 have hx:=aY.1 hx
 unfold zl
 simp only[afh,nN,afk,pI,RD,RF,uD,cZ,dY,eu,gJ,jf,gQ,gI,gW,eH,JA,gV,nM,uw,nK,gK,ji,kV,gZ]
 simp only[aY,aU,aT,ay,aH,bP,bC,aN,aJ,au,aW,aV,bQ,bF,bG,bH,bT,bf,bJ,aZ,dZ,aG,aK,ah,aj,aA,aC,aB,aF]
 refine⟨x.w,hx,?_⟩
 simp only[ou.w,ZWr.fr,aY,aU,aT,ay,aH,bP,bC,aN,aJ,au,aW,aV,bQ,bF,bG,bH,bT,bf,bJ,aZ,dZ,aG,aK,ah,aj,aA,aC,aB,aF]
 exact⟨fun h=> .inl h,fun h=> .inr h⟩
theorem FY(x:ou)(hx:(pF.pre x)):zn x:=by
 have hx:=aY.1 hx
 unfold zn
 simp only[afh,nN,afk,pG,RD,RF,uD,cZ,dY,eu,gJ,jf,gQ,gI,gU,eH,gV,vS,FP,xU,gK,BF,ji,kV,gZ]
 simp only[aY,aU,aT,ay,aH,bP,bC,aN,aJ,au,aW,aV,bQ,bF,bG,bH,bT,bf,bJ,aZ,dZ,aG,aK,ah,aj,aA,aC,aB,aF]
 refine⟨x.w,hx,?_⟩
 simp only[ou.w,ZWr.fr,aY,aU,aT,ay,aH,bP,bC,aN,aJ,au,aW,aV,bQ,bF,bG,bH,bT,bf,bJ,aZ,dZ,aG,aK,ah,aj,aA,aC,aB,aF]
 exact⟨fun h=> .inl h,fun h=> .inr h⟩
theorem LP(x:lq)(hx:(uo.pre x)):JG x:=by
 have hx:=aY.1 hx
 unfold JG
 simp only[RG,nN,ig,RJ,gW,qM,vV,wJ,Sm,wI,Sr,Sv,Sz,SA,SB,cZ,dY,OD,eu,Dv,gI,ae8,Dw,eH,JA,gV,nM,uw,nK,gK,jf,gQ,ji,kV,gZ,gJ]
 simp only[aY,aU,aT,ay,aH,bP,bC,aN,aJ,au,aW,aV,bQ,bF,bG,bH,bT,bf,bJ,aZ,dZ,aG,aK,ah,aj,aA,aC,aB,aF]
 refine⟨x.w,hx,?_⟩
 simp only[lq.w,ZRe.fr,ZRe.fr2,aY,aU,aT,ay,aH,bP,bC,aN,aJ,au,aW,aV,bQ,bF,bG,bH,bT,bf,bJ,aZ,dZ,aG,aK,ah,aj,aA,aC,aB,aF]
 exact⟨fun h=> .inl h,fun h=> .inr (.inl h),fun h=> .inr (.inr h)⟩
theorem LQ(x:lq)(hx:(uo.pre x)):JH x:=by
 have hx:=aY.1 hx
 unfold JH
 simp only[RG,nN,ig,RJ,gU,qM,vU,wJ,Sm,wI,Sr,Sv,Sz,SA,SB,cZ,dY,OD,eu,Dv,gI,ae8,Dw,eH,gV,vS,FP,xU,gK,BF,jf,gQ,ji,kV,gZ,gJ]
 simp only[aY,aU,aT,ay,aH,bP,bC,aN,aJ,au,aW,aV,bQ,bF,bG,bH,bT,bf,bJ,aZ,dZ,aG,aK,ah,aj,aA,aC,aB,aF]
 refine⟨x.w,hx,?_⟩
 simp only[lq.w,ZRe.fr,ZRe.fr2,aY,aU,aT,ay,aH,bP,bC,aN,aJ,au,aW,aV,bQ,bF,bG,bH,bT,bf,bJ,aZ,dZ,aG,aK,ah,aj,aA,aC,aB,aF]
 exact⟨fun h=> .inl h,fun h=> .inr (.inl h),fun h=> .inr (.inr h)⟩
theorem LU(x:lq)(hx:(uq.pre x)):JI x:=by
 have hx:=aY.1 hx
 unfold JI
 simp only[afi,RP,JB,Rz,gW,OI,qM,vV,wB,SC,y8,wz,SG,DK,SH,SI,SK,SL,cZ,dY,OC,eu,Dv,gI,ae7,Dw,eH,JA,gV,nM,uw,nK,gK,jf,gQ,ji,kV,gZ]
 simp only[aY,aU,aT,ay,aH,bP,bC,aN,aJ,au,aW,aV,bQ,bF,bG,bH,bT,bf,bJ,aZ,dZ,aG,aK,ah,aj,aA,aC,aB,aF]
 refine⟨x.w,hx,?_⟩
 simp only[lq.w,ZRe.fr,ZRe.fr2,aY,aU,aT,ay,aH,bP,bC,aN,aJ,au,aW,aV,bQ,bF,bG,bH,bT,bf,bJ,aZ,dZ,aG,aK,ah,aj,aA,aC,aB,aF]
 exact⟨fun h=> .inl h,fun h=> .inr (.inl h),fun h=> .inr (.inr h)⟩
theorem LV(x:lq)(hx:(uq.pre x)):JJ x:=by
 have hx:=aY.1 hx
 unfold JJ
 simp only[afi,RP,JB,Rz,gU,OI,qM,vU,wB,SC,y9,wz,SG,DK,SH,SI,SK,SL,cZ,dY,OC,eu,Dv,gI,ae7,Dw,eH,gV,vS,FP,xU,gK,BF,jf,gQ,ji,kV,gZ]
 simp only[aY,aU,aT,ay,aH,bP,bC,aN,aJ,au,aW,aV,bQ,bF,bG,bH,bT,bf,bJ,aZ,dZ,aG,aK,ah,aj,aA,aC,aB,aF]
 refine⟨x.w,hx,?_⟩
 simp only[lq.w,ZRe.fr,ZRe.fr2,aY,aU,aT,ay,aH,bP,bC,aN,aJ,au,aW,aV,bQ,bF,bG,bH,bT,bf,bJ,aZ,dZ,aG,aK,ah,aj,aA,aC,aB,aF]
 exact⟨fun h=> .inl h,fun h=> .inr (.inl h),fun h=> .inr (.inr h)⟩
theorem ain:bZ Tryz.prog 19 (jK 4).N.ctr:=dH (bU Ox) 10 (fun _=>⟨rfl,rfl,rfl,rfl⟩) fun x hx=>Eq.mp (Td x) (JK x hx.1)
theorem aio:bZ Tryz.prog 19 (jK 4).P.ctr:=dH (bU Ox) 11 (fun _=>⟨rfl,rfl,rfl,rfl⟩) fun x hx=>Eq.mp (Tf x) (JL x hx.1)
theorem OJ:bZ Tryz.prog 19 (jK 4).M.ctr:=wR (fun _=>⟨fun _=>rfl,fun _=>rfl,trivial⟩) ain aio
theorem aip:bZ Tryz.prog 19 (jK 5).N.ctr:=dH (bU Oy) 10 (fun _=>⟨rfl,rfl,rfl,rfl⟩) fun x hx=>Eq.mp (Ti x) (JM x hx.1)
theorem aiq:bZ Tryz.prog 19 (jK 5).P.ctr:=dH (bU Oy) 11 (fun _=>⟨rfl,rfl,rfl,rfl⟩) fun x hx=>Eq.mp (Tj x) (JO x hx.1)
theorem OL:bZ Tryz.prog 19 (jK 5).M.ctr:=wR (fun _=>⟨fun _=>rfl,fun _=>rfl,trivial⟩) aip aiq
theorem aq4:bZ Tryz.prog 19 Du.N.ctr:=dH (bU ae6) 10 (fun _=>⟨rfl,rfl,rfl,rfl⟩) fun x hx=>Eq.mp (abQ x) (TA x hx.1)
theorem aq5:bZ Tryz.prog 19 Du.P.ctr:=dH (bU ae6) 11 (fun _=>⟨rfl,rfl,rfl,rfl⟩) fun x hx=>Eq.mp (abR x) (TB x hx.1)
theorem aq6:bZ Tryz.prog 19 Du.M.ctr:=wR (fun _=>⟨fun _=>rfl,fun _=>rfl,trivial⟩) aq4 aq5
theorem anm:bZ Tryz.prog 19 (oh 4).N.ctr:=dH (bU X3) 10 (fun _=>⟨rfl,rfl,rfl,rfl⟩) fun x hx=>Eq.mp (X9 x) (LH x hx.1)
theorem ano:bZ Tryz.prog 19 (oh 4).P.ctr:=dH (bU X3) 11 (fun _=>⟨rfl,rfl,rfl,rfl⟩) fun x hx=>Eq.mp (Ya x) (LJ x hx.1)
theorem Yh:bZ Tryz.prog 19 (oh 4).M.ctr:=wR (fun _=>⟨fun _=>rfl,fun _=>rfl,trivial⟩) anm ano
theorem anp:bZ Tryz.prog 19 (oh 5).N.ctr:=dH (bU X4) 10 (fun _=>⟨rfl,rfl,rfl,rfl⟩) fun x hx=>Eq.mp (Yb x) (LK x hx.1)
theorem anq:bZ Tryz.prog 19 (oh 5).P.ctr:=dH (bU X4) 11 (fun _=>⟨rfl,rfl,rfl,rfl⟩) fun x hx=>Eq.mp (Yc x) (LM x hx.1)
theorem Yi:bZ Tryz.prog 19 (oh 5).M.ctr:=wR (fun _=>⟨fun _=>rfl,fun _=>rfl,trivial⟩) anp anq
theorem air:bZ Tryz.prog 19 (jL 4).N.ctr:=dH (bU Oz) 10 (fun _=>⟨rfl,rfl,rfl,rfl⟩) fun x hx=>Eq.mp (Tq x) (JQ x hx.1)
theorem ais:bZ Tryz.prog 19 (jL 4).P.ctr:=dH (bU Oz) 11 (fun _=>⟨rfl,rfl,rfl,rfl⟩) fun x hx=>Eq.mp (Tt x) (JR x hx.1)
theorem OM:bZ Tryz.prog 19 (jL 4).M.ctr:=wR (fun _=>⟨fun _=>rfl,trivial⟩) air ais
theorem ait:bZ Tryz.prog 19 (jL 5).N.ctr:=dH (bU OA) 10 (fun _=>⟨rfl,rfl,rfl,rfl⟩) fun x hx=>Eq.mp (Tv x) (JU x hx.1)
theorem aiu:bZ Tryz.prog 19 (jL 5).P.ctr:=dH (bU OA) 11 (fun _=>⟨rfl,rfl,rfl,rfl⟩) fun x hx=>Eq.mp (Tz x) (JV x hx.1)
theorem OO:bZ Tryz.prog 19 (jL 5).M.ctr:=wR (fun _=>⟨fun _=>rfl,trivial⟩) ait aiu
theorem abU:bZ Tryz.prog 19 (iE 4).N.ctr:=dH (bU Jy) 10 (fun _=>⟨rfl,rfl,rfl,rfl⟩) fun x hx=>Eq.mp (Lp x) (FT x hx.1)
theorem abV:bZ Tryz.prog 19 (iE 4).P.ctr:=dH (bU Jy) 11 (fun _=>⟨rfl,rfl,rfl,rfl⟩) fun x hx=>Eq.mp (Lr x) (FU x hx.1)
theorem abW:bZ Tryz.prog 19 (iE 4).M.ctr:=wR (fun _=>⟨fun _=>rfl,fun _=>rfl,trivial⟩) abU abV
theorem abX:bZ Tryz.prog 19 (iE 5).N.ctr:=dH (bU Jz) 10 (fun _=>⟨rfl,rfl,rfl,rfl⟩) fun x hx=>Eq.mp (Ls x) (FV x hx.1)
theorem abY:bZ Tryz.prog 19 (iE 5).P.ctr:=dH (bU Jz) 11 (fun _=>⟨rfl,rfl,rfl,rfl⟩) fun x hx=>Eq.mp (Lu x) (FW x hx.1)
theorem JW:bZ Tryz.prog 19 (iE 5).M.ctr:=wR (fun _=>⟨fun _=>rfl,fun _=>rfl,trivial⟩) abX abY
theorem abZ:bZ Tryz.prog 19 pF.N.ctr:=dH (bU OB) 10 (fun _=>⟨rfl,rfl,rfl,rfl⟩) fun x hx=>Eq.mp (LC x) (FX x hx.1)
theorem ab1:bZ Tryz.prog 19 pF.P.ctr:=dH (bU OB) 11 (fun _=>⟨rfl,rfl,rfl,rfl⟩) fun x hx=>Eq.mp (LD x) (FY x hx.1)
theorem ab2:bZ Tryz.prog 19 pF.M.ctr:=wR (fun _=>⟨fun _=>rfl,fun _=>rfl,trivial⟩) abZ ab1
theorem anr:bZ Tryz.prog 19 uo.N.ctr:=dH (bU X5) 10 (fun _=>⟨rfl,rfl,rfl,rfl⟩) fun x hx=>Eq.mp (Yd x) (LP x hx.1)
theorem ant:bZ Tryz.prog 19 uo.P.ctr:=dH (bU X5) 11 (fun _=>⟨rfl,rfl,rfl,rfl⟩) fun x hx=>Eq.mp (Ye x) (LQ x hx.1)
theorem Yj:bZ Tryz.prog 19 uo.M.ctr:=wR (fun _=>⟨fun _=>rfl,fun _=>rfl,fun _=>rfl,trivial⟩) anr ant
theorem anu:bZ Tryz.prog 19 uq.N.ctr:=dH (bU X6) 11 (fun _=>⟨rfl,rfl,rfl,rfl⟩) fun x hx=>Eq.mp (Yf x) (LU x hx.1)
theorem anv:bZ Tryz.prog 19 uq.P.ctr:=dH (bU X6) 12 (fun _=>⟨rfl,rfl,rfl,rfl⟩) fun x hx=>Eq.mp (Yg x) (LV x hx.1)
theorem Yk:bZ Tryz.prog 19 uq.M.ctr:=wR (fun _=>⟨fun _=>rfl,fun _=>rfl,fun _=>rfl,trivial⟩) anu anv
theorem Yl(x:ZPb)(hx:x.chg.okE/\(∃i j,x.chg.inP i j)/\ ∀k,x.a.c.o k+8<1099511627776):abS x:=by
 unfold abS
 simp only[aq2,aq1,aij,LG,aq3]
 simp only[aY,aU,aT,ay,aH,bP,bC,aN,aJ,au,aW,aV,bQ,bF,bG,bH,bT,bf,bJ,aZ,dZ,aG,aK,ah,aj,aA,aC,aB,aF]
 exact⟨by decide,x.chg,hx,⟨rfl,rfl⟩,⟨rfl,rfl,rfl,rfl,rfl,rfl,rfl,rfl,rfl,rfl⟩,by decide,by decide,rfl⟩
theorem Ym(x:ZPb)(hx:x.chg.okD/\(∃i j,x.chg.inP i j)/\0<=x.a.id/\x.a.id<1152921504606846976/\x.a.n≠0):abT x:=by
 unfold abT
 simp only[aq2,aq1,aij,LG,aq3]
 simp only[aY,aU,aT,ay,aH,bP,bC,aN,aJ,au,aW,aV,bQ,bF,bG,bH,bT,bf,bJ,aZ,dZ,aG,aK,ah,aj,aA,aC,aB,aF]
 exact⟨by decide,x.chg,hx,⟨rfl,rfl⟩,⟨rfl,rfl,rfl,rfl,rfl,rfl,rfl,rfl,rfl,rfl⟩,by decide,by decide,rfl⟩
theorem afl:bZ Tryz.prog 19 anj:=dV dB mixed aqZ noA 200 6 (fun _=>rfl) (fun _=>rfl) fun x hx=>Eq.mp (aik x) (Yl x (aY.1 hx))
theorem afm:bZ Tryz.prog 19 ank:=dV dB mixed aq0 noA 200 6 (fun _=>rfl) (fun _=>rfl) fun x hx=>Eq.mp (ail x) (Ym x (aY.1 hx))
structure ZRt where
 c:fD
 l:ZLn
 t:Nat
 f:ZFr
def arnC:dw:=abp .any .any (.ptr 1 0) .any .any .any .any
def aw9:dw:=abp .any .any (.ptr 1 0) .any .any (.ptr 2 0) .any
noncomputable def DY:Ctr:=det ZRt (fun x=>[.ptr 0 0,i64 x.t,{x.f with had:=false}.av 4 5 fO]) 2 (fun x=>[arnC,.abs (bK (x.c.os 0))]) (fun x=>Hd (x.c.ok/\x.t<x.c.t/\x.c.now≠x.f.epoch/\0<=x.f.line)) (fun x=>{x.f with had:=false,epoch:=x.c.now}.av 4 5 fO) 2 (fun x=>[arnC,.abs (bK (x.c.os 0))])
def ZRt.bad(x:ZRt):Prop:=x.c.ok/\x.l.ok/\x.t<x.c.t/\(x.c.now≠x.f.epoch\/x.l.n=0\/x.l.head≠x.f.old)/\0<=x.f.line
noncomputable def DZ:Ctr:=det ZRt (fun x=>[.ptr 0 0,i64 x.t,{x.f with had:=true}.av 5 5 fO]) 3 (fun x=>[aw9,.abs (bK (x.c.os 0)),.abs (bK x.l.os)]) (fun x=>Hd x.bad) (fun x=>{x.f with had:=false,old:=qO,ans:=emp,epoch:=x.c.now}.av 5 1 fO) 3 (fun x=>[aw9,.abs (bK (x.c.os 0)),.abs (bK x.l.os)])
noncomputable def axa:jY:=Bv++[(205,eG vJ),(204,eG (Wq 0).ctr),(45,eG (QC 0).ctr)]
noncomputable def axb:jY:=Bv++[(205,eG qy),(204,eG (Wq 0).ctr),(45,eG (QC 0).ctr),(154,eG vC.ctr)]
noncomputable def anw:Ctr:={abG with pre:=fun x=>Hd (x.l.ok/\(x.l.n=0->x.f.line<0))}
structure ZGb where
 p:dI
 i:Nat
 k:Nat
 l:ZLn
 t:Nat
 f:ZFr
def ZGb.pb(x:ZGb):gY:=⟨x.p,x.i,x.k⟩
def axc:dw:=abp (.ptr 1 0) .any .any .any .any (.ptr 2 0) .any
noncomputable def OQ:Ctr:=det ZGb (fun x=>[.ptr 0 0,i64 x.t,{x.f with line:=x.pb.line}.av 5 1 fO]) 3 (fun x=>[axc,.abs (bK x.p.os),.abs (bK x.l.os)]) (fun x=>Hd (x.pb.ok/\x.l.ok/\x.l.n=0)) (fun x=>{x.f with had:=false,old:=qO,line:= -1}.av 5 6 fO) 3 (fun x=>[axc,.abs (bK (x.p.give x.i x.k).os),.abs (bK x.l.os)])
noncomputable def axd:jY:=Bv++[(154,eG vC.ctr),(65,eG ak9.ctr)]
noncomputable def Yn(k:Int):Ctr:=det ZSt (fun x=>[.ptr 0 0,i64 x.t,x.f.av k 7 fO]) 1 (fun x=>[.abs (bK x.a.os)]) (fun _=>Hd True) (fun x=>x.f.av k 7 fO) 1 (fun x=>[.abs (bK x.a.os)])
noncomputable def Yo:jR:=nG fD (fun _=>[.ptr 0 0]) 1 (fun c=>[.m (c.os 0)]) (fun c=>Hd (c.ok/\c.jU=0)) (fun _=>i64 0) 1 (fun c=>[.m (c.start.os 1)])
structure ZCd where
 c:fD
 d:dS
 ph:Nat
def ZCd.cd(x:ZCd):rU:=⟨x.c,x.d⟩
noncomputable def afn:jR:={X:=ZCd,args:=fun _=>[.ptr 0 0,.ptr 1 0],k:=2,l:=fun x=>[.m (x.c.os 1),.m x.d.os],pre:=fun x=>Hd x.cd.ok,outs:=[
 {Y:=Nat,post:=fun x k=>Hd (k<258/\x.c.L k=true/\ ∀j,j<k->x.c.L j=false),ret:=fun _ _=>KP 1,m:=2,l:=fun x k=>[.m ((x.c.adL k).os 1),.m (x.d.flush k).os]},
 {Y:=Unit,post:=fun x _=>Hd (∀j,j<258->x.c.L j=false),ret:=fun _ _=>KP 2,m:=2,l:=fun x _=>[.m (x.c.os 2),.m x.d.fence.os]}]}
noncomputable def afo:jR:=nG ZCd (fun _=>[.ptr 0 0,.ptr 1 0]) 2 (fun x=>[.m (x.c.os 2),.m x.d.os]) (fun x=>Hd x.cd.ok) (fun _=>KP 3) 2 (fun x=>[.m (x.c.os 3),.m (x.d.store 1 0 64 (jw x.c.jU)).os])
noncomputable def afp:jR:=nG ZCd (fun _=>[.ptr 0 0,.ptr 1 0]) 2 (fun x=>[.m (x.c.os 3),.m x.d.os]) (fun x=>Hd x.cd.ok) (fun _=>KP 1) 2 (fun x=>[.m (x.c.os 4),.m (x.d.flush 1).os])
noncomputable def afq:jR:=nG ZCd (fun _=>[.ptr 0 0,.ptr 1 0]) 2 (fun x=>[.m (x.c.os 4),.m x.d.os]) (fun x=>Hd x.cd.ok) (fun _=>KP 2) 2 (fun x=>[.m (x.c.fin.os 0),.m x.d.fence.os])
noncomputable def afr:jR:=nG ZCd (fun _=>[.ptr 0 0,.ptr 1 0]) 2 (fun x=>[.m (x.c.os 0),.m x.d.os]) (fun x=>Hd (x.c.jU=0)) (fun _=> .tup [i64 0,i64 12]) 2 (fun x=>[.m (x.c.os 0),.m x.d.os])
noncomputable def sK:xR:={X:=ZSt,args:=fun x=>[.ptr 0 0,i64 x.t,{x.f with had:=false}.av 4 5 fO],a:=ZSt.a,k:=1,ex:=fun _=>[],pre:=fun x=>Hd (x.a.c.ok/\x.t<x.a.c.t/\x.a.c.now≠x.f.epoch/\0<=x.f.line),outs:=[
 {Y:=Unit,post:=fun _ _=>True,ret:=fun x _=>{x.f with had:=false,epoch:=x.a.c.now}.av 4 5 fO,a:=fun x _=>x.a,m:=1,ex:=fun _ _=>[]}]}
def ZSt.rt(x:ZSt):ZRt:=⟨x.a.c,x.a.l,x.t,x.f⟩
noncomputable def sN:xR:={X:=ZSt,args:=fun x=>[.ptr 0 0,i64 x.t,{x.f with had:=true}.av 5 5 fO],a:=ZSt.a,k:=1,ex:=fun _=>[],pre:=fun x=>Hd x.rt.bad,outs:=[
 {Y:=Unit,post:=fun _ _=>True,ret:=fun x _=>{x.f with had:=false,old:=qO,ans:=emp,epoch:=x.a.c.now}.av 5 1 fO,a:=fun x _=>x.a,m:=1,ex:=fun _ _=>[]}]}
noncomputable def BG:xR:={Du with pre:=fun x=>Hd (x.a.l.ok/\(x.a.l.n=0->x.f.line<0))}
structure anx where
 a:dF
 f:ZFr
 t:Nat
 i:Nat
 k:Nat
def anx.pb(x:anx):gY:=⟨x.a.p,x.i,x.k⟩
noncomputable def BH:xR:={X:=anx,args:=fun x=>[.ptr 0 0,i64 x.t,{x.f with line:=x.pb.line}.av 5 1 fO],a:=anx.a,k:=1,ex:=fun _=>[],pre:=fun x=>Hd (x.pb.ok/\x.a.l.ok/\x.a.l.n=0),outs:=[
 {Y:=Unit,post:=fun _ _=>True,ret:=fun x _=>{x.f with had:=false,old:=qO,line:= -1}.av 5 6 fO,a:=fun x _=>x.a.UR (x.a.p.give x.i x.k),m:=1,ex:=fun _ _=>[]}]}
structure ZTs where
 a:dF
 f:ZFr
 ph:Int
def ZTs.st(s:ZTs)(t:Nat):ZSt:=⟨s.a,s.f,t⟩
def ZTs.pb(s:ZTs)(t ln:Nat):ZPb:=⟨s.a,s.f,t,ln⟩
def wE(t:Nat)(s:ZTs)(Q:ZTs->Prop):Prop:=
 (s.ph=0/\(s.a.r.ok/\s.a.c.ok/\t<s.a.r.t/\s.a.r.has t=0)/\(400<s.f.value.size->Q ⟨s.a,{s.f with code:=5},7⟩)/\(s.f.value.size<=400->Q ⟨s.a.sJ t s.a.r.now,{s.f with epoch:=s.a.c.now},3⟩))\/
 (s.ph=3/\(s.a.p.ok/\s.f.value.size<=400)/\((∀i,i<s.a.p.n->s.a.p.cls i≠ -1/\s.a.p.full (ned s.f.value.size) i)->Q ⟨s.a,{s.f with cls:=ned s.f.value.size,ans:=emp,code:=4},6⟩)/\
  ∀i j:Nat,s.a.p.takes (ned s.f.value.size) i j->Q ⟨s.a.UR (s.a.p.take (ned s.f.value.size) i j),{s.f with cls:=ned s.f.value.size,line:=2+i*8+j*spn (ned s.f.value.size),piece:=0},4⟩)\/
 (s.ph=4/\ ∃ln p:Nat,s.f=(ZWr.mk s.a.d t s.f ln s.f.cls p).fr p/\(ZWr.mk s.a.d t s.f ln s.f.cls p).ok/\(p+1≠spn s.f.cls->Q ⟨s.a.Ry (ZWr.mk s.a.d t s.f ln s.f.cls p).d',{s.f with piece:=(p+1:Nat)},4⟩)/\(p+1=spn s.f.cls->Q ⟨s.a.Ry (ZWr.mk s.a.d t s.f ln s.f.cls p).d',{s.f with piece:=0},5⟩))\/
 (s.ph=5/\s.f.had=false/\ ∃ln:Nat,s.f.line=ln/\((s.pb t ln).chg.okE/\(∃i j,(s.pb t ln).chg.inP i j)/\ ∀k,s.a.c.o k+8<1099511627776)/\Q ⟨(s.pb t ln).chg.enq,{s.f with found:=false,aep:=s.f.epoch,line:= -1},6⟩)\/
 (s.ph=5/\s.f.had=false/\(s.a.c.ok/\t<s.a.c.t/\s.a.c.now≠s.f.epoch/\0<=s.f.line)/\Q ⟨s.a,{s.f with epoch:=s.a.c.now},5⟩)\/
 (s.ph=6/\(s.a.r.ok/\t<s.a.r.t)/\Q ⟨s.a.sJ t 0,s.f,7⟩)\/
 (s.ph=7/\Q s)
def wD(t:Nat)(b:dN)(n:Nat)(s:ZTs)(Q:Nat->ZTs->Prop):Prop:=
 (s.ph=0/\n=0/\(s.a.r.ok/\s.a.c.ok/\t<s.a.r.t/\s.a.r.has t=0)/\Q 0 ⟨s.a.sJ t s.a.r.now,{s.f with epoch:=s.a.c.now},1⟩)\/
 (s.ph=1/\n=0/\(s.a.l.ok/\(s.a.l.n=0->s.f.line<0))/\(s.a.l.n=0->Q 0 ⟨s.a,{s.f with had:=false,old:=qO},6⟩)/\(s.a.l.n≠0->Q 0 ⟨s.a,{s.f with had:=true,old:=s.a.l.head,piece:=0},2⟩))\/
 (s.ph=1/\n=0/\ ∃i k,(gY.ok ⟨s.a.p,i,k⟩/\s.a.l.ok/\s.a.l.n=0)/\s.f.line=gY.line ⟨s.a.p,i,k⟩/\Q 0 ⟨s.a.UR (s.a.p.give i k),{s.f with had:=false,old:=qO,line:= -1},6⟩)\/
 (s.ph=2/\ ∃ln:Nat,s.f=(ZRe.mk s.a.d t s.f b ln n).fr n/\(ZRe.mk s.a.d t s.f b ln n).ok/\(n+1≠spn b.cls->Q (n+1) ⟨s.a,{s.f with piece:=(n+1:Nat)},2⟩)/\(n+1=spn b.cls->Q 0 ⟨s.a,{s.f with piece:=(n+1:Nat),ans:=b.value},if s.f.line<0 then 3 else 5⟩))\/
 (s.ph=3/\n=0/\(s.a.p.ok/\s.f.value.size<=400)/\((∀i,i<s.a.p.n->s.a.p.cls i≠ -1/\s.a.p.full 0 i)->Q 0 ⟨s.a,{s.f with cls:=0,ans:=emp,code:=4},6⟩)/\
  ∀i j:Nat,s.a.p.takes 0 i j->Q 0 ⟨s.a.UR (s.a.p.take 0 i j),{s.f with cls:=0,line:=2+i*8+j*spn 0,piece:=0},4⟩)\/
 (s.ph=4/\n=0/\s.f.cls=0/\ ∃ln:Nat,s.f=(ZWr.mk s.a.d t s.f ln 0 0).fr 0/\(ZWr.mk s.a.d t s.f ln 0 0).ok/\Q 0 ⟨s.a.Ry (ZWr.mk s.a.d t s.f ln 0 0).d',{s.f with piece:=0},5⟩)\/
 (s.ph=5/\n=0/\s.f.had=true/\ ∃ln:Nat,s.f.line=ln/\((s.pb t ln).chg.okD/\(∃i j,(s.pb t ln).chg.inP i j)/\0<=s.a.id/\s.a.id<1152921504606846976/\s.a.n≠0)/\Q 0 ⟨(s.pb t ln).chg.deq,{s.f with found:=true,aep:=s.f.epoch,line:= -1},6⟩)\/
 (s.ph=5/\n=0/\s.f.had=true/\(s.st t).rt.bad/\Q 0 ⟨s.a,{s.f with had:=false,old:=qO,ans:=emp,epoch:=s.a.c.now},1⟩)\/
 (s.ph=6/\n=0/\(s.a.r.ok/\t<s.a.r.t)/\Q 0 ⟨s.a.sJ t 0,s.f,7⟩)\/
 (s.ph=7/\n=0/\Q 0 s)
structure ZWe where
 s:ZTs
 t:Nat
 q:ZTs->Prop
noncomputable def axe:Ctr:={X:=ZWe,args:=fun x=>[.ptr 0 0,i64 x.t,x.s.f.av 4 x.s.ph fO],k:=1,os:=fun x=>[.abs (bK x.s.a.os)],pre:=fun x=>Hd (wE x.t x.s x.q),outs:=[
 {Y:=ZTs,post:=fun x y=>Hd (x.q y),ret:=fun _ y=>y.f.av 4 y.ph fO,m:=1,os:=fun _ y=>[.abs (bK y.a.os)]}]}
structure ZWd where
 s:ZTs
 t:Nat
 b:dN
 n:Nat
 q:Nat->ZTs->Prop
noncomputable def asE:Ctr:={X:=ZWd,args:=fun x=>[.ptr 0 0,i64 x.t,x.s.f.av 5 x.s.ph fO],k:=1,os:=fun x=>[.abs (bK x.s.a.os)],pre:=fun x=>Hd (x.n=0/\wD x.t x.b 0 x.s x.q),outs:=[
 {Y:=ZTs,post:=fun x y=>Hd (x.q 0 y),ret:=fun _ y=>y.f.av 5 y.ph fO,m:=1,os:=fun _ y=>[.abs (bK y.a.os)]},
 {Y:=ZTs,post:=fun x y=>Hd (x.q 1 y/\y.ph=2),ret:=fun _ y=>y.f.av 5 2 (.slW 1 0 1 64),m:=2,os:=fun x y=>[.abs (bK y.a.os),GN x.b.enc 64]}]}
noncomputable def asF:Ctr:={X:=ZWd,args:=fun x=>[.ptr 0 0,i64 x.t,x.s.f.av 5 2 (.slW 1 0 1 (64*x.n))],k:=2,os:=fun x=>[.abs (bK x.s.a.os),GN x.b.enc (64*x.n)],pre:=fun x=>Hd (x.n≠0/\x.s.ph=2/\wD x.t x.b x.n x.s x.q),outs:=[
 {Y:=ZTs,post:=fun x y=>Hd (x.q 0 y),ret:=fun _ y=>y.f.av 5 y.ph fO,m:=2,os:=fun x y=>[.abs (bK y.a.os),GN x.b.enc (64*x.n)]},
 {Y:=ZTs,post:=fun x y=>Hd (x.q (x.n+1) y/\y.ph=2),ret:=fun x y=>y.f.av 5 2 (.slW 2 0 1 (64*(x.n+1))),m:=3,os:=fun x y=>[.abs (bK y.a.os),GN x.b.enc (64*x.n),GN x.b.enc (64*(x.n+1))]}]}
structure ZBy where
 d:dS
 b:dN
 ln:Nat
def lies(d:dS)(b:dN)(ln:Nat):Prop:= ∀q,q<64*b.dJ->d.b ((ln+q/64)*193+q%64)=b.enc q
def ZBy.ok(x:ZBy):Prop:=x.d.ok/\x.b.may/\x.b.kind=2/\x.ln+spn x.b.cls<=x.d.n/\lies x.d x.b x.ln
noncomputable def Yp:Ctr:=det ZBy (fun x=>[.ptr 0 0,i64 x.ln,i64 x.b.cls]) 3 (fun x=>[UQ,Rf,.abs (bK x.d.os)]) (fun x=>Hd x.ok) (fun x=> .slW 3 0 1 (64*x.b.dJ)) 4 (fun x=>[UQ,Rf,.abs (bK x.d.os),GN x.b.enc (64*x.b.dJ)])
noncomputable def annB(x:ZBy):FuncId->tK:=fun f=>bif Nat.beq f 122 then(fun b _ _=>bif Nat.beq b 0 then [
 {σ:=Unit,fr:=fun _=>[(13,i64 0),(7,fO)],ob:=fun _=>[],inv:=fun _=>Hd True,meas:=fun _=>20,test:=fun fr _=>(match SE.look fr 7 with| .slW _ _ _ _=>false|_=>true)},
 {σ:=Nat,fr:=fun i=>[(13,i64 i),(7,.slW 3 0 1 (64*i))],ob:=fun i=>[(3,some (GN x.b.enc (64*i)))],nx:=1,inv:=fun i=>Hd (1<=i/\i<=x.b.dJ),meas:=fun i=>x.b.dJ-i,test:=fun fr _=>(match SE.look fr 7 with| .slW _ _ _ _=>true|_=>false)}]else [])else fun _ _ _=>[]
noncomputable def axf:jY:=[(113,ah6),(181,eG ahr.ctr)]
noncomputable def Yq:Ctr:=det ZBy (fun x=>[.ptr 0 0,.agg [.lit (.string ⟨#[]⟩),u64 x.b.id,u64 x.b.ver,i64 x.ln,i64 x.b.cls],i64 2]) 3 (fun x=>[UQ,Rf,.abs (bK x.d.os)]) (fun x=>Hd x.ok) (fun x=> .tup [.lit (.string x.b.value),boo true]) 3 (fun x=>[UQ,Rf,.abs (bK x.d.os)])
noncomputable def axg:jY:=[(122,eG Yp),(121,eG auU)]
structure ZSh where
 d:dS
 l:ZLn
 b:Nat->dN
def qok(d:dS)(l:ZLn)(b:Nat->dN):Prop:= ∀i,i<l.n-> ∃ln:Nat,l.get i=⟨⟨#[]⟩,(b i).id,(b i).ver,ln,(b i).cls⟩/\ZBy.ok ⟨d,b i,ln⟩
def arnH:dw:=abp .any .any .any .any (.ptr 3 0) (.ptr 4 0) (.ptr 1 0)
noncomputable def ZSh.os(x:ZSh):List dw:=[arnH,Rf,.abs (bK x.d.os),.abs (bK lT),.abs (bK x.l.os)]
def rowS(b:Nat->dN)(n:Nat):dw:= .room 9 (.row 1 n (fun i=>[.string (b i).value]) [])
noncomputable def OT:Ctr:={X:=ZSh,args:=fun _=>[.ptr 0 0],k:=5,os:=ZSh.os,pre:=fun x=>Hd (x.l.ok/\x.l.n<1099511627776/\qok x.d x.l x.b),outs:=[
 {Y:=Unit,post:=fun x _=>Hd (x.l.n=0),ret:=fun _ _=> .agg [fO,fO],m:=5,os:=fun x _=>x.os},
 {Y:=Unit,post:=fun x _=>Hd (x.l.n≠0),ret:=fun x _=> .agg [fO,.slW 5 0 1 x.l.n],m:=6,os:=fun x _=>x.os++[rowS x.b x.l.n]}]}
def qAt(h:Heap):Bool:=match cellAt h 6 1 with
 |some (.slW _ _ _ _)=>true
 |_=>false
noncomputable def annS(x:ZSh):FuncId->tK:=fun f=>bif Nat.beq f 30 then(fun b _ h=>bif Nat.beq b 2 then [
 {σ:=Unit,fr:=fun _=>[(41,i64 0)],ob:=fun _=>[],inv:=fun _=>Hd True,meas:=fun _=>x.l.n+1,test:=fun _ h=> !qAt h},
 {σ:=Nat,fr:=fun i=>[(41,i64 i)],ob:=fun i=>[(6,some (.cells 74 (.av [fO,.slW h.next 0 1 i]))),(h.next,some (rowS x.b i))],nx:=1,inv:=fun i=>Hd (1<=i/\i<=x.l.n),meas:=fun i=>x.l.n-i,test:=fun _ h=>qAt h}]else [])else fun _ _ _=>[]
noncomputable def axh:jY:=[(68,eG ahQ.ctr),(70,eG QO.ctr),(69,eG Yq)]
def anz:Prop:=True/\True/\True/\True
def xW:Prop:=0=0/\anz
def ab3:Prop:=0=0/\True/\True/\True/\True/\0=0/\True/\xW
def TF:Prop:=0=0/\True/\True/\True/\True/\True/\True/\True/\anz
def uK:Prop:=Value.slice none 0 0=Value.slice none 0 0
def aq7(a:ZLn):Prop:=a.n=a.n/\ ∀q:Nat,q<a.n->[Value.string (dM.key (a.get q)),Value.int .u64 (dM.id (a.get q)),Value.int .u64 (dM.ver (a.get q)),Value.int .i64 (dM.line (a.get q)),Value.int .i64 (dM.cls (a.get q))]=[Value.string (dM.key (a.get q)),Value.int .u64 (dM.id (a.get q)),Value.int .u64 (dM.ver (a.get q)),Value.int .i64 (dM.line (a.get q)),Value.int .i64 (dM.cls (a.get q))]
def BI(a:dS):Prop:=bK a.os=bK a.os
def EU:Prop:=bK lT=bK lT
def anA(a:ZSh)(b:ZLn):Prop:=ab3/\xW/\BI a.d/\EU/\bK a.l.os=bK b.os/\True
def anB(a:ZSh)(b:ZLn)(c:Nat):Prop:=(∃y_2:Unit,Hd (a.l.n=0)/\(uK/\False/\True)/\anA a b)\/ ∃y_2:Unit,Hd (a.l.n≠0)/\(uK/\(0=0/\a.l.n=c)/\True)/\ab3/\xW/\BI a.d/\EU/\bK a.l.os=bK b.os/\(a.l.n=c/\ ∀q:Nat,q<a.l.n->[Value.string (dN.value (a.b q))]=[Value.string (dN.value (a.b q))])/\True
def anC(a:ZSh)(b:ZLn):Prop:=(∃y_2:Unit,Hd (a.l.n=0)/\(uK/\uK/\True)/\anA a b)\/ ∃y_2:Unit,Hd (a.l.n≠0)/\(uK/\False/\True)/\ab3/\xW/\BI a.d/\EU/\bK a.l.os=bK b.os/\False/\True
def EW(a:dS)(b:dS):Prop:=bK a.os=bK b.os
def OU(a:dS)(b:dS):Prop:=EW a b/\True
def EX(a:dS)(b:dS):Prop:=TF/\xW/\OU a b
def anD(a:ZLn)(b:dS):Prop:=(uK/\uK/\True)/\(uK/\uK/\True)/\bK a.os=bK a.os/\EU/\BI b/\xW/\ab3/\True
def TG(x:ZBy):Prop:=
 (∃s:Unit,Hd True/\True/\((0:Int)=0/\uK/\True)/\BI x.d/\xW/\TF/\True)/\(∀s:Unit,Hd True->cP (decide (0<spn x.b.cls)) (I64 ((x.ln:Int)+0)/\ ∃x_1:Qu,Hd (x_1.d.ok/\x_1.k<x_1.d.n)/\(0=0/\(x_1.k:Int)=(x.ln:Int)+0/\True)/\OU x_1.d x.d/\ ∀y:Unit,True->64<=64/\(2*(0+64)+1000)*1<=281474976710656/\I64 (1:Int)/\ ∃s_1:Nat,Hd (1<=s_1/\s_1<=x.b.dJ)/\x.b.dJ-s_1<20/\((s_1:Int)=1/\(0=0/\64*s_1=64)/\True)/\(64*s_1=64/\ ∀q:Nat,q<64*s_1->[Value.int .u8 (x.b.enc q)]=[Value.int .u8 (x_1.d.b (x_1.k*193+(0+(q-0))))])/\EW x.d x_1.d/\xW/\TF/\True) (∃y:Unit,True/\False/\TF/\xW/\BI x.d/\False/\True))/\(∀s:Nat,Hd (1<=s/\s<=x.b.dJ)->cP (decide ((s:Int)<spn x.b.cls)) (I64 ((x.ln:Int)+(s:Int))/\ ∃x_1:Qu,Hd (x_1.d.ok/\x_1.k<x_1.d.n)/\(0=0/\(x_1.k:Int)=(x.ln:Int)+(s:Int)/\True)/\OU x_1.d x.d/\ ∀y:Unit,True->64*s=64*s/\64<=64/\(∀k:Nat,k<64->(Nat.beq (List.length [Value.int .u8 (x_1.d.b (x_1.k*193+(0+k)))]) 1&&List.all [Value.int .u8 (x_1.d.b (x_1.k*193+(0+k)))] Value.oneCell')=true)/\(2*(64*s+64)+1000)*1<=281474976710656/\I64 ((s:Int)+1)/\ ∃s_1:Nat,Hd (1<=s_1/\s_1<=x.b.dJ)/\x.b.dJ-s_1<x.b.dJ-s/\((s_1:Int)=(s:Int)+1/\(0=0/\64*s_1=64*s+64)/\True)/\(64*s_1=64*s+64/\ ∀q:Nat,q<64*s_1->[Value.int .u8 (x.b.enc q)]=Cs.eff (fun(q_1:Nat)=>cond (Nat.blt q_1 (64*s)) [Value.int .u8 (x.b.enc q_1)] [Value.int .u8 (x_1.d.b (x_1.k*193+(0+(q_1-64*s))))]) [] q)/\EW x.d x_1.d/\xW/\TF/\True) (∃y:Unit,True/\(0=0/\64*x.b.dJ=64*s)/\TF/\
 xW/\BI x.d/\(64*x.b.dJ=64*s/\ ∀q:Nat,q<64*x.b.dJ->[Value.int .u8 (x.b.enc q)]=[Value.int .u8 (x.b.enc q)])/\True))/\True
theorem ab4(x:ZBy):TG x=wpF Tryz.prog axf tt (annB x) 200 6 122 (Yp.args x) (hO 3 (Yp.os x)) (fun v h'=>fA 3 x v h' Yp.outs):=by kernel_rfl
def TJ(x:ZBy):Prop:=
 ∃x_1:ZBy,Hd x_1.ok/\(0=0/\(x_1.ln:Int)=(x.ln:Int)/\x_1.b.cls=x.b.cls/\True)/\EX x_1.d x.d/\ ∀y:Unit,True-> ∃x_2:ZDe,Hd (x_2.b.may/\x_2.value.size<1099511627776/\ ∀k:Nat,k<64*x_2.b.dJ->x_2.g k=x_2.b.enc k)/\((0=0/\64*x_2.b.dJ=64*x_1.b.dJ)/\True)/\((64*x_2.b.dJ=64*x_1.b.dJ/\ ∀q:Nat,q<64*x_2.b.dJ->[Value.int .u8 (x_2.g q)]=[Value.int .u8 (x_1.b.enc q)])/\True)/\ ∀y_1:Unit,True->cP (BEq.beq x_2.id x.b.id) (cP (BEq.beq x_2.ver x.b.ver) (∃y_2:Unit,True/\(x.b.value=x_2.value/\true=true/\True)/\EX x.d x_1.d) (∃y_2:Unit,True/\(x.b.value=x_2.value/\true=false/\True)/\EX x.d x_1.d)) (∃y_2:Unit,True/\(x.b.value=x_2.value/\true=false/\True)/\EX x.d x_1.d)
theorem ab5(x:ZBy):TJ x=wpF Tryz.prog axg tt (noA x) 200 6 69 (Yq.args x) (hO 3 (Yq.os x)) (fun v h'=>fA 3 x v h' Yq.outs):=by kernel_rfl
def TK(x:ZSh):Prop:=
 ∃x_1:Unit,Hd True/\(0=0/\True)/\(EU/\True)/\ ∀y:Unit,True-> ∃x_2:ZLn,Hd x_2.ok/\(0=0/\True)/\(bK x_2.os=bK x.l.os/\True)/\(∀y_1:Unit,Hd (x_2.n=0)->(∃s:Unit,Hd True/\True/\((0:Int)=0/\True)/\anD x_2 x.d)/\(∀s:Unit,Hd True->anC x x_2)/\(∀s:Nat,Hd (1<=s/\s<=x.l.n)->anB x x_2 s)/\True)/\ ∀y_1:Unit,Hd (x_2.n≠0)->(∃s:Unit,Hd True/\True/\((0:Int)=0/\True)/\aq7 x_2/\anD x_2 x.d)/\(∀s:Unit,Hd True->cP (decide (0<(x_2.n:Int))) (((0:Int)<=0/\1<=(x_2.n:Int))/\0<x_2.n/\ ∃x_3:ZBy,Hd x_3.ok/\(0=0/\(ByteArray.mk #[]=dM.key (x_2.get 0)/\x_3.b.id=dM.id (x_2.get 0)/\x_3.b.ver=dM.ver (x_2.get 0)/\(x_3.ln:Int)=dM.line (x_2.get 0)/\x_3.b.cls=dM.cls (x_2.get 0)/\True)/\(2:Int)=2/\True)/\EX x_3.d x.d/\ ∀y_2:Unit,True->(2*(0+1)+1000)*16<=281474976710656/\I64 (1:Int)/\ ∃s_1:Nat,Hd (1<=s_1/\s_1<=x.l.n)/\x.l.n-s_1<x.l.n+1/\((s_1:Int)=1/\True)/\(s_1=0+List.length [List.take 1 [Value.string x_3.b.value]]/\ ∀q:Nat,q<s_1->[Value.string (dN.value (x.b q))]=Cs.eff (fun(x_4:Nat)=>[]) [(0,List.take 1 [Value.string x_3.b.value])] q)/\aq7 x_2/\(uK/\(0=0/\s_1=1)/\True)/\(uK/\uK/\True)/\bK x_2.os=bK x_2.os/\EU/\EW x.d x_3.d/\xW/\ab3/\True) (anC x x_2))/\(∀s:Nat,Hd (1<=s/\s<=x.l.n)->cP (decide ((s:Int)<(x_2.n:Int))) ((0<=(s:Int)/\(s:Int)<(x_2.n:Int))/\0+s<x_2.n/\ ∃x_3:ZBy,Hd x_3.ok/\(0=0/\(ByteArray.mk #[]=dM.key (x_2.get (0+s))/\x_3.b.id=dM.id (x_2.get (0+s))/\x_3.b.ver=dM.ver (x_2.get (0+s))/\(x_3.ln:Int)=dM.line (x_2.get (0+s))/\
 x_3.b.cls=dM.cls (x_2.get (0+s))/\True)/\(2:Int)=2/\True)/\EX x_3.d x.d/\ ∀y_2:Unit,True->s=s/\List.all [List.take 1 [Value.string x_3.b.value]] (fun(l:List Value)=>Nat.beq (List.length l) 1&&List.all l Value.oneCell')=true/\(2*(s+1)+1000)*16<=281474976710656/\I64 ((s:Int)+1)/\ ∃s_1:Nat,Hd (1<=s_1/\s_1<=x.l.n)/\x.l.n-s_1<x.l.n-s/\((s_1:Int)=(s:Int)+1/\True)/\(s_1=s+List.length [List.take 1 [Value.string x_3.b.value]]/\ ∀q:Nat,q<s_1->[Value.string (dN.value (x.b q))]=Cs.eff (fun(i:Nat)=>[Value.string (dN.value (x.b i))]) [(s,List.take 1 [Value.string x_3.b.value])] q)/\aq7 x_2/\(uK/\(0=0/\s_1=s+1)/\True)/\(uK/\uK/\True)/\bK x_2.os=bK x_2.os/\EU/\EW x.d x_3.d/\xW/\ab3/\True) (anB x x_2 s))/\True
theorem ab6(x:ZSh):TK x=wpF Tryz.prog axh tt (annS x) 200 6 30 (OT.args x) (hO 5 (OT.os x)) (fun v h'=>fA 5 x v h' OT.outs):=by kernel_rfl
noncomputable def anE:xR:={X:=ou,args:=fun x=>[.ptr 0 0,i64 x.t,(x.w.fr x.p).av 4 4 fO],a:=ou.a,k:=1,ex:=fun _=>[],pre:=fun x=>Hd x.w.ok,outs:=[
 {Y:=Unit,post:=fun x _=>Hd (x.p+1≠spn x.c),ret:=fun x _=>(x.w.fr (x.p+1)).av 4 4 fO,a:=fun x _=>x.a.Ry x.w.d',m:=1,ex:=fun _ _=>[]},
 {Y:=Unit,post:=fun x _=>Hd (x.p+1=spn x.c),ret:=fun x _=>(x.w.fr 0).av 4 5 fO,a:=fun x _=>x.a.Ry x.w.d',m:=1,ex:=fun _ _=>[]}]}
theorem Yr:bZ Tryz.prog 19 anE.M.ctr:=qw fun x hx=>by
 have h:=aY.1 hx.1
 by_cases hp:x.p=0
 ·have e0:(0:Int)=(x.p:Int):=by omega
  refine⟨_,abW,rfl,x,⟨aY.2 ⟨h,hp⟩,trivial⟩,by simp only[xR.M,xR.pc,jR.ctr,anE,iE,e0],rfl,fun v h' hh=> ?_⟩
  rcases qY hh with ⟨y,h0,h1,h2⟩|⟨y,h0,h1,h2⟩
  ·exact fK ⟨(),aY.2 (by have:=aY.1 h0;omega),h1.trans (by show(x.w.fr 1).av 4 4 fO=(x.w.fr (x.p+1)).av 4 4 fO;rw[hp];rfl),h2⟩
  ·exact WS ⟨(),aY.2 (by have:=aY.1 h0;omega),h1,h2⟩
 ·refine⟨_,ab2,rfl,x,⟨aY.2 ⟨h,hp⟩,trivial⟩,rfl,rfl,fun v h' hh=>hh⟩
noncomputable def axi(k ph:Int)(b:Bool):WTr:=
 bif decide (k=4)then
  bif decide (ph=0)then eG (jK 4).M.ctr else bif decide (ph=3)then eG (oh 4).M.ctr else bif decide (ph=4)then eG anE.M.ctr else bif decide (ph=5)then eG anj else eG (jL 4).M.ctr
 else
  bif decide (ph=0)then eG (jK 5).M.ctr else bif decide (ph=1)then eG Du.M.ctr else bif decide (ph=2)then(bif b then eG uq.M.ctr else eG uo.M.ctr)else
  bif decide (ph=3)then eG (oh 5).M.ctr else bif decide (ph=4)then eG (iE 5).M.ctr else bif decide (ph=5)then eG ank else eG (jL 5).M.ctr
theorem nO{P:Program}{f:FuncId}(b:Bool){T U:WTr}(hT: ∀args h K,T args h K->Sp P f args h K)(hU: ∀args h K,U args h K->Sp P f args h K): ∀args h K,(bif b then T else U) args h K->Sp P f args h K:=by
 cases b
 ·exact hU
 ·exact hT
theorem aq8(k ph:Int)(b:Bool): ∀args h K,axi k ph b args h K->Sp Tryz.prog 19 args h K:=
 nO _ (nO _ (bU OJ) (nO _ (bU Yh) (nO _ (bU Yr) (nO _ (bU afl) (bU OM)))))
  (nO _ (bU OL) (nO _ (bU aq6) (nO _ (nO _ (bU Yk) (bU Yj)) (nO _ (bU Yi) (nO _ (bU JW) (nO _ (bU afm) (bU OO)))))))
def axj(l:List AV)(i:Nat):Int:=match l[i]? with
 |some (AV.lit (.int _ z))=>z
 |_=>0
def hasB(l:List AV):Bool:=match l[19]? with
 |some (AV.slW _ _ _ _)=>true
 |_=>false
noncomputable def anF:WTr:=fun args h K=>match args with
 |[a,t,.agg l]=>axi (axj l 0) (axj l 5) (hasB l) [a,t,.agg l] h K
 |_=>False
theorem anG(args:List AV)(h:Heap)(K:AV->Heap->Prop)(hq:anF args h K):Sp Tryz.prog 19 args h K:=by
 unfold anF at hq
 split at hq
 ·exact aq8 _ _ _ _ _ _ hq
 ·exact hq.elim
structure ZCl where
 k:Int
 key:ByteArray
 value:ByteArray
 to:ByteArray
def ZCl.l(x:ZCl):List AV:=[i64 x.k,.lit (.string x.key),.lit (.string x.value),.lit (.string x.to),fO]
def ZCl.fr(x:ZCl):List AV:=x.l++[i64 0,u64 0,.lit (.string ⟨#[]⟩),boo false,i64 0,boo false,.lit (.string ⟨#[]⟩),u64 0,u64 0,i64 0,i64 0,i64 (-1),i64 0,i64 0,fO,i64 0,fO,i64 0,boo false,.lit (.string ⟨#[]⟩),fO,fO,u64 0]
noncomputable def OV:Ctr:=det ZCl (fun x=>[.agg x.l]) 0 (fun _=>[]) (fun _=>True) (fun x=> .agg x.fr) 0 (fun _=>[])
def Yt:WTr:=fun args h K=>match args with
 |[.agg [.lit (.int .i64 k),.lit (.string key),.lit (.string v),.lit (.string to),.lit (.slice none 0 0)]]=>K (.agg (ZCl.mk k key v to).fr) h
 |_=>False
def f0(key v:ByteArray):ZFr:=⟨key,v,0,false,qO,-1,0,0,0,false,⟨#[]⟩,0⟩
def asG(code:Int)(found:Bool)(v:ByteArray)(ep:Int):AV:= .agg [i64 code,boo found,.lit (.string v),fO,fO,u64 ep]
structure ZRS where
 a:dF
 f:ZFr
 n:Nat
 p:Nat
def au3(f:ZFr)(k ph:Int)(b:AV):dw:= .cells 45 (.av (f.l k ph b))
def phAt(h:Heap):Int:=match cellAt h 3 5 with
 |some (.lit (.int _ z))=>z
 |_=> -1
def byAt(h:Heap):Bool:=match cellAt h 3 19 with
 |some (.slW _ _ _ _)=>true
 |_=>false
noncomputable def FZ(k ph:Int)(iv:ZRS->Prop):Ci:={σ:=ZRS,fr:=fun s=>[(10,i64 s.n)],ob:=fun s=>[(0,some (.abs (bK s.a.os))),(3,some (au3 s.f k ph fO))],inv:=fun s=>Hd (1<=s.n/\s.n<=50/\iv s),meas:=fun s=>101-s.n,test:=fun _ h=>decide (phAt h=ph)&& !byAt h}
structure jr where
 a:dF
 t:Nat
 key:ByteArray
 v:ByteArray
 b:dN
namespace jr
def c(x:jr)(k:Int):Int:=if k=4 then ned x.v.size else 0
def a1(x:jr):dF:=x.a.sJ x.t x.a.r.now
def f1(x:jr):ZFr:={f0 x.key x.v with epoch:=x.a.c.now}
def ln(x:jr)(k:Int)(i j:Nat):Nat:=2+i*8+j*(spn (x.c k)).toNat
noncomputable def dW(x:jr)(k:Int)(i j:Nat):Nat->dS
 |0=>x.a.d
 |p+1=>ZWr.d' ⟨x.dW k i j p,x.t,x.f1,x.ln k i j,x.c k,p⟩
noncomputable def a2(x:jr)(k:Int)(i j p:Nat):dF:=(x.a1.UR (x.a.p.take (x.c k) i j)).Ry (x.dW k i j p)
def sp(x:jr)(k:Int):Nat:=(spn (x.c k)).toNat
noncomputable def pb(x:jr)(k:Int)(i j:Nat)(f:ZFr):ZPb:=⟨x.a2 k i j (x.sp k),{f with cls:=x.c k},x.t,x.ln k i j⟩
noncomputable def aE(x:jr)(i j:Nat):dF:=(x.pb 4 i j x.f1).chg.enq.sJ x.t 0
def f2(x:jr):ZFr:={x.f1 with had:=true,old:=x.a.l.head,ans:=x.b.value}
noncomputable def aD(x:jr)(i j:Nat):dF:=(x.pb 5 i j x.f2).chg.deq.sJ x.t 0
end jr
noncomputable def annE(x:jr):FuncId->tK:=fun f=>bif Nat.beq f 15 then(fun b _ _=>bif Nat.beq b 0 then [
 FZ 4 0 (fun s=>s.n=1/\s.a=x.a/\s.f=f0 x.key x.v),
 FZ 4 3 (fun s=>s.n=2/\s.a=x.a1/\s.f=x.f1/\x.v.size<=400),
 FZ 4 4 (fun s=>x.v.size<=400/\s.p<spn (x.c 4)/\s.n=3+s.p/\ ∃i j,x.a.p.takes (x.c 4) i j/\s.a=x.a2 4 i j s.p/\s.f={x.f1 with line:=x.ln 4 i j,cls:=x.c 4,piece:=s.p}),
 FZ 4 5 (fun s=>x.v.size<=400/\s.n=3+x.sp 4/\ ∃i j,x.a.p.takes (x.c 4) i j/\s.a=x.a2 4 i j (x.sp 4)/\s.f={x.f1 with line:=x.ln 4 i j,cls:=x.c 4}),
 FZ 4 6 (fun s=>x.v.size<=400/\((∀i,i<x.a.p.n->x.a.p.cls i≠ -1/\x.a.p.full (x.c 4) i)/\s.a=x.a1/\s.f={x.f1 with cls:=x.c 4,code:=4}\/s.n=4+x.sp 4/\ ∃i j,x.a.p.takes (x.c 4) i j/\s.a=(x.pb 4 i j x.f1).chg.enq/\s.f={x.f1 with cls:=x.c 4,aep:=x.a.c.now}))]else [])else fun _ _ _=>[]
noncomputable def annD(x:jr):FuncId->tK:=fun f=>bif Nat.beq f 15 then(fun b _ _=>bif Nat.beq b 0 then [
 FZ 5 0 (fun s=>s.n=1/\s.a=x.a/\s.f=f0 x.key x.v),
 FZ 5 1 (fun s=>s.n=2/\s.a=x.a1/\s.f=x.f1),
 FZ 5 2 (fun s=>s.n=3/\s.a=x.a1/\x.a.l.n≠0/\s.f={x.f1 with had:=true,old:=x.a.l.head}),
 {σ:=ZRS,fr:=fun s=>[(10,i64 s.n)],ob:=fun s=>[(0,some (.abs (bK s.a.os))),(3,some (au3 s.f 5 2 (.slW 4 0 1 (64*s.p)))),(4,some (GN x.b.enc (64*s.p)))],nx:=1,inv:=fun s=>Hd (1<=s.p/\s.p<spn x.b.cls/\s.n=3+s.p/\s.a=x.a1/\x.a.l.n≠0/\s.f={x.f1 with had:=true,old:=x.a.l.head,piece:=s.p}),meas:=fun s=>101-s.n,test:=fun _ h=>decide (phAt h=2)&&byAt h},
 FZ 5 3 (fun s=>s.n=3+x.b.dJ/\s.a=x.a1/\x.a.l.n≠0/\ ∃q,s.f={x.f2 with piece:=q}),
 FZ 5 4 (fun s=>s.n=4+x.b.dJ/\x.a.l.n≠0/\ ∃i j,x.a.p.takes 0 i j/\s.a=x.a2 5 i j 0/\s.f={x.f2 with line:=x.ln 5 i j,cls:=0,piece:=0}),
 FZ 5 5 (fun s=>s.n=5+x.b.dJ/\x.a.l.n≠0/\ ∃i j,x.a.p.takes 0 i j/\s.a=x.a2 5 i j (x.sp 5)/\s.f={x.f2 with line:=x.ln 5 i j,cls:=0,piece:=0}),
 FZ 5 6 (fun s=>(x.a.l.n=0/\s.a=x.a1/\s.f=x.f1\/x.a.l.n≠0/\(∀i,i<x.a.p.n->x.a.p.cls i≠ -1/\x.a.p.full 0 i)/\s.a=x.a1/\(∃q,s.f={x.f2 with cls:=0,ans:=⟨#[]⟩,code:=4,piece:=q})\/s.n=6+x.b.dJ/\x.a.l.n≠0/\ ∃i j,x.a.p.takes 0 i j/\s.a=(x.pb 5 i j x.f2).chg.deq/\s.f={x.f2 with cls:=0,piece:=0,found:=true,aep:=x.a.c.now}))]else [])else fun _ _ _=>[]
def aiv(k:Int)(key v:ByteArray):AV:= .agg [i64 k,.lit (.string key),.lit (.string v),.lit (.string ⟨#[]⟩),fO]
noncomputable def runE(pre:jr->Prop):Ctr:={X:=jr,args:=fun x=>[.ptr 0 0,i64 x.t,aiv 4 x.key x.v],k:=1,os:=fun x=>[.abs (bK x.a.os)],pre:=fun x=>Hd (pre x),outs:=[
 {Y:=Nat,post:=fun x _=>Hd (400<x.v.size),ret:=fun _ n=> .tup [asG 5 false ⟨#[]⟩ 0,i64 n,boo true],m:=1,os:=fun x _=>[.abs (bK x.a.os)]},
 {Y:=Nat,post:=fun x _=>Hd (x.v.size<=400/\ ∀i,i<x.a.p.n->x.a.p.cls i≠ -1/\x.a.p.full (x.c 4) i),ret:=fun _ n=> .tup [asG 4 false ⟨#[]⟩ 0,i64 n,boo true],m:=1,os:=fun x _=>[.abs (bK x.a.os)]},
 {Y:=Nat×Nat,post:=fun x y=>Hd (x.v.size<=400/\x.a.p.takes (x.c 4) y.1 y.2),ret:=fun x _=> .tup [asG 0 false ⟨#[]⟩ x.a.c.now,i64 (4+x.sp 4:Nat),boo true],m:=1,os:=fun x y=>[.abs (bK (x.aE y.1 y.2).os)]}]}
noncomputable def runD(pre:jr->Prop):Ctr:={X:=jr,args:=fun x=>[.ptr 0 0,i64 x.t,aiv 5 x.key x.v],k:=1,os:=fun x=>[.abs (bK x.a.os)],pre:=fun x=>Hd (pre x),outs:=[
 {Y:=Nat,post:=fun x _=>Hd (x.a.l.n=0),ret:=fun _ n=> .tup [asG 0 false ⟨#[]⟩ 0,i64 n,boo true],m:=1,os:=fun x _=>[.abs (bK x.a.os)]},
 {Y:=Nat,post:=fun x _=>Hd (x.a.l.n≠0/\ ∀i,i<x.a.p.n->x.a.p.cls i≠ -1/\x.a.p.full 0 i),ret:=fun _ n=> .tup [asG 4 false ⟨#[]⟩ 0,i64 n,boo true],m:=1,os:=fun x _=>[.abs (bK x.a.os)]},
 {Y:=Nat×Nat,post:=fun x y=>Hd (x.a.l.n≠0/\x.a.p.takes 0 y.1 y.2),ret:=fun x _=> .tup [asG 0 true x.b.value x.a.c.now,i64 (6+x.b.dJ:Nat),boo true],m:=1,os:=fun x y=>[.abs (bK (x.aD y.1 y.2).os)]}]}
noncomputable def anH:jY:=[(17,Yt),(19,anF)]
def fU:Prop:=Value.slice none 0 0=Value.slice none 0 0
def fV:Prop:=ByteArray.mk #[]=ByteArray.mk #[]
def ab7:Prop:=false=false/\fV/\fU/\fU/\(0:Int)=0/\True
def OW(a:Nat):Prop:=(a:Int)=0/\true=false/\True
def afs(a:dF):Prop:=Hd (a.l.n≠0/\ ∀i:Nat,i<a.p.n->a.p.cls i≠(-(1:Int))/\a.p.full (0:Int) i)
def jk(a:dF)(b:dF):Prop:=bK a.os=bK b.os/\True
def yw(a:ByteArray):Prop:=a=ByteArray.mk #[]
def lN:Prop:=(0:Int)=0/\ab7
def TL(a:jr)(b:dF):Prop:=(∃y:Nat,Hd (a.a.l.n=0)/\(lN/\OW y)/\jk a.a b)\/(∃y:Nat,afs a.a/\(((4:Int)=0/\ab7)/\OW y)/\jk a.a b)\/ ∃y:Prod Nat Nat,Hd (a.a.l.n≠0/\a.a.p.takes (0:Int) y.1 y.2)/\(((0:Int)=0/\true=false/\yw a.b.value/\fU/\fU/\a.a.c.now=0/\True)/\((6+a.b.dJ:Nat):Int)=0/\true=false/\True)/\bK (dF.os (a.aD y.1 y.2))=bK b.os/\True
def wS(a:Int)(b:Int):Prop:=fU/\fU/\a=b/\True
def aiw(a:ZFr)(b:ZFr):Prop:=(0:Int)=0/\fU/\a.code=b.code/\a.found=b.found/\a.ans=b.ans/\wS a.aep b.aep
def F5(a:ZFr)(b:ZFr):Prop:=fU/\aiw a b
def aft(a:jr)(b:Prod Nat Nat):Prop:=Hd (a.v.size<=400/\a.a.p.takes (a.c (4:Int)) b.1 b.2)
def afu(a:jr):Prop:=Hd (a.v.size<=400/\ ∀i:Nat,i<a.a.p.n->a.a.p.cls i≠(-(1:Int))/\a.a.p.full (a.c (4:Int)) i)
def OX(a:jr)(b:dF):Prop:=(∃y:Nat,Hd (400<a.v.size)/\(((5:Int)=0/\ab7)/\OW y)/\jk a.a b)\/(∃y:Nat,afu a/\(((4:Int)=0/\ab7)/\OW y)/\jk a.a b)\/ ∃y:Prod Nat Nat,aft a y/\(((0:Int)=0/\false=false/\fV/\fU/\fU/\a.a.c.now=0/\True)/\((4+a.sp (4:Int):Nat):Int)=0/\true=false/\True)/\bK (dF.os (a.aE y.1 y.2))=bK b.os/\True
def Yu(a:ZFr)(b:ZFr):Prop:=a.cls=b.cls/\a.piece=b.piece/\F5 a b
def Yv(a:ZFr)(b:ZFr):Prop:=fV/\false=false/\(0:Int)=0/\a.had=b.had/\a.old.key=b.old.key/\a.old.id=b.old.id/\a.old.ver=b.old.ver/\a.old.line=b.old.line/\a.old.cls=b.old.cls/\a.line=b.line/\Yu a b
def BJ(a:ZFr)(b:ZFr):Prop:=a.epoch=b.epoch/\Yv a b
def Yw(a:ZRS)(b:jr):Prop:=Hd (1<=a.n/\a.n<=50/\(b.a.l.n=0/\a.a=b.a1/\a.f=b.f1\/b.a.l.n≠0/\(∀i:Nat,i<b.a.p.n->b.a.p.cls i≠(-(1:Int))/\b.a.p.full (0:Int) i)/\a.a=b.a1/\(∃q:Int,a.f=ZFr.mk b.key b.v b.a.c.now true b.a.l.head (-(1:Int)) (0:Int) q (4:Int) false (ByteArray.mk #[]) (0:Int))\/a.n=6+b.b.dJ/\b.a.l.n≠0/\ ∃i:Nat,∃j:Nat,b.a.p.takes (0:Int) i j/\a.a=gX.deq (ZPb.chg (b.pb (5:Int) i j b.f2))/\a.f=ZFr.mk b.key b.v b.a.c.now true b.a.l.head (-(1:Int)) (0:Int) (0:Int) (0:Int) true b.b.value b.a.c.now))
def afv(a:ZRS)(b:jr):Prop:=Hd (1<=a.n/\a.n<=50/\b.v.size<=400/\((∀i:Nat,i<b.a.p.n->b.a.p.cls i≠(-(1:Int))/\b.a.p.full (b.c (4:Int)) i)/\a.a=b.a1/\a.f=ZFr.mk b.key b.v b.a.c.now false qO (-(1:Int)) (b.c (4:Int)) (0:Int) (4:Int) false (ByteArray.mk #[]) (0:Int)\/a.n=4+b.sp (4:Int)/\ ∃i:Nat,∃j:Nat,b.a.p.takes (b.c (4:Int)) i j/\a.a=gX.enq (ZPb.chg (b.pb (4:Int) i j b.f1))/\a.f=ZFr.mk b.key b.v b.a.c.now false qO (-(1:Int)) (b.c (4:Int)) (0:Int) (0:Int) false (ByteArray.mk #[]) b.a.c.now))
def afw(a:jr):Prop:=a.key=a.key/\a.v=a.v/\fV/\fU/\True
def EY(a:jr):Prop:=(5:Int)=5/\afw a
def yx(a:jr)(b:dF)(c:dF):Prop:=lN/\EY a/\jk b c
def Yx(a:ZRS)(b:jr):Prop:=Hd (1<=a.n/\a.n<=50/\a.n=5+b.b.dJ/\b.a.l.n≠0/\ ∃i:Nat,∃j:Nat,b.a.p.takes (0:Int) i j/\a.a=b.a2 (5:Int) i j (b.sp (5:Int))/\a.f=ZFr.mk b.key b.v b.a.c.now true b.a.l.head ((b.ln (5:Int) i j:Nat):Int) (0:Int) (0:Int) (0:Int) false b.b.value (0:Int))
def afx(a:ZRS)(b:jr):Prop:=Hd (1<=a.n/\a.n<=50/\b.v.size<=400/\(a.p:Int)<spn (b.c (4:Int))/\a.n=3+a.p/\ ∃i:Nat,∃j:Nat,b.a.p.takes (b.c (4:Int)) i j/\a.a=b.a2 (4:Int) i j a.p/\a.f=ZFr.mk b.key b.v b.a.c.now false qO ((b.ln (4:Int) i j:Nat):Int) (b.c (4:Int)) (a.p:Int) (0:Int) false (ByteArray.mk #[]) (0:Int))
def yA(a:ZFr):Prop:=false=a.found/\ByteArray.mk #[]=a.ans/\fU/\fU/\0=a.aep/\True
def afy(a:ZRS)(b:jr):Prop:=Hd (1<=a.n/\a.n<=50/\a.n=4+b.b.dJ/\b.a.l.n≠0/\ ∃i:Nat,∃j:Nat,b.a.p.takes (0:Int) i j/\a.a=b.a2 (5:Int) i j 0/\a.f=ZFr.mk b.key b.v b.a.c.now true b.a.l.head ((b.ln (5:Int) i j:Nat):Int) (0:Int) (0:Int) (0:Int) false b.b.value (0:Int))
def anI(a:ZFr)(b:lq):Prop:=fU/\(0:Int)=0/\fU/\a.code=b.f.code/\a.found=b.f.found/\a.ans=b.b.value/\wS a.aep b.f.aep
def anJ(a:ZFr)(b:lq):Prop:=a.epoch=b.f.epoch/\fV/\false=false/\(0:Int)=0/\a.had=true/\yw a.old.key/\a.old.id=b.b.id/\a.old.ver=b.b.ver/\a.old.line=(b.ln:Int)/\a.old.cls=b.b.cls/\a.line=b.f.line/\a.cls=b.f.cls/\a.piece=(b.p:Int)+1/\anI a b
def anK(a:ZFr)(b:lq):Prop:=a.epoch=b.f.epoch/\fV/\false=false/\(0:Int)=0/\a.had=true/\yw a.old.key/\a.old.id=b.b.id/\a.old.ver=b.b.ver/\a.old.line=(b.ln:Int)/\a.old.cls=b.b.cls/\a.line=b.f.line/\a.cls=b.f.cls/\a.piece=1/\anI a b
def afz(a:ZFr)(b:jr):Prop:=a.key=b.key/\a.value=b.v/\fV/\fU/\(0:Int)=0/\a.epoch=0/\fV/\false=false/\(0:Int)=0/\a.had=false/\yw a.old.key/\a.old.id=0/\a.old.ver=0/\a.old.line=0/\a.old.cls=0/\a.line=(-(1:Int))/\a.cls=0/\a.piece=0/\fU/\(0:Int)=0/\fU/\a.code=0/\a.found=false/\yw a.ans/\fU/\fU/\a.aep=0/\True
def kC(a:Nat)(b:Nat):Prop:=(a:Int)=(b:Int)+1/\True
def afA(a:ZRS)(b:jr):Prop:=Hd (1<=a.p/\(a.p:Int)<spn b.b.cls/\a.n=3+a.p/\a.a=b.a1/\b.a.l.n≠0/\a.f=ZFr.mk b.key b.v b.a.c.now true b.a.l.head (-(1:Int)) (0:Int) (a.p:Int) (0:Int) false (ByteArray.mk #[]) (0:Int))
def afB(a:ZFr)(b:ou):Prop:=a.key=b.f.key/\a.value=b.f.value/\fV/\fU/\(5:Int)=5/\a.epoch=b.f.epoch/\fV/\false=false/\(0:Int)=0/\a.had=b.f.had/\a.old.key=b.f.old.key/\a.old.id=b.f.old.id/\a.old.ver=b.f.old.ver/\a.old.line=b.f.old.line/\a.old.cls=b.f.old.cls/\a.line=(b.ln:Int)/\a.cls=b.c/\a.piece=0/\F5 a b.f
def afC(a:ZRS)(b:jr):Prop:=Hd (1<=a.n/\a.n<=50/\a.n=3+b.b.dJ/\a.a=b.a1/\b.a.l.n≠0/\ ∃q:Int,a.f=ZFr.mk b.key b.v b.a.c.now true b.a.l.head (-(1:Int)) (0:Int) q (0:Int) false b.b.value (0:Int))
def anL(a:ZRS)(b:jr):Prop:=Hd (1<=a.n/\a.n<=50/\b.v.size<=400/\a.n=3+b.sp (4:Int)/\ ∃i:Nat,∃j:Nat,b.a.p.takes (b.c (4:Int)) i j/\a.a=b.a2 (4:Int) i j (b.sp (4:Int))/\a.f=ZFr.mk b.key b.v b.a.c.now false qO ((b.ln (4:Int) i j:Nat):Int) (b.c (4:Int)) (0:Int) (0:Int) false (ByteArray.mk #[]) (0:Int))
def nP(a:Nat)(b:Nat):Prop:=(a:Int)=(b:Int)
def yB(a:Nat)(b:Nat):Prop:=nP a b/\true=true/\True
def afD(a:ZPb)(b:ZFr):Prop:=a.f.old.key=b.old.key/\a.f.old.id=b.old.id/\a.f.old.ver=b.old.ver/\a.f.old.line=b.old.line/\a.f.old.cls=b.old.cls/\(a.ln:Int)=b.line/\Yu a.f b
def kD(a:Nat):Prop:=I64 ((a:Int)+1)
def OY(a:ZRS)(b:jr):Prop:=Hd (1<=a.n/\a.n<=50/\a.n=1/\a.a=b.a/\a.f=f0 b.key b.v)
def anM(a:ZRS)(b:jr):Prop:=Hd (1<=a.n/\a.n<=50/\a.n=3/\a.a=b.a1/\b.a.l.n≠0/\a.f=ZFr.mk b.key b.v b.a.c.now true b.a.l.head (-(1:Int)) (0:Int) (0:Int) (0:Int) false (ByteArray.mk #[]) (0:Int))
def OZ(a:dF)(b:ZSt):Prop:=bK a.os=bK (dF.os (b.a.sJ b.t (0:Int)))/\True
def kE(a:Nat)(b:Nat):Prop:=101-a<101-b
def afE(a:ZFr)(b:ZFr):Prop:=a.piece=b.piece/\fU/\(0:Int)=0/\fU/\a.code=4/\a.found=b.found/\a.ans=emp/\wS a.aep b.aep
def O1(a:dF)(b:ou):Prop:=bK a.os=bK (dF.os (b.a.Ry b.w.d'))/\True
def EZ(a:jr):Prop:=(4:Int)=4/\afw a
def TM(x:ZCl):Prop:=
 ∃y:Unit,True/\(x.k=x.k/\x.key=x.key/\x.value=x.value/\x.to=x.to/\fU/\(0:Int)=0/\(0:Int)=0/\fV/\false=false/\(0:Int)=0/\false=false/\fV/\(0:Int)=0/\(0:Int)=0/\(0:Int)=0/\(0:Int)=0/\(-(1:Int))=(-(1:Int))/\(0:Int)=0/\(0:Int)=0/\fU/\(0:Int)=0/\fU/\lN)/\True
theorem ab8(x:ZCl):TM x=wpF Tryz.prog [] tt (noA x) 200 6 17 (OV.args x) (hO OV.k (OV.os x)) (fun v h'=>fA OV.k x v h' OV.outs):=by kernel_rfl
def anN(x:jr):Prop:=
 (∃s:ZRS,OY s x/\True/\((s.n:Int)=1/\True)/\((4:Int)=4/\afz s.f x)/\lN/\EZ x/\jk s.a x.a)/\(∀s:ZRS,OY s x->cP (decide ((s.n:Int)<=100)) (∃x_1:ZSt,(Hd (x_1.a.r.ok/\x_1.a.c.ok/\x_1.t<x_1.a.r.t/\x_1.a.r.has x_1.t=0)/\True)/\(0=0/\nP x_1.t x.t/\((4:Int)=4/\x_1.f.key=s.f.key/\x_1.f.value=s.f.value/\fV/\fU/\(0:Int)=0/\BJ x_1.f s.f)/\True)/\jk x_1.a s.a/\(∀y:Unit,Hd ((4:Int)=4/\400<x_1.f.value.size)->(∃y_1:Nat,Hd (400<x.v.size)/\(((5:Int)=5/\yA x_1.f)/\yB y_1 s.n)/\jk x.a x_1.a)\/(∃y_1:Nat,afu x/\(((4:Int)=5/\yA x_1.f)/\yB y_1 s.n)/\jk x.a x_1.a)\/ ∃y_1:Prod Nat Nat,aft x y_1/\(((0:Int)=5/\false=x_1.f.found/\ByteArray.mk #[]=x_1.f.ans/\wS x.a.c.now x_1.f.aep)/\((4+x.sp (4:Int):Nat):Int)=(s.n:Int)/\true=true/\True)/\bK (dF.os (x.aE y_1.1 y_1.2))=bK x_1.a.os/\True)/\ ∀y:Unit,Hd ((4:Int)=4->x_1.f.value.size<=400)->kD s.n/\ ∃s_1:ZRS,Hd (1<=s_1.n/\s_1.n<=50/\s_1.n=2/\s_1.a=x.a1/\s_1.f=x.f1/\x.v.size<=400)/\kE s_1.n s.n/\kC s_1.n s.n/\((4:Int)=4/\s_1.f.key=x_1.f.key/\s_1.f.value=x_1.f.value/\fV/\fU/\(3:Int)=3/\s_1.f.epoch=x_1.a.c.now/\Yv s_1.f x_1.f)/\lN/\EZ x/\bK s_1.a.os=bK (dF.os (x_1.a.sJ x_1.t x_1.a.r.now))/\True) (OX x s.a))/\(∀s:ZRS,Hd (1<=s.n/\s.n<=50/\s.n=2/\s.a=x.a1/\s.f=x.f1/\x.v.size<=400)->cP (decide ((s.n:Int)<=100)) (∃x_1:ZSt,(Hd (x_1.a.p.ok/\x_1.f.value.size<=400)/\True)/\(0=0/\nP x_1.t x.t/\((4:Int)=4/\x_1.f.key=s.f.key/\x_1.f.value=s.f.value/\fV/\fU/\(3:Int)=3/\BJ x_1.f s.f)/\
 True)/\jk x_1.a s.a/\(∀y:Unit,Hd (∀i:Nat,i<x_1.a.p.n->x_1.a.p.cls i≠(-(1:Int))/\x_1.a.p.full (x_1.c (4:Int)) i)->kD s.n/\ ∃s_1:ZRS,afv s_1 x/\kE s_1.n s.n/\kC s_1.n s.n/\((4:Int)=4/\s_1.f.key=x_1.f.key/\s_1.f.value=x_1.f.value/\fV/\fU/\(6:Int)=6/\s_1.f.epoch=x_1.f.epoch/\fV/\false=false/\(0:Int)=0/\s_1.f.had=x_1.f.had/\s_1.f.old.key=x_1.f.old.key/\s_1.f.old.id=x_1.f.old.id/\s_1.f.old.ver=x_1.f.old.ver/\s_1.f.old.line=x_1.f.old.line/\s_1.f.old.cls=x_1.f.old.cls/\s_1.f.line=x_1.f.line/\s_1.f.cls=x_1.c (4:Int)/\afE s_1.f x_1.f)/\lN/\EZ x/\jk s_1.a x_1.a)/\ ∀y:Prod Nat Nat,Hd (x_1.a.p.takes (x_1.c (4:Int)) y.1 y.2)->kD s.n/\ ∃s_1:ZRS,afx s_1 x/\kE s_1.n s.n/\kC s_1.n s.n/\((4:Int)=4/\s_1.f.key=x_1.f.key/\s_1.f.value=x_1.f.value/\fV/\fU/\(4:Int)=4/\s_1.f.epoch=x_1.f.epoch/\fV/\false=false/\(0:Int)=0/\s_1.f.had=x_1.f.had/\s_1.f.old.key=x_1.f.old.key/\s_1.f.old.id=x_1.f.old.id/\s_1.f.old.ver=x_1.f.old.ver/\s_1.f.old.line=x_1.f.old.line/\s_1.f.old.cls=x_1.f.old.cls/\s_1.f.line=2+(y.1:Int)*8+(y.2:Int)*spn (x_1.c (4:Int))/\s_1.f.cls=x_1.c (4:Int)/\s_1.f.piece=0/\F5 s_1.f x_1.f)/\lN/\EZ x/\bK s_1.a.os=bK (dF.os (x_1.a.UR (x_1.a.p.take (x_1.c (4:Int)) y.1 y.2)))/\True) (OX x s.a))/\(∀s:ZRS,afx s x->cP (decide ((s.n:Int)<=100)) (∃x_1:ou,(Hd x_1.w.ok/\True)/\(0=0/\nP x_1.t x.t/\((4:Int)=4/\x_1.f.key=s.f.key/\x_1.f.value=s.f.value/\fV/\fU/\(4:Int)=4/\x_1.f.epoch=s.f.epoch/\fV/\false=false/\(0:Int)=0/\x_1.f.had=s.f.had/\x_1.f.old.key=s.f.old.key/\
 x_1.f.old.id=s.f.old.id/\x_1.f.old.ver=s.f.old.ver/\x_1.f.old.line=s.f.old.line/\x_1.f.old.cls=s.f.old.cls/\(x_1.ln:Int)=s.f.line/\x_1.c=s.f.cls/\(x_1.p:Int)=s.f.piece/\F5 x_1.f s.f)/\True)/\jk x_1.a s.a/\(∀y:Unit,Hd ((x_1.p:Int)+1≠spn x_1.c)->kD s.n/\ ∃s_1:ZRS,afx s_1 x/\kE s_1.n s.n/\kC s_1.n s.n/\((4:Int)=4/\s_1.f.key=x_1.f.key/\s_1.f.value=x_1.f.value/\fV/\fU/\(4:Int)=4/\s_1.f.epoch=x_1.f.epoch/\fV/\false=false/\(0:Int)=0/\s_1.f.had=x_1.f.had/\s_1.f.old.key=x_1.f.old.key/\s_1.f.old.id=x_1.f.old.id/\s_1.f.old.ver=x_1.f.old.ver/\s_1.f.old.line=x_1.f.old.line/\s_1.f.old.cls=x_1.f.old.cls/\s_1.f.line=(x_1.ln:Int)/\s_1.f.cls=x_1.c/\s_1.f.piece=(x_1.p:Int)+1/\F5 s_1.f x_1.f)/\lN/\EZ x/\O1 s_1.a x_1)/\ ∀y:Unit,Hd ((x_1.p:Int)+1=spn x_1.c)->kD s.n/\ ∃s_1:ZRS,anL s_1 x/\kE s_1.n s.n/\kC s_1.n s.n/\((4:Int)=4/\afB s_1.f x_1)/\lN/\EZ x/\O1 s_1.a x_1) (OX x s.a))/\(∀s:ZRS,anL s x->cP (decide ((s.n:Int)<=100)) (∃x_1:ZPb,Hd (x_1.chg.okE/\(∃i:Nat,∃j:Nat,x_1.chg.inP i j)/\ ∀k:Nat,x_1.a.c.o k+8<1099511627776)/\(0=0/\nP x_1.t x.t/\((4:Int)=4/\x_1.f.key=s.f.key/\x_1.f.value=s.f.value/\fV/\fU/\(5:Int)=5/\x_1.f.epoch=s.f.epoch/\fV/\false=false/\(0:Int)=0/\false=s.f.had/\afD x_1 s.f)/\True)/\jk x_1.a s.a/\ ∀y:Unit,True->kD s.n/\ ∃s_1:ZRS,afv s_1 x/\kE s_1.n s.n/\kC s_1.n s.n/\((4:Int)=4/\s_1.f.key=x_1.f.key/\s_1.f.value=x_1.f.value/\fV/\fU/\(6:Int)=6/\s_1.f.epoch=x_1.f.epoch/\fV/\false=false/\(0:Int)=0/\
 s_1.f.had=false/\s_1.f.old.key=x_1.f.old.key/\s_1.f.old.id=x_1.f.old.id/\s_1.f.old.ver=x_1.f.old.ver/\s_1.f.old.line=x_1.f.old.line/\s_1.f.old.cls=x_1.f.old.cls/\s_1.f.line=(-(1:Int))/\s_1.f.cls=x_1.f.cls/\s_1.f.piece=x_1.f.piece/\fU/\(0:Int)=0/\fU/\s_1.f.code=x_1.f.code/\s_1.f.found=false/\s_1.f.ans=x_1.f.ans/\wS s_1.f.aep x_1.f.epoch)/\lN/\EZ x/\bK s_1.a.os=bK x_1.chg.enq.os/\True) (OX x s.a))/\(∀s:ZRS,afv s x->cP (decide ((s.n:Int)<=100)) (∃x_1:ZSt,(Hd (x_1.a.r.ok/\x_1.t<x_1.a.r.t)/\True)/\(0=0/\nP x_1.t x.t/\((4:Int)=4/\x_1.f.key=s.f.key/\x_1.f.value=s.f.value/\fV/\fU/\(6:Int)=6/\BJ x_1.f s.f)/\True)/\jk x_1.a s.a/\ ∀y:Unit,True->(∃y_1:Nat,Hd (400<x.v.size)/\((5=x_1.f.code/\yA x_1.f)/\yB y_1 s.n)/\OZ x.a x_1)\/(∃y_1:Nat,afu x/\((4=x_1.f.code/\yA x_1.f)/\yB y_1 s.n)/\OZ x.a x_1)\/ ∃y_1:Prod Nat Nat,aft x y_1/\((0=x_1.f.code/\false=x_1.f.found/\ByteArray.mk #[]=x_1.f.ans/\wS x.a.c.now x_1.f.aep)/\((4+x.sp (4:Int):Nat):Int)=(s.n:Int)/\true=true/\True)/\bK (dF.os (x.aE y_1.1 y_1.2))=bK (dF.os (x_1.a.sJ x_1.t (0:Int)))/\True) (OX x s.a))/\True
theorem anO(x:jr):anN x=wpF Tryz.prog anH tt (annE x) 200 6 15 ((runE (fun _=>True)).args x) (hO 1 ((runE (fun _=>True)).os x)) (fun v h'=>fA 1 x v h' (runE (fun _=>True)).outs):=by kernel_rfl
def anP(x:jr):Prop:=
 (∃s:ZRS,OY s x/\True/\((s.n:Int)=1/\True)/\((5:Int)=5/\afz s.f x)/\lN/\EY x/\jk s.a x.a)/\(∀s:ZRS,OY s x->cP (decide ((s.n:Int)<=100)) (∃x_1:ZSt,(Hd (x_1.a.r.ok/\x_1.a.c.ok/\x_1.t<x_1.a.r.t/\x_1.a.r.has x_1.t=0)/\True)/\(0=0/\nP x_1.t x.t/\((5:Int)=5/\x_1.f.key=s.f.key/\x_1.f.value=s.f.value/\fV/\fU/\(0:Int)=0/\BJ x_1.f s.f)/\True)/\jk x_1.a s.a/\(∀y:Unit,Hd ((5:Int)=4/\400<x_1.f.value.size)->(∃y_1:Nat,Hd (x.a.l.n=0)/\(((0:Int)=5/\yA x_1.f)/\yB y_1 s.n)/\jk x.a x_1.a)\/(∃y_1:Nat,afs x.a/\(((4:Int)=5/\yA x_1.f)/\yB y_1 s.n)/\jk x.a x_1.a)\/ ∃y_1:Prod Nat Nat,Hd (x.a.l.n≠0/\x.a.p.takes (0:Int) y_1.1 y_1.2)/\(((0:Int)=5/\true=x_1.f.found/\x.b.value=x_1.f.ans/\wS x.a.c.now x_1.f.aep)/\((6+x.b.dJ:Nat):Int)=(s.n:Int)/\true=true/\True)/\bK (dF.os (x.aD y_1.1 y_1.2))=bK x_1.a.os/\True)/\ ∀y:Unit,Hd ((5:Int)=4->x_1.f.value.size<=400)->kD s.n/\ ∃s_1:ZRS,Hd (1<=s_1.n/\s_1.n<=50/\s_1.n=2/\s_1.a=x.a1/\s_1.f=x.f1)/\kE s_1.n s.n/\kC s_1.n s.n/\((5:Int)=5/\s_1.f.key=x_1.f.key/\s_1.f.value=x_1.f.value/\fV/\fU/\(1:Int)=1/\s_1.f.epoch=x_1.a.c.now/\Yv s_1.f x_1.f)/\lN/\EY x/\bK s_1.a.os=bK (dF.os (x_1.a.sJ x_1.t x_1.a.r.now))/\True) (TL x s.a))/\(∀s:ZRS,Hd (1<=s.n/\s.n<=50/\s.n=2/\s.a=x.a1/\s.f=x.f1)->cP (decide ((s.n:Int)<=100)) (∃x_1:ZSt,(Hd (x_1.a.l.ok/\x_1.f.line=(-(1:Int)))/\True)/\(0=0/\nP x_1.t x.t/\((5:Int)=5/\x_1.f.key=s.f.key/\x_1.f.value=s.f.value/\fV/\fU/\(1:Int)=1/\BJ x_1.f s.f)/\True)/\
 jk x_1.a s.a/\(∀y:Unit,Hd (x_1.a.l.n=0)->kD s.n/\ ∃s_1:ZRS,Yw s_1 x/\kE s_1.n s.n/\kC s_1.n s.n/\((5:Int)=5/\s_1.f.key=x_1.f.key/\s_1.f.value=x_1.f.value/\fV/\fU/\(6:Int)=6/\s_1.f.epoch=x_1.f.epoch/\fV/\false=false/\(0:Int)=0/\s_1.f.had=false/\yw s_1.f.old.key/\s_1.f.old.id=0/\s_1.f.old.ver=0/\s_1.f.old.line=0/\s_1.f.old.cls=0/\s_1.f.line=x_1.f.line/\Yu s_1.f x_1.f)/\yx x s_1.a x_1.a)/\ ∀y:Unit,Hd (x_1.a.l.n≠0)->kD s.n/\ ∃s_1:ZRS,anM s_1 x/\kE s_1.n s.n/\kC s_1.n s.n/\((5:Int)=5/\s_1.f.key=x_1.f.key/\s_1.f.value=x_1.f.value/\fV/\fU/\(2:Int)=2/\s_1.f.epoch=x_1.f.epoch/\fV/\false=false/\(0:Int)=0/\s_1.f.had=true/\s_1.f.old.key=x_1.a.l.head.key/\s_1.f.old.id=x_1.a.l.head.id/\s_1.f.old.ver=x_1.a.l.head.ver/\s_1.f.old.line=x_1.a.l.head.line/\s_1.f.old.cls=x_1.a.l.head.cls/\s_1.f.line=x_1.f.line/\s_1.f.cls=x_1.f.cls/\s_1.f.piece=0/\F5 s_1.f x_1.f)/\yx x s_1.a x_1.a) (TL x s.a))/\(∀s:ZRS,anM s x->cP (decide ((s.n:Int)<=100)) (∃x_1:lq,(Hd (x_1.w.ok/\x_1.p=0)/\True)/\(0=0/\nP x_1.t x.t/\((5:Int)=5/\x_1.f.key=s.f.key/\x_1.f.value=s.f.value/\fV/\fU/\(2:Int)=2/\x_1.f.epoch=s.f.epoch/\fV/\false=false/\(0:Int)=0/\true=s.f.had/\ByteArray.mk #[]=s.f.old.key/\x_1.b.id=s.f.old.id/\x_1.b.ver=s.f.old.ver/\(x_1.ln:Int)=s.f.old.line/\x_1.b.cls=s.f.old.cls/\x_1.f.line=s.f.line/\x_1.f.cls=s.f.cls/\0=s.f.piece/\F5 x_1.f s.f)/\True)/\jk x_1.a s.a/\(∀y:Unit,Hd ((1:Int)≠spn x_1.b.cls)->kD s.n/\ ∃s_1:ZRS,afA s_1 x/\kE s_1.n s.n/\kC s_1.n s.n/\
 (64*s_1.p=64/\ ∀q:Nat,q<64*s_1.p->[Value.int .u8 (x.b.enc q)]=[Value.int .u8 (x_1.b.enc q)])/\((5:Int)=5/\s_1.f.key=x_1.f.key/\s_1.f.value=x_1.f.value/\fV/\fU/\(2:Int)=2/\s_1.f.epoch=x_1.f.epoch/\fV/\false=false/\(0:Int)=0/\s_1.f.had=true/\yw s_1.f.old.key/\s_1.f.old.id=x_1.b.id/\s_1.f.old.ver=x_1.b.ver/\s_1.f.old.line=(x_1.ln:Int)/\s_1.f.old.cls=x_1.b.cls/\s_1.f.line=x_1.f.line/\s_1.f.cls=x_1.f.cls/\s_1.f.piece=1/\(0=0/\64*s_1.p=64)/\aiw s_1.f x_1.f)/\yx x s_1.a x_1.a)/\(∀y:Unit,Hd (1=spn x_1.b.cls/\x_1.f.line<0)->kD s.n/\ ∃s_1:ZRS,afC s_1 x/\kE s_1.n s.n/\kC s_1.n s.n/\((5:Int)=5/\s_1.f.key=x_1.f.key/\s_1.f.value=x_1.f.value/\fV/\fU/\(3:Int)=3/\anK s_1.f x_1)/\yx x s_1.a x_1.a)/\ ∀y:Unit,Hd (1=spn x_1.b.cls/\0<=x_1.f.line)->kD s.n/\ ∃s_1:ZRS,Yx s_1 x/\kE s_1.n s.n/\kC s_1.n s.n/\((5:Int)=5/\s_1.f.key=x_1.f.key/\s_1.f.value=x_1.f.value/\fV/\fU/\(5:Int)=5/\anK s_1.f x_1)/\yx x s_1.a x_1.a) (TL x s.a))/\(∀s:ZRS,afA s x->cP (decide ((s.n:Int)<=100)) (∃x_1:lq,(Hd (x_1.w.ok/\x_1.p≠0)/\True)/\(0=0/\nP x_1.t x.t/\((5:Int)=5/\x_1.f.key=s.f.key/\x_1.f.value=s.f.value/\fV/\fU/\(2:Int)=2/\x_1.f.epoch=s.f.epoch/\fV/\false=false/\(0:Int)=0/\true=s.f.had/\ByteArray.mk #[]=s.f.old.key/\x_1.b.id=s.f.old.id/\x_1.b.ver=s.f.old.ver/\(x_1.ln:Int)=s.f.old.line/\x_1.b.cls=s.f.old.cls/\x_1.f.line=s.f.line/\x_1.f.cls=s.f.cls/\(x_1.p:Int)=s.f.piece/\(0=0/\64*x_1.p=64*s.p)/\aiw x_1.f s.f)/\True)/\(bK x_1.a.os=bK s.a.os/\(64*x_1.p=64*s.p/\
 ∀q:Nat,q<64*x_1.p->[Value.int .u8 (x_1.b.enc q)]=[Value.int .u8 (x.b.enc q)])/\True)/\(∀y:Unit,Hd ((x_1.p:Int)+1≠spn x_1.b.cls)->kD s.n/\ ∃s_1:ZRS,afA s_1 x/\kE s_1.n s.n/\kC s_1.n s.n/\(64*s_1.p=64*(x_1.p+1)/\ ∀q:Nat,q<64*s_1.p->[Value.int .u8 (x.b.enc q)]=[Value.int .u8 (x_1.b.enc q)])/\((5:Int)=5/\s_1.f.key=x_1.f.key/\s_1.f.value=x_1.f.value/\fV/\fU/\(2:Int)=2/\s_1.f.epoch=x_1.f.epoch/\fV/\false=false/\(0:Int)=0/\s_1.f.had=true/\yw s_1.f.old.key/\s_1.f.old.id=x_1.b.id/\s_1.f.old.ver=x_1.b.ver/\s_1.f.old.line=(x_1.ln:Int)/\s_1.f.old.cls=x_1.b.cls/\s_1.f.line=x_1.f.line/\s_1.f.cls=x_1.f.cls/\s_1.f.piece=(x_1.p:Int)+1/\(0=0/\64*s_1.p=64*(x_1.p+1))/\aiw s_1.f x_1.f)/\yx x s_1.a x_1.a)/\(∀y:Unit,Hd ((x_1.p:Int)+1=spn x_1.b.cls/\x_1.f.line<0)->kD s.n/\ ∃s_1:ZRS,afC s_1 x/\kE s_1.n s.n/\kC s_1.n s.n/\((5:Int)=5/\s_1.f.key=x_1.f.key/\s_1.f.value=x_1.f.value/\fV/\fU/\(3:Int)=3/\anJ s_1.f x_1)/\yx x s_1.a x_1.a)/\ ∀y:Unit,Hd ((x_1.p:Int)+1=spn x_1.b.cls/\0<=x_1.f.line)->kD s.n/\ ∃s_1:ZRS,Yx s_1 x/\kE s_1.n s.n/\kC s_1.n s.n/\((5:Int)=5/\s_1.f.key=x_1.f.key/\s_1.f.value=x_1.f.value/\fV/\fU/\(5:Int)=5/\anJ s_1.f x_1)/\yx x s_1.a x_1.a) (TL x s.a))/\(∀s:ZRS,afC s x->cP (decide ((s.n:Int)<=100)) (∃x_1:ZSt,(Hd (x_1.a.p.ok/\x_1.f.value.size<=400)/\True)/\(0=0/\nP x_1.t x.t/\((5:Int)=5/\x_1.f.key=s.f.key/\x_1.f.value=s.f.value/\fV/\fU/\(3:Int)=3/\BJ x_1.f s.f)/\True)/\jk x_1.a s.a/\
 (∀y:Unit,Hd (∀i:Nat,i<x_1.a.p.n->x_1.a.p.cls i≠(-(1:Int))/\x_1.a.p.full (x_1.c (5:Int)) i)->kD s.n/\ ∃s_1:ZRS,Yw s_1 x/\kE s_1.n s.n/\kC s_1.n s.n/\((5:Int)=5/\s_1.f.key=x_1.f.key/\s_1.f.value=x_1.f.value/\fV/\fU/\(6:Int)=6/\s_1.f.epoch=x_1.f.epoch/\fV/\false=false/\(0:Int)=0/\s_1.f.had=x_1.f.had/\s_1.f.old.key=x_1.f.old.key/\s_1.f.old.id=x_1.f.old.id/\s_1.f.old.ver=x_1.f.old.ver/\s_1.f.old.line=x_1.f.old.line/\s_1.f.old.cls=x_1.f.old.cls/\s_1.f.line=x_1.f.line/\s_1.f.cls=x_1.c (5:Int)/\afE s_1.f x_1.f)/\yx x s_1.a x_1.a)/\ ∀y:Prod Nat Nat,Hd (x_1.a.p.takes (x_1.c (5:Int)) y.1 y.2)->kD s.n/\ ∃s_1:ZRS,afy s_1 x/\kE s_1.n s.n/\kC s_1.n s.n/\((5:Int)=5/\s_1.f.key=x_1.f.key/\s_1.f.value=x_1.f.value/\fV/\fU/\(4:Int)=4/\s_1.f.epoch=x_1.f.epoch/\fV/\false=false/\(0:Int)=0/\s_1.f.had=x_1.f.had/\s_1.f.old.key=x_1.f.old.key/\s_1.f.old.id=x_1.f.old.id/\s_1.f.old.ver=x_1.f.old.ver/\s_1.f.old.line=x_1.f.old.line/\s_1.f.old.cls=x_1.f.old.cls/\s_1.f.line=2+(y.1:Int)*8+(y.2:Int)*spn (x_1.c (5:Int))/\s_1.f.cls=x_1.c (5:Int)/\s_1.f.piece=0/\F5 s_1.f x_1.f)/\lN/\EY x/\bK s_1.a.os=bK (dF.os (x_1.a.UR (x_1.a.p.take (x_1.c (5:Int)) y.1 y.2)))/\True) (TL x s.a))/\(∀s:ZRS,afy s x->cP (decide ((s.n:Int)<=100)) (∃x_1:ou,(Hd (x_1.w.ok/\x_1.p=0)/\True)/\(0=0/\nP x_1.t x.t/\((5:Int)=5/\x_1.f.key=s.f.key/\x_1.f.value=s.f.value/\fV/\fU/\(4:Int)=4/\x_1.f.epoch=s.f.epoch/\fV/\false=false/\(0:Int)=0/\x_1.f.had=s.f.had/\x_1.f.old.key=s.f.old.key/\x_1.f.old.id=s.f.old.id/\
 x_1.f.old.ver=s.f.old.ver/\x_1.f.old.line=s.f.old.line/\x_1.f.old.cls=s.f.old.cls/\(x_1.ln:Int)=s.f.line/\x_1.c=s.f.cls/\0=s.f.piece/\F5 x_1.f s.f)/\True)/\jk x_1.a s.a/\(∀y:Unit,Hd ((1:Int)≠spn x_1.c)->kD s.n/\ ∃s_1:ZRS,afy s_1 x/\kE s_1.n s.n/\kC s_1.n s.n/\((5:Int)=5/\s_1.f.key=x_1.f.key/\s_1.f.value=x_1.f.value/\fV/\fU/\(4:Int)=4/\s_1.f.epoch=x_1.f.epoch/\fV/\false=false/\(0:Int)=0/\s_1.f.had=x_1.f.had/\s_1.f.old.key=x_1.f.old.key/\s_1.f.old.id=x_1.f.old.id/\s_1.f.old.ver=x_1.f.old.ver/\s_1.f.old.line=x_1.f.old.line/\s_1.f.old.cls=x_1.f.old.cls/\s_1.f.line=(x_1.ln:Int)/\s_1.f.cls=x_1.c/\s_1.f.piece=1/\F5 s_1.f x_1.f)/\lN/\EY x/\O1 s_1.a x_1)/\ ∀y:Unit,Hd (1=spn x_1.c)->kD s.n/\ ∃s_1:ZRS,Yx s_1 x/\kE s_1.n s.n/\kC s_1.n s.n/\((5:Int)=5/\afB s_1.f x_1)/\lN/\EY x/\O1 s_1.a x_1) (TL x s.a))/\(∀s:ZRS,Yx s x->cP (decide ((s.n:Int)<=100)) (∃x_1:ZPb,Hd (x_1.chg.okD/\(∃i:Nat,∃j:Nat,x_1.chg.inP i j)/\0<=x_1.a.id/\x_1.a.id<1152921504606846976/\x_1.a.n≠0)/\(0=0/\nP x_1.t x.t/\((5:Int)=5/\x_1.f.key=s.f.key/\x_1.f.value=s.f.value/\fV/\fU/\(5:Int)=5/\x_1.f.epoch=s.f.epoch/\fV/\false=false/\(0:Int)=0/\true=s.f.had/\afD x_1 s.f)/\True)/\jk x_1.a s.a/\ ∀y:Unit,True->kD s.n/\ ∃s_1:ZRS,Yw s_1 x/\kE s_1.n s.n/\kC s_1.n s.n/\((5:Int)=5/\s_1.f.key=x_1.f.key/\s_1.f.value=x_1.f.value/\fV/\fU/\(6:Int)=6/\s_1.f.epoch=x_1.f.epoch/\fV/\false=false/\(0:Int)=0/\s_1.f.had=true/\s_1.f.old.key=x_1.f.old.key/\
 s_1.f.old.id=x_1.f.old.id/\s_1.f.old.ver=x_1.f.old.ver/\s_1.f.old.line=x_1.f.old.line/\s_1.f.old.cls=x_1.f.old.cls/\s_1.f.line=(-(1:Int))/\s_1.f.cls=x_1.f.cls/\s_1.f.piece=x_1.f.piece/\fU/\(0:Int)=0/\fU/\s_1.f.code=x_1.f.code/\s_1.f.found=true/\s_1.f.ans=x_1.f.ans/\wS s_1.f.aep x_1.f.epoch)/\lN/\EY x/\bK s_1.a.os=bK x_1.chg.deq.os/\True) (TL x s.a))/\(∀s:ZRS,Yw s x->cP (decide ((s.n:Int)<=100)) (∃x_1:ZSt,(Hd (x_1.a.r.ok/\x_1.t<x_1.a.r.t)/\True)/\(0=0/\nP x_1.t x.t/\((5:Int)=5/\x_1.f.key=s.f.key/\x_1.f.value=s.f.value/\fV/\fU/\(6:Int)=6/\BJ x_1.f s.f)/\True)/\jk x_1.a s.a/\ ∀y:Unit,True->(∃y_1:Nat,Hd (x.a.l.n=0)/\((0=x_1.f.code/\yA x_1.f)/\yB y_1 s.n)/\OZ x.a x_1)\/(∃y_1:Nat,afs x.a/\((4=x_1.f.code/\yA x_1.f)/\yB y_1 s.n)/\OZ x.a x_1)\/ ∃y_1:Prod Nat Nat,Hd (x.a.l.n≠0/\x.a.p.takes (0:Int) y_1.1 y_1.2)/\((0=x_1.f.code/\true=x_1.f.found/\x.b.value=x_1.f.ans/\wS x.a.c.now x_1.f.aep)/\((6+x.b.dJ:Nat):Int)=(s.n:Int)/\true=true/\True)/\bK (dF.os (x.aD y_1.1 y_1.2))=bK (dF.os (x_1.a.sJ x_1.t (0:Int)))/\True) (TL x s.a))/\True
theorem anQ(x:jr):anP x=wpF Tryz.prog anH tt (annD x) 200 6 15 ((runD (fun _=>True)).args x) (hO 1 ((runD (fun _=>True)).os x)) (fun v h'=>fA 1 x v h' (runD (fun _=>True)).outs):=by kernel_rfl
def E5(f:Nat->Bool):Nat->Nat
 |0=>0
 |n+1=>E5 f n+(bif f n then 1 else 0)
theorem anR(f:Nat->Bool): ∀n,E5 f n<=n
 |0=>aX _
 |n+1=>by
  have:=anR f n
  simp only[E5]
  cases f n<;>simp<;>omega
theorem anS{f:Nat->Bool}{k:Nat}(hf:f k=false): ∀{n},k<n->E5 f n<n
 |n+1,h=>by
  simp only[E5]
  by_cases e:k=n
  ·subst e;rw[hf];have:=anR f k;simp;omega
  ·have:=anS hf (n:=n) (by omega)
   cases f n<;>simp<;>omega
theorem mF{f g:Nat->Bool}: ∀{n},(∀k,k<n->f k=g k)->E5 f n=E5 g n
 |0,_=>rfl
 |n+1,h=>by simp only[E5];rw[mF fun k hk=>h k (by omega),h n (by omega)]
theorem afF{f:Nat->Bool}{k:Nat}(hf:f k=false): ∀{n},k<n->E5 (fun q=>if q=k then true else f q) n=E5 f n+1
 |n+1,h=>by
  simp only[E5]
  by_cases e:k=n
  ·subst e
   rw[mF (g:=f) fun q hq=>if_neg (by omega),hf];simp
  ·rw[afF hf (n:=n) (by omega),if_neg (by omega)];omega
theorem Yy{f:Nat->Bool}(h: ∀k,f k=false): ∀n,E5 f n=0
 |0=>rfl
 |n+1=>by simp only[E5,h,Yy h n];rfl
namespace dI
def at_(p:dI)(L:Int)(i j:Nat):Prop:=i<p.n/\0<=p.cls i/\j<many (p.cls i)/\p.tk i j=true/\L=2+i*8+j*spn (p.cls i)
def has(p:dI)(L:Int):Prop:= ∃i j,p.at_ L i j
def good(p:dI):Prop:=p.ok/\ ∀i,i<p.n->(p.cls i= -1-> ∀k,p.tk i k=false)/\(∀k,p.tk i k=true->k<many (p.cls i))/\p.cnt i=(E5 (p.tk i) 8:Nat)
end dI
theorem rJ{p:dI}(hp:p.good){c:Int}{i k:Nat}(h:p.takes c i k):i<p.n/\k<dI.many c/\p.tk i k=false/\(p.cls i=c\/p.cls i= -1):=by
 obtain⟨h1,h2,h3,h4⟩:=h
 refine⟨h1,h2,?_,?_⟩
 ·rcases h4 with ⟨h4,_⟩|⟨h4,_⟩
  ·rw[if_pos h4]at h3;exact h3
  ·exact(hp.2 i h1).1 h4 k
 ·rcases h4 with ⟨h4,_⟩|⟨h4,_⟩
  ·exact .inl h4
  ·exact .inr h4
theorem ab9(c:Int):dI.many c<=8:=by rcases iy c with h|h|h|h|h<;>omega
theorem BK{p:dI}(hp:p.good){c:Int}(hc:0<=c/\c<=3){i k:Nat}(h:p.takes c i k):(p.take c i k).good:=by
 obtain⟨h1,h2,h3,h4⟩:=rJ hp h
 obtain⟨⟨o1,o2,o3⟩,hg⟩:=hp
 have hm:=ab9 c
 have hlt:E5 (p.tk i) 8<8:=anS h3 (by omega)
 refine⟨⟨o1,o2,fun j hj=> ?_⟩,fun j hj=> ?_⟩
 ·have hj':j<p.n:=hj
  have a1:=o3 j hj'
  have a2:=(hg j hj').2.2
  by_cases e:j=i
  ·subst e
   refine⟨by show-1<=(if j=j then c else _);rw[if_pos rfl];omega,by show(if j=j then c else _)<=3;rw[if_pos rfl];omega,by show 0<=(if j=j then p.cnt j+1 else _);rw[if_pos rfl];omega,by show(if j=j then p.cnt j+1 else _)<=8;rw[if_pos rfl];omega⟩
  ·refine⟨by show-1<=(if j=i then c else p.cls j);rw[if_neg e];omega,by show(if j=i then c else p.cls j)<=3;rw[if_neg e];omega,by show 0<=(if j=i then p.cnt j+1 else p.cnt j);rw[if_neg e];omega,by show(if j=i then p.cnt j+1 else p.cnt j)<=8;rw[if_neg e];omega⟩
 ·have hj':j<p.n:=hj
  have a2:=hg j hj'
  by_cases e:j=i
  ·subst e
   refine⟨fun hh=> ?_,fun q hq=> ?_,?_⟩
   ·have:(if j=j then c else p.cls j)= -1:=hh
    rw[if_pos rfl]at this;omega
   ·have hq:(if j=j/\q=k then true else p.tk j q)=true:=hq
    show q<dI.many (if j=j then c else p.cls j)
    rw[if_pos rfl]
    by_cases eq:q=k
    ·omega
    ·rw[if_neg (fun hh=>eq hh.2)]at hq
     have:=a2.2.1 q hq
     rcases h4 with h4|h4
     ·rwa [h4]at this
     ·rw[a2.1 h4 q]at hq;cases hq
   ·show(if j=j then p.cnt j+1 else p.cnt j)=(E5 (fun q=>if j=j/\q=k then true else p.tk j q) 8:Nat)
    have e1:E5 (fun q=>if j=j/\q=k then true else p.tk j q) 8=E5 (p.tk j) 8+1:=by
     rw[<-afF h3 (show k<8 by omega)]
     exact mF fun q _=>by by_cases e:q=k<;>simp[e]
    rw[if_pos rfl,a2.2.2,e1]
    omega
  ·refine⟨fun hh q=> ?_,fun q hq=> ?_,?_⟩
   ·have hh:(if j=i then c else p.cls j)= -1:=hh
    rw[if_neg e]at hh
    show(if j=i/\q=k then true else p.tk j q)=false
    rw[if_neg (fun h=>e h.1)];exact a2.1 hh q
   ·have hq:(if j=i/\q=k then true else p.tk j q)=true:=hq
    rw[if_neg (fun h=>e h.1)]at hq
    show q<dI.many (if j=i then c else p.cls j)
    rw[if_neg e];exact a2.2.1 q hq
   ·show(if j=i then p.cnt j+1 else p.cnt j)=(E5 (fun q=>if j=i/\q=k then true else p.tk j q) 8:Nat)
    rw[if_neg e,a2.2.2,mF (g:=p.tk j) (fun q _=>if_neg (fun h=>e h.1))]
theorem afG{p:dI}(hp:p.good){c:Int}(hc:0<=c/\c<=3){i k:Nat}(h:p.takes c i k){L:Int}{i' j':Nat}(hL:p.at_ L i' j'):L+spn (p.cls i')<=2+i*8+k*spn c\/2+i*8+k*spn c+spn c<=L:=by
 obtain⟨h1,h2,h3,h4⟩:=rJ hp h
 obtain⟨a1,a2,a3,a4,rfl⟩:=hL
 have a5:=(hp.1.2.2 i' a1).2.1
 by_cases e:i'=i
 ·subst e
  have hcc:p.cls i'=c:=by
   rcases h4 with h4|h4
   ·exact h4
   ·omega
  rw[hcc]at a3 ⊢
  have hne:j'≠k:=fun e=>by subst e;rw[h3]at a4;cases a4
  rcases iy c with m|m|m|m|m<;>obtain⟨m1,m2,m3⟩:=m<;>rw[m2]<;>omega
 ·rcases iy c with m|m|m|m|m<;>rcases iy (p.cls i')with m'|m'|m'|m'|m'<;>obtain⟨m1,m2,m3⟩:=m<;>obtain⟨m1',m2',m3'⟩:=m'<;>rw[m2,m2']<;>omega
theorem TN{p:dI}(hp:p.good){c:Int}(hc:0<=c/\c<=3){i k:Nat}(h:p.takes c i k): ¬p.has (2+i*8+k*spn c):=fun⟨i',j',hL⟩=>by
 have h1:=afG hp hc h hL
 have h2:=XU hc
 have h3:=XU ⟨hL.2.1,(hp.1.2.2 i' hL.1).2.1⟩
 have s1:=dX c
 have s2:=dX (p.cls i')
 omega
theorem au4{p:dI}(hp:p.good){c:Int}{i k:Nat}(h:p.takes c i k){L:Int}{i' j':Nat}(hL:p.at_ L i' j'):(p.take c i k).at_ L i' j'/\(p.take c i k).cls i'=p.cls i':=by
 obtain⟨h1,h2,h3,h4⟩:=rJ hp h
 obtain⟨a1,a2,a3,a4,a5⟩:=hL
 have hcl:(p.take c i k).cls i'=p.cls i':=by
  show(if i'=i then c else p.cls i')=_
  split
  ·rename_i e
   subst e
   rcases h4 with h4|h4
   ·exact h4.symm
   ·omega
  ·rfl
 refine⟨⟨a1,by rw[hcl];exact a2,by rw[hcl];exact a3,?_,by rw[hcl];exact a5⟩,hcl⟩
 show(if i'=i/\j'=k then true else p.tk i' j')=true
 split
 ·rfl
 ·exact a4
theorem at_new{p:dI}(hp:p.good){c:Int}(hc:0<=c){i k:Nat}(h:p.takes c i k):(p.take c i k).at_ (2+i*8+k*spn c) i k/\(p.take c i k).cls i=c:=by
 obtain⟨h1,h2,h3,h4⟩:=rJ hp h
 have hcl:(p.take c i k).cls i=c:=if_pos rfl
 refine⟨⟨h1,by rw[hcl];exact hc,by rw[hcl];exact h2,if_pos ⟨rfl,rfl⟩,by rw[hcl]⟩,hcl⟩
structure wU (a:dF) (t:Nat):Prop where
 dok:a.d.ok
 dst:a.d.st+20<1099511627776
 rok:a.r.ok
 cok:a.c.ok
 tc:t<a.c.t
 tr:t<a.r.t
 out:a.r.has t=0
 pg:a.p.good
 fit:2+a.p.n*8<=a.d.n
 bok:a.b.ok
 lok:a.l.ok
 ln:a.l.n<1099511627776
 id0:0<=a.id
 id1:a.id<1152921504606846976
 v0:0<=a.ver
 v1:a.ver<1152921504606846976
 nn:a.n<1099511627776
 anT:1<=a.c.now
 aiZ:a.c.now<=2305843009213693952
 owed: ∀k,a.c.o k+8<1099511627776
 used: ∀L:Int,2<=L->(rC.inL ⟨a.b,a.l,L⟩\/rC.inB ⟨a.b,a.l,L⟩)->a.p.has L
theorem Yz{a:dF}{t:Nat}(h:a.r.has t=0)(v:Int):(a.sJ t v).sJ t 0=a:=by
 obtain⟨d,p,r,c,b,l,id,ver,n,e⟩:=a
 obtain⟨rt,rn,rh⟩:=r
 have h:rh t=0:=h
 have:(fun j=>if j=t then(0:Int)else if j=t then v else rh j)=rh:=by
  funext j
  by_cases e:j=t
  ·rw[if_pos e,e,h]
  ·rw[if_neg e,if_neg e]
 simp only[dF.sJ,ZRd.put,this]
theorem kZ{p:dI}(hp:p.good){c:Int}(hc:0<=c/\c<=3){i j:Nat}(h:p.takes c i j):((2+i*8+j*(spn c).toNat:Nat):Int)=2+i*8+j*spn c/\2+i*8+j*(spn c).toNat+(spn c).toNat<=2+p.n*8:=by
 obtain⟨h1,h2,_,_⟩:=rJ hp h
 rcases iy c with m|m|m|m|m<;>obtain⟨m1,m2,m3⟩:=m<;>rw[m2]<;>simp only[show Int.toNat 1=1 from rfl,show Int.toNat 2=2 from rfl,show Int.toNat 4=4 from rfl,show Int.toNat 8=8 from rfl,show Int.toNat 0=0 from rfl]<;>omega
def jr.fW(x:jr)(k:Int)(i j p:Nat):ZFr:={x.f1 with line:=x.ln k i j,cls:=x.c k,piece:=(p:Int)}
section
variable{x:jr}
theorem anU(g:wU x.a x.t)(hv:x.v.size<=400)(k:Int)(hc:0<=x.c k/\x.c k<=3)(i j:Nat): ∀p,p<=8->(x.dW k i j p).ok/\(x.dW k i j p).n=x.a.d.n/\(x.dW k i j p).st=x.a.d.st+p
 |0,_=>⟨g.dok,rfl,by show x.a.d.st=x.a.d.st+((0:Nat):Int);omega⟩
 |p+1,hp=>by
  obtain⟨h1,h2,h3⟩:=anU g hv k hc i j p (by omega)
  have:=g.dst
  show(ZWr.d' ⟨x.dW k i j p,x.t,x.f1,x.ln k i j,x.c k,p⟩).ok/\_
  show _/\(ZWr.d' ⟨x.dW k i j p,x.t,x.f1,x.ln k i j,x.c k,p⟩).n=_/\(ZWr.d' ⟨x.dW k i j p,x.t,x.f1,x.ln k i j,x.c k,p⟩).st=_
  unfold ZWr.d'
  by_cases e:p=0
  ·simp only[e,if_true]
   subst e
   exact⟨dS.kY h1 _ _ _ (GR hc) (by omega),h2,by show(x.dW k i j 0).st+1=_;omega⟩
  ·simp only[e,if_false]
   exact⟨dS.kY h1 _ _ _ (fun q=>ae0 _ (by omega)) (by omega),h2,by show(x.dW k i j p).st+1=_;omega⟩
theorem au5(hv:x.v.size<=400):0<=x.c 4/\x.c 4<=3:=by
 rw[show x.c 4=ned x.v.size from if_pos rfl];exact aeZ hv
theorem au6{c:Int}(h:0<=c/\c<=3):((0:Nat):Int)<spn c:=by
 rcases dX c with h'|h'|h'|h'|h'<;>omega
theorem anV(g:wU x.a x.t)(hv:x.v.size<=400)(i j:Nat):(x.pb 4 i j x.f1).chg.blk.may:=by
 have hc:x.c 4=ned x.v.size:=if_pos rfl
 have:=g.id0;have:=g.id1;have:=g.v0;have:=g.v1;have:=g.anT;have:=g.aiZ
 refine⟨XU (by show 0<=x.c 4/\x.c 4<=3;rw[hc];exact aeZ hv),.inr (.inr (.inl ⟨rfl,rfl,hv,?_,?_,?_,?_⟩))⟩
 ·show ned ((0+x.v.size:Nat):Int)=x.c 4
  rw[hc,ay]
 ·show 1<=x.a.id+1/\x.a.id+1<=2305843009213693952;omega
 ·show 1<=x.a.ver+1/\x.a.ver+1<=2305843009213693952;omega
 ·show 1<=x.a.c.now/\x.a.c.now<=2305843009213693952;omega
theorem anW(g:wU x.a x.t)(hv:x.v.size<=400){i j:Nat}(h:x.a.p.takes (x.c 4) i j):(x.pb 4 i j x.f1).chg.okE/\(∃i' j',(x.pb 4 i j x.f1).chg.inP i' j')/\ ∀k,(x.pb 4 i j x.f1).a.c.o k+8<1099511627776:=by
 have hc:0<=x.c 4/\x.c 4<=3:=by rw[show x.c 4=ned x.v.size from if_pos rfl];exact aeZ hv
 have hs:=dX (x.c 4)
 obtain⟨l1,l2⟩:=kZ g.pg hc h
 obtain⟨d1,d2,d3⟩:=anU g hv 4 hc i j (x.sp 4) (by unfold jr.sp;omega)
 obtain⟨n1,n2⟩:=at_new g.pg hc.1 h
 have hf:=g.fit
 have h1:=g.dok.1
 have no: ¬x.a.p.has ((x.ln 4 i j:Nat):Int):=by rw[show((x.ln 4 i j:Nat):Int)=2+i*8+j*spn (x.c 4) from l1];exact TN g.pg hc h
 have hL:(2:Int)<=(x.ln 4 i j:Nat):=by unfold jr.ln;omega
 refine⟨⟨⟨d1,g.cok,g.lok,g.tc,?_,anV g hv i j,?_,g.id0,g.v0,g.nn,?_⟩,(BK g.pg hc h).1,g.bok,g.ln,rfl,g.v1,g.id1,fun hh=>no (g.used _ hL (.inl hh)),fun hh=>no (g.used _ hL (.inr hh))⟩,⟨i,j,?_⟩,g.owed⟩
 ·show x.ln 4 i j<(x.dW 4 i j (x.sp 4)).n
  rw[d2];unfold jr.ln;omega
 ·show x.v.size<1099511627776;omega
 ·show(x.dW 4 i j (x.sp 4)).n<=258;omega
 ·obtain⟨a1,a2,a3,a4,a5⟩:=n1
  exact⟨a1,a2,a3,a4,by show((x.ln 4 i j:Nat):Int)=2+i*8+j*spn ((x.a.p.take (x.c 4) i j).cls i);rw[n2];exact l1,n2⟩
theorem acd(g:wU x.a x.t):anN x:=by
 unfold anN
 simp only[OY,afz,lN,EZ,jk,nP,fV,fU,BJ,yA,yB,afu,aft,wS,kD,kE,kC,Yv,OX,afv,afE,afx,F5,O1,anL,afB,afD,OZ,Yu,aiw,ab7,OW,afw,yw]
 simp only[aY,aU,aT,ay,aH,bP,bC,aN,aJ,au,aW,aV,bQ,bF,bG,bH,bT,bf,bJ,aZ,dZ,aG,aK,ah,aj,aA,aC,aB,aF]
 refine⟨⟨⟨x.a,f0 x.key x.v,1,0⟩,⟨show 1<=1 by decide,show 1<=50 by decide,rfl,rfl,rfl⟩,rfl,(by repeat' (first|exact rfl|refine And.intro ?_ ?_)),rfl⟩,?_,?_,?_,?_,?_⟩
 ·rintro ⟨sa,sf,sn,sp⟩ ⟨s1,s2,s3,s4,s5⟩
  have s1:1<=sn:=s1
  have s2:sn<=50:=s2
  have s3:sn=1:=s3
  have e4:sa=x.a:=s4
  have e5:sf=f0 x.key x.v:=s5
  clear s4 s5
  subst e4 e5
  refine bg (fun _=>⟨⟨x.a,f0 x.key x.v,x.t⟩,⟨g.rok,g.cok,g.tr,g.out⟩,(by repeat' (first|exact rfl|refine And.intro ?_ ?_)),rfl,fun h=> .inl ⟨sn,h,(by repeat' (first|exact rfl|refine And.intro ?_ ?_)),rfl⟩,fun h=>⟨by unfold I64;omega,⟨x.a1,x.f1,sn+1,0⟩,⟨by show 1<=sn+1;omega,by show sn+1<=50;omega,by show sn+1=2;omega,rfl,rfl,h⟩,by show 101-(sn+1)<101-sn;omega,rfl,(by repeat' (first|exact rfl|refine And.intro ?_ ?_)),rfl⟩⟩) fun h=>absurd (aS h) (by show¬ ¬(sn:Int)<=100;omega)
 ·rintro ⟨sa,sf,sn,sp⟩ ⟨s1,s2,s3,s4,s5,hv⟩
  have s1:1<=sn:=s1
  have s2:sn<=50:=s2
  have s3:sn=2:=s3
  have e4:sa=x.a1:=s4
  have e5:sf=x.f1:=s5
  clear s4 s5
  subst e4 e5
  have hcc:=au5 hv
  refine bg (fun _=>⟨⟨x.a1,x.f1,x.t⟩,⟨g.pg.1,hv⟩,(by repeat' (first|exact rfl|refine And.intro ?_ ?_)),rfl,fun h=>⟨by unfold I64;omega,⟨x.a1,{x.f1 with cls:=x.c 4,code:=4},sn+1,0⟩,⟨by show 1<=sn+1;omega,by show sn+1<=50;omega,hv,.inl ⟨h,rfl,rfl⟩⟩,by show 101-(sn+1)<101-sn;omega,rfl,(by repeat' (first|exact rfl|refine And.intro ?_ ?_)),rfl⟩,fun y hy=>⟨by unfold I64;omega,⟨x.a2 4 y.1 y.2 0,{x.f1 with line:=x.ln 4 y.1 y.2,cls:=x.c 4,piece:=(0:Nat)},sn+1,0⟩,⟨by show 1<=sn+1;omega,by show sn+1<=50;omega,hv,au6 hcc,by show sn+1=3+0;omega,y.1,y.2,hy,rfl,rfl⟩,by show 101-(sn+1)<101-sn;omega,rfl,?_,rfl⟩⟩) fun h=>absurd (aS h) (by show¬ ¬(sn:Int)<=100;omega)
  exact⟨rfl,rfl,rfl,rfl,rfl,rfl,rfl,rfl,rfl,(kZ g.pg hcc hy).1,rfl,rfl,rfl,rfl,rfl,rfl⟩
 ·rintro ⟨sa,sf,sn,sp⟩ ⟨s1,s2,hv,hp,s3,i,j,ht,s4,s5⟩
  have s1:1<=sn:=s1
  have s2:sn<=50:=s2
  have hp:(sp:Int)<spn (x.c 4):=hp
  have s3:sn=3+sp:=s3
  have e4:sa=x.a2 4 i j sp:=s4
  have e5:sf=x.fW 4 i j sp:=s5
  clear s4 s5
  subst e4 e5
  have hcc:=au5 hv
  have hs:=dX (x.c 4)
  obtain⟨l1,l2⟩:=kZ g.pg hcc ht
  obtain⟨d1,d2,d3⟩:=anU g hv 4 hcc i j sp (by omega)
  have hf:=g.fit
  have hd:=g.dst
  have hw:ou.w ⟨x.a2 4 i j sp,x.fW 4 i j sp,x.t,x.ln 4 i j,x.c 4,sp⟩|>.ok:=⟨d1,hcc.1,hcc.2,by show((x.ln 4 i j:Nat):Int)+spn (x.c 4)<=(x.dW 4 i j sp).n;rw[d2];unfold jr.ln;omega,hp,hv,by show small (x.dW 4 i j sp).st;have:=g.dok.2.2.1;unfold small at*;omega,by show(x.dW 4 i j sp).st+10<_;omega⟩
  refine bg (fun _=>⟨⟨x.a2 4 i j sp,x.fW 4 i j sp,x.t,x.ln 4 i j,x.c 4,sp⟩,hw,(by repeat' (first|exact rfl|refine And.intro ?_ ?_)),rfl,fun h=>⟨by unfold I64;omega,⟨x.a2 4 i j (sp+1),x.fW 4 i j (sp+1),sn+1,sp+1⟩,⟨by show 1<=sn+1;omega,by show sn+1<=50;omega,hv,by show((sp+1:Nat):Int)<_;have h:(sp:Int)+1≠spn (x.c 4):=h;omega,by show sn+1=3+(sp+1);omega,i,j,ht,rfl,rfl⟩,by show 101-(sn+1)<101-sn;omega,rfl,(by repeat' (first|exact rfl|refine And.intro ?_ ?_)),rfl⟩,fun h=> ?_⟩) fun h=>absurd (aS h) (by show¬ ¬(sn:Int)<=100;omega)
  have h:(sp:Int)+1=spn (x.c 4):=h
  have e:x.sp 4=sp+1:=by unfold jr.sp;omega
  refine⟨by unfold I64;omega,⟨x.a2 4 i j (x.sp 4),{x.f1 with line:=x.ln 4 i j,cls:=x.c 4},sn+1,0⟩,⟨by show 1<=sn+1;omega,by show sn+1<=50;omega,hv,by show sn+1=3+x.sp 4;omega,i,j,ht,rfl,rfl⟩,by show 101-(sn+1)<101-sn;omega,rfl,(by repeat' (first|exact rfl|refine And.intro ?_ ?_)),by rw[e];rfl⟩
 ·rintro ⟨sa,sf,sn,sp⟩ ⟨s1,s2,hv,s3,i,j,ht,s4,s5⟩
  have s1:1<=sn:=s1
  have s2:sn<=50:=s2
  have s3:sn=3+x.sp 4:=s3
  have hs:=dX (x.c 4)
  have hs9:x.sp 4<=8:=by unfold jr.sp;omega
  have e4:sa=x.a2 4 i j (x.sp 4):=s4
  have e5:sf={x.f1 with line:=x.ln 4 i j,cls:=x.c 4}:=s5
  clear s4 s5
  subst e4 e5
  refine bg (fun _=>⟨x.pb 4 i j x.f1,anW g hv ht,(by repeat' (first|exact rfl|refine And.intro ?_ ?_)),rfl,by unfold I64;omega,⟨(x.pb 4 i j x.f1).chg.enq,{x.f1 with cls:=x.c 4,aep:=x.a.c.now},sn+1,0⟩,⟨by show 1<=sn+1;omega,by show sn+1<=50;omega,hv,.inr ⟨by show sn+1=4+x.sp 4;omega,i,j,ht,rfl,rfl⟩⟩,by show 101-(sn+1)<101-sn;omega,rfl,(by repeat' (first|exact rfl|refine And.intro ?_ ?_)),rfl⟩) fun h=>absurd (aS h) (by show¬ ¬(sn:Int)<=100;omega)
 ·rintro ⟨sa,sf,sn,sp⟩ ⟨s1,s2,hv,hh⟩
  have s1:1<=sn:=s1
  have s2:sn<=50:=s2
  rcases hh with ⟨hf,s4,s5⟩|⟨s3,i,j,ht,s4,s5⟩
  ·have e4:sa=x.a1:=s4
   have e5:sf={x.f1 with cls:=x.c 4,code:=4}:=s5
   clear s4 s5
   subst e4 e5
   refine bg (fun _=>⟨⟨x.a1,{x.f1 with cls:=x.c 4,code:=4},x.t⟩,⟨g.rok,g.tr⟩,(by repeat' (first|exact rfl|refine And.intro ?_ ?_)),rfl,.inr (.inl ⟨sn,⟨hv,hf⟩,(by repeat' (first|exact rfl|refine And.intro ?_ ?_)),?_⟩)⟩) fun h=>absurd (aS h) (by show¬ ¬(sn:Int)<=100;omega)
   show bK x.a.os=bK (x.a1.sJ x.t 0).os
   rw[show x.a1.sJ x.t 0=x.a from Yz g.out _]
  ·have e4:sa=(x.pb 4 i j x.f1).chg.enq:=s4
   have e5:sf={x.f1 with cls:=x.c 4,aep:=x.a.c.now}:=s5
   clear s4 s5
   subst e4 e5
   refine bg (fun _=>⟨⟨(x.pb 4 i j x.f1).chg.enq,{x.f1 with cls:=x.c 4,aep:=x.a.c.now},x.t⟩,⟨g.rok,g.tr⟩,(by repeat' (first|exact rfl|refine And.intro ?_ ?_)),rfl,.inr (.inr ⟨(i,j),⟨hv,ht⟩,⟨(by repeat' (first|exact rfl|refine And.intro ?_ ?_)),(by show((4+x.sp 4:Nat):Int)=sn;have s3:sn=4+x.sp 4:=s3;omega)⟩,rfl⟩)⟩) fun h=>absurd (aS h) (by show¬ ¬(sn:Int)<=100;omega)
theorem TP(x:ZCl):TM x:=by
 unfold TM
 simp only[fU,fV,lN,ab7]
 simp only[aY,aU,aT,ay,aH,bP,bC,aN,aJ,au,aW,aV,bQ,bF,bG,bH,bT,bf,bJ,aZ,dZ,aG,aK,ah,aj,aA,aC,aB,aF]
theorem anX:bZ Tryz.prog 17 OV:=dV dB mixed .nil noA 200 6 (fun _=>rfl) (fun _=>rfl) fun x _=>Eq.mp (ab8 x) (TP x)
theorem JX(args:List AV)(h:Heap)(K:AV->Heap->Prop)(hq:Yt args h K):Sp Tryz.prog 17 args h K:=by
 unfold Yt at hq
 split at hq
 ·rename_i k key v to
  exact GK anX ⟨k,key,v,to⟩ trivial h rfl rfl hq
 ·exact hq.elim
theorem YA:fJ Tryz.prog anH:= .cons JX (.cons anG .nil)
theorem au7:bZ Tryz.prog 15 (runE fun x=>wU x.a x.t):=gB dB mixed YA annE 200 6 (fun _=>rfl) (fun _=>⟨fun _=>rfl,fun _=>rfl,fun _=>rfl,trivial⟩) fun x hx=>Eq.mp (anO x) (acd (aY.1 hx))
end
def O4(a:dF)(b:dN)(ln:Nat):Prop:=b.may/\b.kind=2/\a.l.head=⟨⟨#[]⟩,b.id,b.ver,ln,b.cls⟩/\(∃i j,a.p.at_ ln i j/\a.p.cls i=b.cls)/\ ∀q,q<64*b.dJ->a.d.b ((ln+q/64)*193+q%64)=b.enc q
section
variable{x:jr}
theorem anY(g:wU x.a x.t){ln i j:Nat}{c:Int}(h:x.a.p.at_ ln i j)(hc:x.a.p.cls i=c):2<=ln/\(ln:Int)+spn c<=x.a.d.n/\0<=c/\c<=3/\ln<258:=by
 obtain⟨h1,h2,h3,h4,h5⟩:=h
 have h6:=(g.pg.1.2.2 i h1).2.1
 have h7:=g.fit
 have h8:=g.dok.1
 rw[hc]at h2 h3 h5 h6
 rcases iy c with m|m|m|m|m<;>obtain⟨m1,m2,m3⟩:=m<;>rw[m2]at h5 ⊢<;>omega
theorem ln5(g:wU x.a x.t){y:Nat×Nat}(h:x.a.p.takes 0 y.1 y.2):((x.ln 5 y.1 y.2:Nat):Int)=2+y.1*8+y.2*spn 0:=(kZ g.pg (by decide) h).1
theorem au8(g:wU x.a x.t){i j:Nat}(h:x.a.p.takes 0 i j):x.ln 5 i j+1<=x.a.d.n:=by
 have h1:=(kZ g.pg (by decide) h).2
 have h2:=g.fit
 have:x.ln 5 i j=2+i*8+j*(spn 0).toNat:=rfl
 have h3:(spn 0).toNat=1:=rfl
 omega
theorem au9(g:wU x.a x.t)(hv:x.v.size<=400)(hz:x.a.l.n≠0)(hH:x.a.l.n≠0->x.a.n≠0/\ ∃ln,O4 x.a x.b ln){i j:Nat}(h:x.a.p.takes 0 i j):(x.pb 5 i j x.f2).chg.okD/\(∃i' j',(x.pb 5 i j x.f2).chg.inP i' j')/\0<=x.a.id/\x.a.id<1152921504606846976/\x.a.n≠0:=by
 obtain⟨hn0,ln,hb1,hb2,hh,⟨bi,bj,hat,hbc⟩,hby⟩:=hH hz
 have hk:(⟨#[]⟩:ByteArray)=x.a.l.head.key:=by rw[hh]
 have hi:x.b.id=x.a.l.head.id:=by rw[hh]
 have hve:x.b.ver=x.a.l.head.ver:=by rw[hh]
 have hl:(ln:Int)=x.a.l.head.line:=by rw[hh]
 have hcl:x.b.cls=x.a.l.head.cls:=by rw[hh]
 have hfit:=anY g hat hbc
 have hs:=dX x.b.cls
 have hc:(0:Int)<=0/\(0:Int)<=3:=by decide
 have hc5:x.c 5=0:=if_neg (by decide)
 obtain⟨l1,l2⟩:=kZ g.pg hc h
 obtain⟨d1,d2,d3⟩:=anU g hv 5 (by rw[hc5];exact hc) i j (x.sp 5) (by unfold jr.sp;rw[hc5];decide)
 obtain⟨n1,n2⟩:=at_new g.pg hc.1 h
 have hf:=g.fit
 have h1:=g.dok.1
 have hs0:(spn 0).toNat=1:=rfl
 have eL:x.ln 5 i j=2+i*8+j*(spn 0).toNat:=by unfold jr.ln;rw[hc5]
 have no: ¬x.a.p.has ((x.ln 5 i j:Nat):Int):=by rw[eL,l1];exact TN g.pg hc h
 have hL:(2:Int)<=(x.ln 5 i j:Nat):=by rw[eL];omega
 have nums:1<=x.b.id/\x.b.id<=2305843009213693952:=by
  rcases hb1.2 with h|h|h|h
  ·exfalso;have:=h.1;omega
  ·exfalso;have:=h.1;omega
  ·exact h.2.2.2.2.1
  ·exfalso;have:=h.1;omega
 have:=g.v0;have:=g.v1;have:=g.anT;have:=g.aiZ
 refine⟨⟨d1,g.cok,g.lok,g.tc,?_,?_,g.v0,g.nn,?_,?_,g.bok,g.rok,g.ln,hz,rfl,rfl,g.v1,hc5,?_,fun hh=>no (g.used _ hL (.inl hh)),fun hh=>no (g.used _ hL (.inr hh))⟩,⟨i,j,?_⟩,g.id0,g.id1,hn0⟩
 ·show x.ln 5 i j<(x.dW 5 i j (x.sp 5)).n
  rw[d2,eL];omega
 ·refine⟨show spn 0≠0 by decide,.inr (.inr (.inr ⟨rfl,rfl,rfl,?_,?_,?_⟩))⟩
  ·show 1<=x.a.l.head.id/\x.a.l.head.id<=2305843009213693952
   rw[<-hi];exact nums
  ·show 1<=x.a.ver+1/\x.a.ver+1<=2305843009213693952;omega
  ·show 1<=x.a.c.now/\x.a.c.now<=2305843009213693952;omega
 ·show(x.dW 5 i j (x.sp 5)).n<=258;omega
 ·show(x.a.p.take (x.c 5) i j).ok
  rw[hc5];exact(BK g.pg hc h).1
 ·refine⟨?_,?_,?_,?_,?_,?_⟩
  ·show 2<=x.a.l.head.line;rw[<-hl];omega
  ·show x.a.l.head.line<258;rw[<-hl];omega
  ·show 0<=x.a.l.head.cls;rw[<-hcl];omega
  ·show x.a.l.head.cls<=3;rw[<-hcl];omega
  ·show-1<=((x.ln 5 i j:Nat):Int);omega
  ·show((x.ln 5 i j:Nat):Int)<258;omega
 ·obtain⟨a1,a2,a3,a4,a5⟩:=n1
  show i<(x.a.p.take (x.c 5) i j).n/\_
  rw[<-hc5]at a1 a2 a3 a4 n2
  refine⟨a1,a2,a3,a4,?_,n2⟩
  show((x.ln 5 i j:Nat):Int)=2+i*8+j*spn ((x.a.p.take (x.c 5) i j).cls i)
  rw[n2,hc5,eL];exact l1
theorem ace(g:wU x.a x.t)(hv:x.v.size<=400)(hH:x.a.l.n≠0->x.a.n≠0/\ ∃ln,O4 x.a x.b ln):anP x:=by
 have hc5:x.c 5=0:=if_neg (by decide)
 unfold anP
 simp only[OY,afz,lN,EY,jk,nP,fV,fU,BJ,yA,yB,afs,wS,kD,kE,kC,Yv,TL,Yw,yw,Yu,yx,anM,F5,afA,aiw,afC,anK,Yx,anJ,afE,afy,O1,afB,afD,OZ,anI,OW,ab7,afw]
 simp only[aY,aU,aT,ay,aH,bP,bC,aN,aJ,au,aW,aV,bQ,bF,bG,bH,bT,bf,bJ,aZ,dZ,aG,aK,ah,aj,aA,aC,aB,aF]
 refine⟨⟨⟨x.a,f0 x.key x.v,1,0⟩,⟨show 1<=1 by decide,show 1<=50 by decide,rfl,rfl,rfl⟩,rfl,(by repeat' (first|exact rfl|refine And.intro ?_ ?_)),rfl⟩,?_,?_,?_,?_,?_,?_,?_,?_⟩
 ·rintro ⟨sa,sf,sn,sp⟩ ⟨s1,s2,s3,s4,s5⟩
  have s1:1<=sn:=s1
  have s2:sn<=50:=s2
  have s3:sn=1:=s3
  have e4:sa=x.a:=s4
  have e5:sf=f0 x.key x.v:=s5
  clear s4 s5
  subst e4 e5
  refine bg (fun _=>⟨⟨x.a,f0 x.key x.v,x.t⟩,⟨g.rok,g.cok,g.tr,g.out⟩,(by repeat' (first|exact rfl|refine And.intro ?_ ?_)),rfl,fun h=>absurd h.1 (by decide),fun h=>⟨by unfold I64;omega,⟨x.a1,x.f1,sn+1,0⟩,⟨by show 1<=sn+1;omega,by show sn+1<=50;omega,by show sn+1=2;omega,rfl,rfl⟩,by show 101-(sn+1)<101-sn;omega,rfl,(by repeat' (first|exact rfl|refine And.intro ?_ ?_)),rfl⟩⟩) fun h=>absurd (aS h) (by show¬ ¬(sn:Int)<=100;omega)
 ·rintro ⟨sa,sf,sn,sp⟩ ⟨s1,s2,s3,s4,s5⟩
  have s1:1<=sn:=s1
  have s2:sn<=50:=s2
  have s3:sn=2:=s3
  have e4:sa=x.a1:=s4
  have e5:sf=x.f1:=s5
  clear s4 s5
  subst e4 e5
  refine bg (fun _=>⟨⟨x.a1,x.f1,x.t⟩,⟨g.lok,rfl⟩,(by repeat' (first|exact rfl|refine And.intro ?_ ?_)),rfl,fun h=>⟨by unfold I64;omega,⟨x.a1,x.f1,sn+1,0⟩,⟨by show 1<=sn+1;omega,by show sn+1<=50;omega,.inl ⟨h,rfl,rfl⟩⟩,by show 101-(sn+1)<101-sn;omega,rfl,(by repeat' (first|exact rfl|refine And.intro ?_ ?_)),rfl⟩,fun h=>⟨by unfold I64;omega,⟨x.a1,{x.f1 with had:=true,old:=x.a.l.head},sn+1,0⟩,⟨by show 1<=sn+1;omega,by show sn+1<=50;omega,by show sn+1=3;omega,rfl,h,rfl⟩,by show 101-(sn+1)<101-sn;omega,rfl,(by repeat' (first|exact rfl|refine And.intro ?_ ?_)),rfl⟩⟩) fun h=>absurd (aS h) (by show¬ ¬(sn:Int)<=100;omega)
 ·rintro ⟨sa,sf,sn,sp⟩ ⟨s1,s2,s3,s4,hz,s5⟩
  have s1:1<=sn:=s1
  have s2:sn<=50:=s2
  have s3:sn=3:=s3
  have e4:sa=x.a1:=s4
  have e5:sf={x.f1 with had:=true,old:=x.a.l.head}:=s5
  clear s4 s5
  subst e4 e5
  obtain⟨hn0,ln,hb1,hb2,hh,⟨bi,bj,hat,hbc⟩,hby⟩:=hH hz
  have hk:(⟨#[]⟩:ByteArray)=x.a.l.head.key:=by rw[hh]
  have hi:x.b.id=x.a.l.head.id:=by rw[hh]
  have hve:x.b.ver=x.a.l.head.ver:=by rw[hh]
  have hl:(ln:Int)=x.a.l.head.line:=by rw[hh]
  have hcl:x.b.cls=x.a.l.head.cls:=by rw[hh]
  have hfit:=anY g hat hbc
  have hs:=dX x.b.cls
  have hw:lq.w ⟨x.a1,x.f1,x.t,x.b,ln,0⟩|>.ok:=⟨g.dok,hb1,hb2,hfit.2.1,by show((0:Nat):Int)<spn x.b.cls;omega,hby⟩
  refine bg (fun _=>⟨⟨x.a1,x.f1,x.t,x.b,ln,0⟩,⟨hw,rfl⟩,(by repeat' (first|exact rfl|exact hk|exact hi|exact hve|exact hl|exact hcl|refine And.intro ?_ ?_)),rfl,fun h=>⟨by unfold I64;omega,⟨x.a1,{x.f1 with had:=true,old:=x.a.l.head,piece:=((1:Nat):Int)},sn+1,1⟩,⟨aX 1,by show((1:Nat):Int)<spn x.b.cls;have h:(1:Int)≠spn x.b.cls:=h;omega,by show sn+1=3+1;omega,rfl,hz,rfl⟩,by show 101-(sn+1)<101-sn;omega,rfl,⟨rfl,fun q _=>rfl⟩,(by repeat' (first|exact rfl|exact hk.symm|exact hi.symm|exact hve.symm|exact hl.symm|exact hcl.symm|refine And.intro ?_ ?_)),rfl⟩,fun h=>⟨by unfold I64;omega,⟨x.a1,{x.f2 with piece:=1},sn+1,0⟩,⟨by show 1<=sn+1;omega,by show sn+1<=50;omega,by show sn+1=3+x.b.dJ;have h:(1:Int)=spn x.b.cls:=h.1;have:=(kU x.b).2;omega,rfl,hz,1,rfl⟩,by show 101-(sn+1)<101-sn;omega,rfl,(by repeat' (first|exact rfl|exact hk.symm|exact hi.symm|exact hve.symm|exact hl.symm|exact hcl.symm|refine And.intro ?_ ?_)),rfl⟩,fun h=>absurd h.2 (show¬(0:Int)<= -1 by decide)⟩) fun h=>absurd (aS h) (by show¬ ¬(sn:Int)<=100;omega)
 ·rintro ⟨sa,sf,sn,sp⟩ ⟨p1,p2,s3,s4,hz,s5⟩
  have p1:1<=sp:=p1
  have p2:(sp:Int)<spn x.b.cls:=p2
  have s3:sn=3+sp:=s3
  have e4:sa=x.a1:=s4
  have e5:sf={x.f1 with had:=true,old:=x.a.l.head,piece:=(sp:Int)}:=s5
  clear s4 s5
  subst e4 e5
  obtain⟨hn0,ln,hb1,hb2,hh,⟨bi,bj,hat,hbc⟩,hby⟩:=hH hz
  have hk:(⟨#[]⟩:ByteArray)=x.a.l.head.key:=by rw[hh]
  have hi:x.b.id=x.a.l.head.id:=by rw[hh]
  have hve:x.b.ver=x.a.l.head.ver:=by rw[hh]
  have hl:(ln:Int)=x.a.l.head.line:=by rw[hh]
  have hcl:x.b.cls=x.a.l.head.cls:=by rw[hh]
  have hfit:=anY g hat hbc
  have hs:=dX x.b.cls
  have hw:lq.w ⟨x.a1,x.f1,x.t,x.b,ln,sp⟩|>.ok:=⟨g.dok,hb1,hb2,hfit.2.1,p2,hby⟩
  refine bg (fun _=>⟨⟨x.a1,x.f1,x.t,x.b,ln,sp⟩,⟨hw,by show sp≠0;omega⟩,(by repeat' (first|exact rfl|exact hk|exact hi|exact hve|exact hl|exact hcl|refine And.intro ?_ ?_)),⟨rfl,rfl,fun q _=>rfl⟩,fun h=>⟨by unfold I64;omega,⟨x.a1,{x.f1 with had:=true,old:=x.a.l.head,piece:=((sp+1:Nat):Int)},sn+1,sp+1⟩,⟨by show 1<=sp+1;omega,by show((sp+1:Nat):Int)<spn x.b.cls;have h:(sp:Int)+1≠spn x.b.cls:=h;omega,by show sn+1=3+(sp+1);omega,rfl,hz,rfl⟩,by show 101-(sn+1)<101-sn;omega,rfl,⟨rfl,fun q _=>rfl⟩,(by repeat' (first|exact rfl|exact hk.symm|exact hi.symm|exact hve.symm|exact hl.symm|exact hcl.symm|refine And.intro ?_ ?_)),rfl⟩,fun h=>⟨by unfold I64;omega,⟨x.a1,{x.f2 with piece:=(sp:Int)+1},sn+1,0⟩,⟨by show 1<=sn+1;omega,by show sn+1<=50;omega,by show sn+1=3+x.b.dJ;have h:(sp:Int)+1=spn x.b.cls:=h.1;have:=(kU x.b).2;omega,rfl,hz,_,rfl⟩,by show 101-(sn+1)<101-sn;omega,rfl,(by repeat' (first|exact rfl|exact hk.symm|exact hi.symm|exact hve.symm|exact hl.symm|exact hcl.symm|refine And.intro ?_ ?_)),rfl⟩,fun h=>absurd h.2 (show¬(0:Int)<= -1 by decide)⟩) fun h=>absurd (aS h) (by show¬ ¬(sn:Int)<=100;omega)
 ·rintro ⟨sa,sf,sn,sp⟩ ⟨s1,s2,s3,s4,hz,q,s5⟩
  have s1:1<=sn:=s1
  have s2:sn<=50:=s2
  have s3:sn=3+x.b.dJ:=s3
  have hs9:=(kU x.b).1
  have e4:sa=x.a1:=s4
  have e5:sf={x.f2 with piece:=q}:=s5
  clear s4 s5
  subst e4 e5
  refine bg (fun _=>⟨⟨x.a1,{x.f2 with piece:=q},x.t⟩,⟨g.pg.1,hv⟩,(by repeat' (first|exact rfl|refine And.intro ?_ ?_)),rfl,fun h=>⟨by unfold I64;omega,⟨x.a1,{x.f2 with cls:=0,ans:=⟨#[]⟩,code:=4,piece:=q},sn+1,0⟩,⟨by show 1<=sn+1;omega,by show sn+1<=50;omega,.inr (.inl ⟨hz,h,rfl,q,rfl⟩)⟩,by show 101-(sn+1)<101-sn;omega,rfl,(by repeat' (first|exact rfl|refine And.intro ?_ ?_)),rfl⟩,fun y hy=>⟨by unfold I64;omega,⟨x.a2 5 y.1 y.2 0,{x.f2 with line:=x.ln 5 y.1 y.2,cls:=0,piece:=0},sn+1,0⟩,⟨by show 1<=sn+1;omega,by show sn+1<=50;omega,by show sn+1=4+x.b.dJ;omega,hz,y.1,y.2,hy,rfl,rfl⟩,by show 101-(sn+1)<101-sn;omega,rfl,?_,?_⟩⟩) fun h=>absurd (aS h) (by show¬ ¬(sn:Int)<=100;omega)
  ·exact⟨rfl,rfl,rfl,rfl,rfl,rfl,rfl,rfl,rfl,ln5 g hy,rfl,rfl,rfl,rfl,rfl,rfl⟩
  ·rfl
 ·rintro ⟨sa,sf,sn,sp⟩ ⟨s1,s2,s3,hz,i,j,ht,s4,s5⟩
  have s1:1<=sn:=s1
  have s2:sn<=50:=s2
  have s3:sn=4+x.b.dJ:=s3
  have hs9:=(kU x.b).1
  have e4:sa=x.a2 5 i j 0:=s4
  have e5:sf={x.f2 with line:=x.ln 5 i j,cls:=0,piece:=0}:=s5
  clear s4 s5
  subst e4 e5
  have hd:=g.dst
  have hw:ou.w ⟨x.a2 5 i j 0,{x.f2 with line:=x.ln 5 i j,cls:=0,piece:=0},x.t,x.ln 5 i j,0,0⟩|>.ok:=⟨g.dok,show(0:Int)<=0 by decide,show(0:Int)<=3 by decide,by show((x.ln 5 i j:Nat):Int)+spn 0<=x.a.d.n;have:=au8 g ht;rw[show spn 0=1 from rfl];omega,show((0:Nat):Int)<spn 0 by decide,hv,g.dok.2.2.1,by show x.a.d.st+10<_;omega⟩
  refine bg (fun _=>⟨⟨x.a2 5 i j 0,{x.f2 with line:=x.ln 5 i j,cls:=0,piece:=0},x.t,x.ln 5 i j,0,0⟩,⟨hw,rfl⟩,(by repeat' (first|exact rfl|refine And.intro ?_ ?_)),rfl,fun h=>absurd rfl h,fun _=>⟨by unfold I64;omega,⟨x.a2 5 i j (x.sp 5),{x.f2 with line:=x.ln 5 i j,cls:=0,piece:=0},sn+1,0⟩,⟨by show 1<=sn+1;omega,by show sn+1<=50;omega,by show sn+1=5+x.b.dJ;omega,hz,i,j,ht,rfl,rfl⟩,by show 101-(sn+1)<101-sn;omega,rfl,(by repeat' (first|exact rfl|refine And.intro ?_ ?_)),rfl⟩⟩) fun h=>absurd (aS h) (by show¬ ¬(sn:Int)<=100;omega)
 ·rintro ⟨sa,sf,sn,sp⟩ ⟨s1,s2,s3,hz,i,j,ht,s4,s5⟩
  have s1:1<=sn:=s1
  have s2:sn<=50:=s2
  have s3:sn=5+x.b.dJ:=s3
  have hs9:=(kU x.b).1
  have e4:sa=x.a2 5 i j (x.sp 5):=s4
  have e5:sf={x.f2 with line:=x.ln 5 i j,cls:=0,piece:=0}:=s5
  clear s4 s5
  subst e4 e5
  refine bg (fun _=>⟨x.pb 5 i j x.f2,au9 g hv hz hH ht,(by repeat' (first|exact rfl|refine And.intro ?_ ?_)),rfl,by unfold I64;omega,⟨(x.pb 5 i j x.f2).chg.deq,{x.f2 with cls:=0,piece:=0,found:=true,aep:=x.a.c.now},sn+1,0⟩,⟨by show 1<=sn+1;omega,by show sn+1<=50;omega,.inr (.inr ⟨by show sn+1=6+x.b.dJ;omega,hz,i,j,ht,rfl,rfl⟩)⟩,by show 101-(sn+1)<101-sn;omega,rfl,(by repeat' (first|exact rfl|refine And.intro ?_ ?_)),rfl⟩) fun h=>absurd (aS h) (by show¬ ¬(sn:Int)<=100;omega)
 ·rintro ⟨sa,sf,sn,sp⟩ ⟨s1,s2,hh⟩
  have s1:1<=sn:=s1
  have s2:sn<=50:=s2
  have back:x.a1.sJ x.t 0=x.a:=Yz g.out _
  rcases hh with ⟨hz,s4,s5⟩|⟨hz,hf,s4,q,s5⟩|⟨s3,hz,i,j,ht,s4,s5⟩
  ·have e4:sa=x.a1:=s4
   have e5:sf=x.f1:=s5
   clear s4 s5
   subst e4 e5
   refine bg (fun _=>⟨⟨x.a1,x.f1,x.t⟩,⟨g.rok,g.tr⟩,(by repeat' (first|exact rfl|refine And.intro ?_ ?_)),rfl,.inl ⟨sn,hz,(by repeat' (first|exact rfl|refine And.intro ?_ ?_)),?_⟩⟩) fun h=>absurd (aS h) (by show¬ ¬(sn:Int)<=100;omega)
   show bK x.a.os=bK (x.a1.sJ x.t 0).os
   rw[back]
  ·have e4:sa=x.a1:=s4
   have e5:sf={x.f2 with cls:=0,ans:=⟨#[]⟩,code:=4,piece:=q}:=s5
   clear s4 s5
   subst e4 e5
   refine bg (fun _=>⟨⟨x.a1,{x.f2 with cls:=0,ans:=⟨#[]⟩,code:=4,piece:=q},x.t⟩,⟨g.rok,g.tr⟩,(by repeat' (first|exact rfl|refine And.intro ?_ ?_)),rfl,.inr (.inl ⟨sn,⟨hz,hf⟩,(by repeat' (first|exact rfl|refine And.intro ?_ ?_)),?_⟩)⟩) fun h=>absurd (aS h) (by show¬ ¬(sn:Int)<=100;omega)
   show bK x.a.os=bK (x.a1.sJ x.t 0).os
   rw[back]
  ·have e4:sa=(x.pb 5 i j x.f2).chg.deq:=s4
   have e5:sf={x.f2 with cls:=0,piece:=0,found:=true,aep:=x.a.c.now}:=s5
   clear s4 s5
   subst e4 e5
   refine bg (fun _=>⟨⟨(x.pb 5 i j x.f2).chg.deq,{x.f2 with cls:=0,piece:=0,found:=true,aep:=x.a.c.now},x.t⟩,⟨g.rok,g.tr⟩,(by repeat' (first|exact rfl|refine And.intro ?_ ?_)),rfl,.inr (.inr ⟨(i,j),⟨hz,ht⟩,⟨(by repeat' (first|exact rfl|refine And.intro ?_ ?_)),(by show((6+x.b.dJ:Nat):Int)=sn;have s3:sn=6+x.b.dJ:=s3;omega)⟩,rfl⟩)⟩) fun h=>absurd (aS h) (by show¬ ¬(sn:Int)<=100;omega)
theorem ava:bZ Tryz.prog 15 (runD fun x=>wU x.a x.t/\x.v.size<=400/\(x.a.l.n≠0->x.a.n≠0/\ ∃ln,O4 x.a x.b ln)):=gB dB mixed YA annD 200 6 (fun _=>rfl) (fun _=>⟨fun _=>rfl,fun _=>rfl,fun _=>rfl,trivial⟩) fun x hx=>Eq.mp (anQ x) (ace (aY.1 hx).1 (aY.1 hx).2.1 (aY.1 hx).2.2)
end
theorem asH{x:ZBy}(h:x.ok)(i:Nat)(hi:i<x.b.dJ)(q:Nat)(hq:q<64*(i+1)):x.b.enc q=bif Nat.blt q (64*i)then x.b.enc q else x.d.b ((x.ln+i)*193+(q-64*i)):=by
 by_cases hh:q<64*i
 ·rw[bW.2 hh];rfl
 ·rw[show Nat.blt q (64*i)=false by rw[cO];exact decide_eq_false hh,aP,<-h.2.2.2.2 q (by omega),show q/64=i by omega,show q%64=q-64*i by omega]
theorem TQ(x:ZBy)(hx:x.ok):TG x:=by
 obtain⟨o1,o2,o3,o4,o5⟩:=id hx
 have hs:=kU x.b
 have h1:=qA o2
 have hn:=o1.1
 unfold TG
 simp only[uK,BI,xW,TF,OU,EW,anz]
 simp only[aY,aU,aT,ay,aH,bP,bC,aN,aJ,au,aW,aV,bQ,bF,bG,bH,bT,bf,bJ,aZ,dZ,aG,aK,ah,aj,aA,aC,aB,aF]
 refine⟨bg (fun _=>⟨by unfold I64;omega,⟨x.d,x.ln⟩,⟨o1,by show x.ln<x.d.n;omega⟩,by show(x.ln:Int)=x.ln+0;omega,rfl,by decide,by decide,by unfold I64;omega,1,⟨aX 1,h1⟩,by omega,⟨rfl,rfl⟩,⟨rfl,fun q hq=> ?_⟩,rfl⟩) fun h=>absurd (aS h) (by omega),fun s hs'=>bg (fun h=> ?_) fun h=> ?_⟩
 ·show x.b.enc q=x.d.b (x.ln*193+q)
  have:=asH hx 0 (by omega) q (by omega)
  rwa [show Nat.blt q (64*0)=false by rw[cO];exact decide_eq_false (by omega),aP,aH,Nat.mul_zero,aK]at this
 ·have h:=aQ h
  refine⟨by unfold I64;omega,⟨x.d,x.ln+s⟩,⟨o1,by show x.ln+s<x.d.n;omega⟩,by show((x.ln+s:Nat):Int)=x.ln+s;omega,rfl,by decide,by omega,by unfold I64;omega,s+1,⟨by omega,by omega⟩,by omega,⟨by omega,by omega⟩,⟨by omega,fun q hq=>asH hx s (by omega) q hq⟩,rfl⟩
 ·have h:=aS h
  have:s=x.b.dJ:=by omega
  subst this
  first|rfl|exact⟨rfl,rfl⟩|trivial
theorem aq9:fJ Tryz.prog axf:= .cons GL (.cons (bU alC) .nil)
theorem anZ:bZ Tryz.prog 122 Yp:=dV dB mixed aq9 annB 200 6 (fun _=>rfl) (fun _=>rfl) fun x hx=>Eq.mp (ab4 x) (TQ x (aY.1 hx))
theorem TR(x:ZBy)(hx:x.ok):TJ x:=by
 obtain⟨o1,o2,o3,o4,o5⟩:=id hx
 have hde:(ZDe.mk x.b.cls x.b.id x.b.ver x.b.epoch x.b.value x.b.enc).b=x.b:=au2 (x:=⟨x.d,0,f0 ⟨#[]⟩ ⟨#[]⟩,x.b,x.ln,0⟩) o2 o3
 have hv:=re_b o2 o3
 unfold TJ
 simp only[EX,TF,xW,OU,EW,anz]
 simp only[aY,aU,aT,ay,aH,bP,bC,aN,aJ,au,aW,aV,bQ,bF,bG,bH,bT,bf,bJ,aZ,dZ,aG,aK,ah,aj,aA,aC,aB,aF]
 refine⟨x,hx,⟨rfl,rfl⟩,rfl,⟨x.b.cls,x.b.id,x.b.ver,x.b.epoch,x.b.value,x.b.enc⟩,⟨by rw[hde];exact o2,by show x.b.value.size<_;omega,fun k _=>by rw[hde]⟩,by rw[hde],⟨by rw[hde],fun q _=>rfl⟩,?_⟩
 rw[beq_self_eq_true,beq_self_eq_true,lJ,lJ]
 first|rfl|exact⟨rfl,rfl⟩
theorem ara:fJ Tryz.prog axg:= .cons (bU anZ) (.cons (bU am1) .nil)
theorem an0:bZ Tryz.prog 69 Yq:=dV dB mixed ara noA 200 6 (fun _=>rfl) (fun _=>rfl) fun x hx=>Eq.mp (ab5 x) (TR x (aY.1 hx))
theorem TS(x:ZSh)(hx:x.l.ok/\x.l.n<1099511627776/\qok x.d x.l x.b):TK x:=by
 obtain⟨o1,o2,o3⟩:=hx
 unfold TK
 simp only[EU,anD,anC,anB,aq7,EX,uK,EW,xW,ab3,anz,TF,OU,anA,BI]
 simp only[aY,aU,aT,ay,aH,bP,bC,aN,aJ,au,aW,aV,bQ,bF,bG,bH,bT,bf,bJ,aZ,dZ,aG,aK,ah,aj,aA,aC,aB,aF]
 refine⟨x.l,o1,rfl,fun h0=>⟨.inl ⟨h0,rfl⟩,fun s hs=>by omega⟩,fun h0=>⟨bg (fun h=> ?_) fun h=>absurd (aS h) (by omega),fun s hs=>bg (fun h=> ?_) fun h=> ?_⟩⟩
 ·obtain⟨ln,hl,hb⟩:=o3 0 (by omega)
  refine⟨⟨by decide,by omega⟩,by omega,⟨x.d,x.b 0,ln⟩,hb,?_,rfl,by decide,by unfold I64;omega,1,⟨aX 1,by omega⟩,by omega,rfl,⟨rfl,fun q hq=>by obtain rfl:q=0:=(by omega);rfl⟩,rfl,rfl⟩
  rw[hl];exact⟨rfl,rfl,rfl,rfl,rfl⟩
 ·have h:=aQ h
  obtain⟨ln,hl,hb⟩:=o3 s (by omega)
  refine⟨⟨by omega,by omega⟩,by omega,⟨x.d,x.b s,ln⟩,hb,?_,rfl,by rfl,by omega,by unfold I64;omega,s+1,⟨by omega,by omega⟩,by omega,by omega,⟨rfl,fun q hq=> ?_⟩,by omega,rfl⟩
  ·rw[hl];exact⟨rfl,rfl,rfl,rfl,rfl⟩
  ·by_cases e:q=s
   ·subst e;show _=bif Nat.beq q q then _ else _;rw[Nat.beq_refl];rfl
   ·show _=bif Nat.beq q s then _ else _;rw[dQ,decide_eq_false e];rfl
 ·have h:=aS h
  have:s=x.l.n:=by omega
  exact .inr ⟨h0,this.symm,rfl,this.symm⟩
theorem arb:fJ Tryz.prog axh:= .cons (bU amh) (.cons (bU NI) (.cons (bU an0) .nil))
theorem YB:bZ Tryz.prog 30 OT:=gB dB mixed arb annS 200 6 (fun _=>rfl) (fun _=>⟨fun _=>rfl,fun _=>rfl,trivial⟩) fun x hx=>Eq.mp (ab6 x) (TS x (aY.1 hx))
theorem mod2{a n:Nat}(h:a<2*n):a%n=if a<n then a else a-n:=by
 split
 ·exact Nat.mod_eq_of_lt ‹_›
 ·rw[Nat.mod_eq_sub_mod (by omega),Nat.mod_eq_of_lt (by omega)]
theorem TU{l:ZLn}(h:l.ok)(x:dM){i:Nat}(hi:i<=l.n):(l.push x).get i=if i=l.n then x else l.get i:=by
 obtain⟨h1,h2,h3,h4,h5⟩:=h
 unfold ZLn.push
 by_cases hn:l.n=l.len
 ·rw[if_pos hn]
  show(fun i=>if i<l.n then l.get i else if i=l.n then x else qO) ((0+i)%(l.n+1))=_
  rw[ay,Nat.mod_eq_of_lt (by omega)]
  by_cases e:i=l.n
  ·subst e;simp
  ·rw[if_neg e];exact if_pos (by omega)
 ·rw[if_neg hn]
  have:=h5 (by omega)
  show(fun j=>if j=(l.at_+l.n)%l.len then x else l.e j) ((l.at_+i)%l.len)=_
  by_cases e:i=l.n
  ·subst e;simp
  ·rw[if_neg e]
   refine(if_neg ?_).trans rfl
   rw[mod2 (a:=l.at_+i) (by omega),mod2 (a:=l.at_+l.n) (by omega)]
   split<;>split<;>omega
theorem YC(l:ZLn)(x:dM):(l.push x).n=l.n+1:=by unfold ZLn.push;split<;>rfl
theorem avb{l:ZLn}(h:l.ok)(x:dM){N:Nat}(hc:l.cap<=2*N+1)(hn:l.n<=N)(hN:N<=1000):(l.push x).ok/\(l.push x).cap<=2*(N+1)+1:=by
 obtain⟨h1,h2,h3,h4,h5⟩:=h
 unfold ZLn.push ZLn.ok
 split
 ·exact⟨⟨by show 2*l.n+1<_;omega,by show l.n+1<=2*l.n+1;omega,aX _,fun _=>rfl,fun _=>Nat.succ_pos _⟩,by show 2*l.n+1<=_;omega⟩
 ·exact⟨⟨by show l.cap<_;omega,h2,by show l.n+1<=l.len;omega,h4,h5⟩,by show l.cap<=_;omega⟩
theorem acf{l:ZLn}(h:l.ok)(hz:l.n≠0){i:Nat}(hi:i+1<l.n):l.pop.get i=l.get (i+1):=by
 obtain⟨h1,h2,h3,h4,h5⟩:=h
 have:=h5 (by omega)
 unfold ZLn.pop
 rw[if_neg hz]
 show(fun j=>if j=l.at_ then qO else l.e j) (((l.at_+1)%l.len+i)%l.len)=l.e ((l.at_+(i+1))%l.len)
 have e:((l.at_+1)%l.len+i)%l.len=(l.at_+(i+1))%l.len:=by rw[Nat.mod_add_mod];congr 1;omega
 rw[e]
 refine if_neg ?_
 rw[mod2 (by omega)]
 split<;>omega
theorem axk{l:ZLn}(hz:l.n≠0):l.pop.n=l.n-1:=by unfold ZLn.pop;rw[if_neg hz]
theorem axl{l:ZLn}(h:l.ok)(hz:l.n≠0):l.pop.ok/\l.pop.cap=l.cap:=by
 obtain⟨h1,h2,h3,h4,h5⟩:=h
 unfold ZLn.pop
 rw[if_neg hz]
 exact⟨⟨h1,h2,by show l.n-1<=l.len;omega,fun e=>absurd e (by show¬l.len=0;omega),fun _=>Nat.mod_lt _ (by show 0<l.len;omega)⟩,rfl⟩
theorem TV{l:ZLn}(hz:l.n≠0):l.head=l.get 0:=if_neg hz
structure Good (a:dF) (t N:Nat) (b:Nat->dN):Prop where
 dok:a.d.ok
 dst:a.d.st<=20*N+20
 rok:a.r.ok
 cok:a.c.ok
 tc:t<a.c.t
 tr:t<a.r.t
 out:a.r.has t=0
 pg:a.p.good
 fit:2+a.p.n*8<=a.d.n
 bok:a.b.ok
 lok:a.l.ok
 ao5:a.l.cap<=2*N+1
 ln:a.l.n<=N
 id0:0<=a.id
 id1:a.id<=N
 v0:0<=a.ver
 v1:a.ver<=N
 nn:a.n<=N
 now:a.c.now=1
 owed: ∀k,a.c.o k<=8*N
 used: ∀L:Int,2<=L->(rC.inL ⟨a.b,a.l,L⟩\/rC.inB ⟨a.b,a.l,L⟩)->a.p.has L
 nz:a.l.n≠0->a.n≠0
 q: ∀i,i<a.l.n-> ∃ln:Nat,a.l.get i=⟨⟨#[]⟩,(b i).id,(b i).ver,ln,(b i).cls⟩/\ZBy.ok ⟨a.d,b i,ln⟩/\ ∃i' j',a.p.at_ ln i' j'/\a.p.cls i'=(b i).cls
section
variable{a:dF}{t N:Nat}{b:Nat->dN}
theorem Good.A(g:Good a t N b)(hN:N<=1000):wU a t where
 dok:=g.dok
 dst:=by have:=g.dst;omega
 rok:=g.rok
 cok:=g.cok
 tc:=g.tc
 tr:=g.tr
 out:=g.out
 pg:=g.pg
 fit:=g.fit
 bok:=g.bok
 lok:=g.lok
 ln:=by have:=g.ln;omega
 id0:=g.id0
 id1:=by have:=g.id1;omega
 v0:=g.v0
 v1:=by have:=g.v1;omega
 nn:=by have:=g.nn;omega
 anT:=by rw[g.now];decide
 aiZ:=by rw[g.now];decide
 owed:=fun k=>by have:=g.owed k;omega
 used:=g.used
theorem Good.head(g:Good a t N b)(hz:a.l.n≠0):a.n≠0/\ ∃ln,O4 a (b 0) ln:=by
 obtain⟨ln,h1,h2,h3⟩:=g.q 0 (by omega)
 exact⟨g.nz hz,ln,h2.2.1,h2.2.2.1,by rw[TV hz];exact h1,h3,h2.2.2.2.2⟩
theorem dW_b{x:jr}(k:Int)(i j:Nat): ∀p,∀m r:Nat,r<64->(x.dW k i j p).b (m*193+r)=
  if x.ln k i j<=m/\m<x.ln k i j+p then(if m=x.ln k i j then(dN.mk (x.c k) 0 0 0 0 ⟨#[]⟩ ⟨#[]⟩).kT (fun _=>0) (cpc (x.c k)).toNat r else(dN.mk (x.c k) 2 0 0 0 ⟨#[]⟩ x.v).enc (64*(m-x.ln k i j)+r))else x.a.d.b (m*193+r)
 |0,m,r,_=>by rw[if_neg (by omega)];rfl
 |p+1,m,r,hr=>by
  have ih:=dW_b (x:=x) k i j p m r hr
  show(ZWr.d' ⟨x.dW k i j p,x.t,x.f1,x.ln k i j,x.c k,p⟩).b (m*193+r)=_
  unfold ZWr.d'
  by_cases e:p=0
  ·subst e
   rw[if_pos rfl]
   show(if x.ln k i j*193+0<=m*193+r/\m*193+r<x.ln k i j*193+0+64 then(dN.mk (x.c k) 0 0 0 0 ⟨#[]⟩ ⟨#[]⟩).kT (fun _=>0) (cpc (x.c k)).toNat (m*193+r-(x.ln k i j*193+0))else(x.dW k i j 0).b (m*193+r))=_
   by_cases h:m=x.ln k i j
   ·rw[if_pos (by omega),if_pos (by omega),if_pos h,show m*193+r-(x.ln k i j*193+0)=r by omega]
   ·rw[if_neg (by omega),if_neg (by omega),ih,if_neg (by omega)]
  ·rw[if_neg e]
   show(if (x.ln k i j+p)*193+0<=m*193+r/\m*193+r<(x.ln k i j+p)*193+0+64 then(dN.mk (x.c k) 2 0 0 0 ⟨#[]⟩ x.v).enc (64*p+(m*193+r-((x.ln k i j+p)*193+0)))else(x.dW k i j p).b (m*193+r))=_
   by_cases h:m=x.ln k i j+p
   ·rw[if_pos (by omega),if_pos (by omega),if_neg (by omega),show 64*p+(m*193+r-((x.ln k i j+p)*193+0))=64*(m-x.ln k i j)+r by omega]
   ·rw[if_neg (by omega),ih]
    by_cases h2:x.ln k i j<=m/\m<x.ln k i j+p
    ·rw[if_pos h2,if_pos (show x.ln k i j<=m/\m<x.ln k i j+(p+1) by omega)]
    ·rw[if_neg h2,if_neg (by omega)]
theorem an1{x y:dN}(hk:x.key=y.key)(hv:x.value=y.value){m:Nat}(hm:64<=m):x.enc m=y.enc m:=by
 unfold dN.enc
 rw[if_neg (show¬m<64 by omega),if_neg (show¬m<64 by omega)]
 unfold dN.dat
 rw[hk,hv]
theorem zo(d:dS)(k:Nat)(g:Nat->Int)(m r:Nat)(hr:r<64):(d.store k 0 64 g).b (m*193+r)=if m=k then g r else d.b (m*193+r):=by
 show(if k*193+0<=m*193+r/\m*193+r<k*193+0+64 then g (m*193+r-(k*193+0))else d.b (m*193+r))=_
 by_cases h:m=k
 ·subst h;rw[if_pos (by omega),if_pos rfl,show m*193+r-(m*193+0)=r by omega]
 ·rw[if_neg (by omega),if_neg h]
theorem an2{d d':dS}{c:dN}{ln L n:Nat}(h:lies d c ln)(hd: ∀m r:Nat,r<64-> ¬(L<=m/\m<L+n)->d'.b (m*193+r)=d.b (m*193+r))(ha:ln+c.dJ<=L\/L+n<=ln):lies d' c ln:=fun q hq=>by
 rw[hd _ _ (by omega) (by omega)];exact h q hq
theorem TW{p p':dI}(h: ∀L i j,p.at_ L i j->p'.at_ L i j/\p'.cls i=p.cls i){L:Int}(hp:p.has L):p'.has L:=by
 obtain⟨i,j,h1⟩:=hp
 exact⟨i,j,(h _ _ _ h1).1⟩
theorem avc{b:iV}{e:iF}{l:ZLn}{L:Int}(h:rC.inB ⟨b.put e,l,L⟩):rC.inB ⟨b,l,L⟩\/e.line=L\/e.anti=L:=by
 obtain⟨i,hi,hh⟩:=h
 unfold iV.put at hi hh
 by_cases hn:b.n<258
 ·simp only[if_pos hn]at hi hh
  by_cases e:i=b.n
  ·simp only[if_pos e]at hh;exact .inr hh
  ·simp only[if_neg e]at hh;exact .inl ⟨i,by show i<b.n;omega,hh⟩
 ·simp only[if_neg hn]at hi hh;exact .inl ⟨i,hi,hh⟩
theorem axn{b:iV}(h:b.ok)(e:iF):(b.put e).ok:=by
 unfold iV.put
 split
 ·exact⟨by show b.n+1<=258;omega,fun h=>nomatch h⟩
 ·exact h
theorem take_at{p:dI}(hp:p.good){c:Int}{i k:Nat}(h:p.takes c i k): ∀L i' j',p.at_ L i' j'->(p.take c i k).at_ L i' j'/\(p.take c i k).cls i'=p.cls i':=fun _ _ _ hL=>au4 hp h hL
def pushB(b:Nat->dN)(n:Nat)(c:dN):Nat->dN:=fun i=>if i=n then c else b i
theorem afH(g:Good a t N b)(hN:N<=900)(key v:ByteArray)(bb:dN)(hv:v.size<=400){i j:Nat}(h:a.p.takes (ned v.size) i j):Good (jr.aE ⟨a,t,key,v,bb⟩ i j) t (N+1) (pushB b a.l.n ⟨ned v.size,2,a.id+1,a.ver+1,1,⟨#[]⟩,v⟩):=by
 have hA:=g.A (by omega)
 let x:jr:=⟨a,t,key,v,bb⟩
 have hc4:x.c 4=ned v.size:=if_pos rfl
 have ht:x.a.p.takes (x.c 4) i j:=by rw[hc4];exact h
 have hcc:=au5 (x:=x) hv
 have hs:=dX (x.c 4)
 obtain⟨p1,p2,p3⟩:=anW (x:=x) hA hv ht
 obtain⟨l1,l2⟩:=kZ hA.pg hcc ht
 have hsp:x.sp 4=(spn (x.c 4)).toNat:=rfl
 obtain⟨d1,d2,d3⟩:=anU (x:=x) hA hv 4 hcc i j (x.sp 4) (by rw[hsp];omega)
 have hb:=dW_b (x:=x) 4 i j (x.sp 4)
 have hbm:=anV (x:=x) hA hv i j
 obtain⟨n1,n2⟩:=at_new hA.pg hcc.1 ht
 have hdst:=g.dst
 have aix:a.c.now=1:=g.now
 let B:dN:=⟨ned v.size,2,a.id+1,a.ver+1,1,⟨#[]⟩,v⟩
 have hB:(x.pb 4 i j x.f1).chg.blk=B:=by
  show dN.mk (x.c 4) 2 (a.id+1) (a.ver+1) a.c.now ⟨#[]⟩ v=B
  rw[hc4,aix]
 have hBs:B.dJ=x.sp 4:=by show(spn (ned v.size)).toNat=_;rw[hsp,hc4]
 have eln:x.ln 4 i j=2+i*8+j*(spn (x.c 4)).toNat:=rfl
 let D:dS:=(x.dW 4 i j (x.sp 4)).store (x.ln 4 i j) 0 64 B.enc
 have hD:(jr.aE x i j).d=D:=by
  show(x.dW 4 i j (x.sp 4)).store (x.ln 4 i j) 0 64 (x.pb 4 i j x.f1).chg.blk.enc=D
  rw[hB]
 have hDb: ∀m r:Nat,r<64-> ¬(x.ln 4 i j<=m/\m<x.ln 4 i j+x.sp 4)->D.b (m*193+r)=a.d.b (m*193+r):=fun m r hr hm=>by
  show((x.dW 4 i j (x.sp 4)).store (x.ln 4 i j) 0 64 B.enc).b (m*193+r)=_
  rw[zo _ _ _ _ _ hr,if_neg (by rw[hsp]at hm;omega),hb m r hr,if_neg hm]
 have hDn:D.n=a.d.n:=d2
 have axo:D.ok:=dS.kY d1 _ _ _ (vI (hB▸hbm)) (by rw[d3,hsp];show a.d.st+_+1<_;omega)
 have hnew:ZBy.ok ⟨D,B,x.ln 4 i j⟩:=by
  refine⟨axo,hB▸hbm,rfl,?_,fun q hq=> ?_⟩
  ·show((x.ln 4 i j:Nat):Int)+spn (ned v.size)<=D.n
   rw[hDn,<-hc4];have:=g.fit;have:x.a.p.n=a.p.n:=rfl;omega
  ·show((x.dW 4 i j (x.sp 4)).store (x.ln 4 i j) 0 64 B.enc).b ((x.ln 4 i j+q/64)*193+q%64)=B.enc q
   have hq:q<64*B.dJ:=hq
   rw[hBs]at hq
   rw[zo _ _ _ _ _ (by omega)]
   by_cases e:q/64=0
   ·rw[if_pos (by omega),show q%64=q by omega]
   ·rw[if_neg (by omega),hb _ _ (by omega),if_pos (show x.ln 4 i j<=x.ln 4 i j+q/64/\x.ln 4 i j+q/64<x.ln 4 i j+x.sp 4 by omega),if_neg (show¬x.ln 4 i j+q/64=x.ln 4 i j by omega),show 64*(x.ln 4 i j+q/64-x.ln 4 i j)+q%64=q by omega]
    exact an1 (x:=⟨x.c 4,2,0,0,0,⟨#[]⟩,x.v⟩) (y:=B) rfl rfl (by omega)
 have hpo:=avb g.lok ⟨⟨#[]⟩,a.id+1,a.ver+1,(x.ln 4 i j:Nat),x.c 4⟩ g.ao5 g.ln (by omega)
 have hln:(jr.aE x i j).l=a.l.push ⟨⟨#[]⟩,a.id+1,a.ver+1,(x.ln 4 i j:Nat),x.c 4⟩:=rfl
 have hno:=Q9 a.c t (x.ln 4 i j:Nat) (fun k=>(g.cok.2.2.2.2.2 k).1)
 have hs8:=(kU B).1
 have hP:(jr.aE x i j).p=a.p.take (x.c 4) i j:=rfl
 have axp:(jr.aE x i j).c=a.c.notes t (x.ln 4 i j:Nat) (x.pb 4 i j x.f1).chg.blk.dJ:=rfl
 rw[hB]at axp
 have hgood:(a.p.take (x.c 4) i j).good:=BK hA.pg hcc ht
 refine{dok:=by rw[hD];exact axo,dst:= ?_,rok:=g.rok,cok:= ?_,tc:= ?_,tr:=g.tr,out:= ?_,pg:=hgood,fit:=by rw[hD,hDn];exact g.fit,bok:=g.bok,lok:=hpo.1,ao5:=hpo.2,ln:= ?_,id0:= ?_,id1:= ?_,v0:= ?_,v1:= ?_,nn:= ?_,now:= ?_,owed:=fun k=> ?_,used:=fun L hL hu=> ?_,nz:=fun _=>Nat.succ_ne_zero _,q:=fun m hm=> ?_}
 ·rw[hD];show(x.dW 4 i j (x.sp 4)).st+1<=_;rw[d3,hsp];show a.d.st+_+1<=_;omega
 ·rw[axp];exact xO g.cok (fun k=>by have:=g.owed k;omega) _ _ hs8
 ·rw[axp,qL];exact g.tc
 ·exact if_pos rfl
 ·rw[hln,YC];have:=g.ln;omega
 ·show 0<=a.id+1;have:=g.id0;omega
 ·show a.id+1<=_;have:=g.id1;omega
 ·show 0<=a.ver+1;have:=g.v0;omega
 ·show a.ver+1<=_;have:=g.v1;omega
 ·show a.n+1<=N+1;have:=g.nn;omega
 ·rw[axp,rE];exact g.now
 ·rw[axp];have:=(hno B.dJ k).2;have:=g.owed k;omega
 ·rcases hu with ⟨m,hm,hh⟩|hu
  ·have hm:m<a.l.n+1:=by rw[<-YC a.l ⟨⟨#[]⟩,a.id+1,a.ver+1,(x.ln 4 i j:Nat),x.c 4⟩];exact hm
   have hh:((a.l.push ⟨⟨#[]⟩,a.id+1,a.ver+1,(x.ln 4 i j:Nat),x.c 4⟩).get m).line=L:=hh
   rw[TU g.lok _ (by omega)]at hh
   by_cases e:m=a.l.n
   ·rw[if_pos e]at hh
    have hh:((x.ln 4 i j:Nat):Int)=L:=hh
    exact⟨i,j,by rw[<-hh,eln];rw[l1];exact n1⟩
   ·rw[if_neg e]at hh
    exact TW (take_at hA.pg ht) (g.used L hL (.inl ⟨m,by show m<a.l.n;omega,hh⟩))
  ·exact TW (take_at hA.pg ht) (g.used L hL (.inr hu))
 ·have hm:m<a.l.n+1:=by rw[<-YC a.l ⟨⟨#[]⟩,a.id+1,a.ver+1,(x.ln 4 i j:Nat),x.c 4⟩];exact hm
  rw[hln,TU g.lok _ (by omega),hD]
  unfold pushB
  by_cases e:m=a.l.n
  ·rw[if_pos e,if_pos e]
   exact⟨x.ln 4 i j,by rw[hc4],hnew,i,j,by rw[eln,l1];exact n1,n2.trans hc4⟩
  ·rw[if_neg e,if_neg e]
   obtain⟨ln,q1,⟨q2,q3,q4,q5,q6⟩,i',j',q7,q8⟩:=g.q m (by omega)
   have hap:=afG hA.pg hcc ht q7
   obtain⟨q9,q10⟩:=take_at hA.pg ht _ _ _ q7
   have hsb:=kU (b m)
   have e1:((x.ln 4 i j:Nat):Int)=2+i*8+j*spn (x.c 4):=by rw[eln];exact l1
   rw[q8,<-e1]at hap
   have hsq:(x.sp 4:Int)=spn (x.c 4):=by rw[hsp];omega
   exact⟨ln,q1,⟨axo,q3,q4,by show(ln:Int)+spn (b m).cls<=D.n;rw[hDn];exact q5,an2 (c:=b m) (ln:=ln) (L:=x.ln 4 i j) (n:=x.sp 4) q6 hDb (by omega)⟩,i',j',q9,q10.trans q8⟩
theorem afI{n t T m:Nat}{d:dS}(hd:d.ok)(hn:d.n=n)(hs:d.st=2)(hm:n=10+8*m)(hm2:m<=31)(hT:1<=T/\T<=4)(ht:t<T)(b:Nat->dN):Good (ru n T d) t 0 b where
 dok:=hd
 dst:=by show d.st<=_;rw[hs];decide
 rok:=⟨hT.1,hT.2,show(1:Int)<=1 by decide,show(1:Int)<4611686018427387904 by decide⟩
 cok:=⟨hT.1,hT.2,⟨show(0:Int)<=0+1 by decide,show(0:Int)+1<4611686018427387904 by decide⟩,⟨Int.le_refl 0,show(0:Int)<4611686018427387904 by decide⟩,⟨Int.le_refl 0,show(0:Int)<4611686018427387904 by decide⟩,fun _=>⟨Int.le_refl 0,show(0:Int)<1099511627776 by decide⟩⟩
 tc:=ht
 tr:=ht
 out:=rfl
 pg:=by
  refine⟨⟨by show 1<=(n-2)/8;omega,by show(n-2)/8<=32;omega,fun i hi=> ?_⟩,fun i hi=> ?_⟩
  ·have hi:i<(n-2)/8:=hi
   show-1<=(if i<(n-2)/8 then(-1:Int)else 0)/\(if i<(n-2)/8 then(-1:Int)else 0)<=3/\(0:Int)<=0/\(0:Int)<=8
   rw[if_pos hi];decide
  ·exact⟨fun _ _=>rfl,fun k hk=>(nomatch hk),(congrArg Int.ofNat (Yy (fun _=>rfl) 8)).symm⟩
 fit:=by show 2+(n-2)/8*8<=d.n;omega
 bok:=⟨Nat.zero_le _,fun _=>rfl⟩
 lok:=⟨show 0<1099511627776 by decide,aX 0,aX 0,fun _=>rfl,fun h=>absurd rfl h⟩
 ao5:=Nat.zero_le _
 ln:=aX 0
 id0:=Int.le_refl 0
 id1:=Int.le_refl 0
 v0:=Int.le_refl 0
 v1:=Int.le_refl 0
 nn:=aX 0
 now:=rfl
 owed:=fun _=>Int.le_refl 0
 used:=fun L _ hu=>by
  rcases hu with ⟨i,hi,_⟩|⟨i,hi,_⟩<;>exact absurd hi (Nat.not_lt_zero _)
 nz:=fun h=>absurd rfl h
 q:=fun i hi=>absurd hi (Nat.not_lt_zero _)
end
theorem TY{p:dI}(hp:p.good){L:Int}{i j:Nat}(h:p.at_ L i j):2<=L/\L+spn (p.cls i)<=2+p.n*8/\0<=p.cls i/\p.cls i<=3:=by
 obtain⟨h1,h2,h3,h4,h5⟩:=h
 have h6:=(hp.1.2.2 i h1).2.1
 refine⟨?_,?_,h2,h6⟩
 all_goals (rcases iy (p.cls i)with m|m|m|m|m<;>obtain⟨m1,m2,m3⟩:=m<;>rw[m2]at h5<;>(try rw[m2])<;>omega)
theorem YD{p:dI}(hp:p.good){L L':Int}{i j i' j':Nat}(h:p.at_ L i j)(h':p.at_ L' i' j')(hne:L≠L'):L+spn (p.cls i)<=L'\/L'+spn (p.cls i')<=L:=by
 obtain⟨a1,a2,a3,a4,a5⟩:=h
 obtain⟨b1,b2,b3,b4,b5⟩:=h'
 have a6:=(hp.1.2.2 i a1).2.1
 have b6:=(hp.1.2.2 i' b1).2.1
 by_cases e:i=i'
 ·subst e
  have hj:j≠j':=fun e=>by subst e;exact hne (a5.trans b5.symm)
  rcases iy (p.cls i)with m|m|m|m|m<;>obtain⟨m1,m2,m3⟩:=m<;>rw[m2]at a5 b5 ⊢<;>omega
 ·rcases iy (p.cls i)with m|m|m|m|m<;>rcases iy (p.cls i')with m'|m'|m'|m'|m'<;>obtain⟨m1,m2,m3⟩:=m<;>obtain⟨m1',m2',m3'⟩:=m'<;>rw[m2]at a5<;>rw[m2']at b5<;>rw[m2,m2']<;>omega
structure Base (a:dF) (T M:Nat) (b:Nat->dN):Prop where
 dok:a.d.ok
 dst:a.d.st<=M
 dfl:a.d.fl<=M
 dfe:a.d.fe<=M
 rok:a.r.ok
 rt:a.r.t=T
 cok:a.c.ok
 ct:a.c.t=T
 jU:a.c.jU=0
 pg:a.p.good
 fit:2+a.p.n*8<=a.d.n
 bok:a.b.ok
 lok:a.l.ok
 ao5:a.l.cap<=2*M+1
 ln:a.l.n<=M
 id0:0<=a.id
 id1:a.id<=M
 v0:0<=a.ver
 v1:a.ver<=M
 nn:a.n<=M
 anT:1<=a.c.now
 aiZ:a.c.now<=M
 owed: ∀k,a.c.o k<=M
 nz:a.l.n≠0->a.n≠0
 used: ∀L:Int,2<=L->(rC.inL ⟨a.b,a.l,L⟩\/rC.inB ⟨a.b,a.l,L⟩)->a.p.has L
 q: ∀i,i<a.l.n-> ∃ln:Nat,a.l.get i=⟨⟨#[]⟩,(b i).id,(b i).ver,ln,(b i).cls⟩/\ZBy.ok ⟨a.d,b i,ln⟩/\ ∃i' j',a.p.at_ ln i' j'/\a.p.cls i'=(b i).cls
def Hold(a:dF)(ln:Nat)(c:Int):Prop:=(∃i j,a.p.at_ ln i j/\a.p.cls i=c)/\(¬rC.inL ⟨a.b,a.l,ln⟩)/\ ¬rC.inB ⟨a.b,a.l,ln⟩
def dat(d:dS)(ln:Nat)(v:ByteArray)(n:Nat):Prop:= ∀m r:Nat,1<=m->m<n->r<64->d.b ((ln+m)*193+r)=(dN.mk 0 2 0 0 0 ⟨#[]⟩ v).enc (64*m+r)
section
variable{a:dF}{T M:Nat}{b:Nat->dN}
theorem Base.up(g:Base a T M b){M':Nat}(h:M<=M'):Base a T M' b:=
 {g with dst:=by have:=g.dst;omega,dfl:=by have:=g.dfl;omega,dfe:=by have:=g.dfe;omega,ao5:=by have:=g.ao5;omega,ln:=by have:=g.ln;omega,id1:=by have:=g.id1;omega,v1:=by have:=g.v1;omega,nn:=by have:=g.nn;omega,aiZ:=by have:=g.aiZ;omega,owed:=fun k=>by have:=g.owed k;omega}
theorem Hold.fits{L:Nat}{c:Int}(h:Hold a L c)(g:Base a T M b):2<=L/\(L:Int)+spn c<=a.d.n/\0<=c/\c<=3/\L<258/\a.d.n<=258:=by
 obtain⟨⟨i,j,h1,rfl⟩,_⟩:=h
 obtain⟨f1,f2,f3,f4⟩:=TY g.pg h1
 have:=g.fit
 have:=g.dok.1
 have s:=dX (a.p.cls i)
 refine⟨by omega,by omega,f3,f4,by omega,this⟩
theorem Hold.apart{L:Nat}{c:Int}(h:Hold a L c)(g:Base a T M b){m:Nat}(hm:m<a.l.n){ln:Nat}(hl:(a.l.get m).line=ln):ln+(b m).dJ<=L\/L+(spn c).toNat<=ln:=by
 obtain⟨⟨i,j,h1,rfl⟩,h2,_⟩:=h
 obtain⟨ln',q1,_,i',j',q2,q3⟩:=g.q m hm
 have e:(ln':Int)=ln:=by rw[<-hl,q1]
 have e:ln'=ln:=by omega
 subst e
 have hne:(ln':Int)≠L:=fun e=>h2 ⟨m,hm,by show(a.l.get m).line=(L:Int);rw[hl,e]⟩
 have:=YD g.pg q2 h1 hne
 rw[q3]at this
 have s:=kU (b m)
 have s2:=dX (a.p.cls i)
 omega
theorem Base.dev(g:Base a T M b){d':dS}{M':Nat}(hM:M<=M')(h1:d'.ok)(h2:d'.n=a.d.n)(h3:d'.st<=M')(h4:d'.fl<=M')(h5:d'.fe<=M'){L n:Nat}(hb: ∀m r:Nat,2<=m->r<64-> ¬(L<=m/\m<L+n)->d'.b (m*193+r)=a.d.b (m*193+r))
  (hs: ∀m,m<a.l.n-> ∀ln:Nat,(a.l.get m).line=ln->ln+(b m).dJ<=L\/L+n<=ln):Base (a.Ry d') T M' b:=by
 have g':=g.up hM
 refine{g' with dok:=h1,dst:=h3,dfl:=h4,dfe:=h5,fit:=by show 2+a.p.n*8<=d'.n;rw[h2];exact g.fit,q:=fun i hi=> ?_}
 have hi:i<a.l.n:=hi
 obtain⟨ln,q1,⟨q2,q3,q4,q5,q6⟩,i',j',q7,q8⟩:=g.q i hi
 have hf:=TY g.pg q7
 have hh:=hs i hi ln (by rw[q1])
 refine⟨ln,q1,⟨h1,q3,q4,by show(ln:Int)+spn (b i).cls<=d'.n;rw[h2];exact q5,fun q hq=> ?_⟩,i',j',q7,q8⟩
 have hq:q<64*(b i).dJ:=hq
 show d'.b ((ln+q/64)*193+q%64)=(b i).enc q
 rw[hb _ _ (by omega) (by omega) (by omega)]
 exact q6 q hq
theorem Base.write(g:Base a T M b)(hM:M<=1000000){L:Nat}{c:Int}(h:Hold a L c){t:Nat}{f:ZFr}(hv:f.value.size<=400){p:Nat}(hp:(p:Int)<spn c):
  (ZWr.mk a.d t f L c p).ok/\Base (a.Ry (ZWr.mk a.d t f L c p).d') T (M+20) b/\(dat a.d L f.value p->dat (ZWr.mk a.d t f L c p).d' L f.value (p+1))/\ ∀m r:Nat,r<64-> ¬(L<=m/\m<L+(spn c).toNat)->(ZWr.mk a.d t f L c p).d'.b (m*193+r)=a.d.b (m*193+r):=by
 obtain⟨f1,f2,f3,f4,f5,f6⟩:=h.fits g
 have hs:=dX c
 have d1:=g.dst
 have d2:=g.dfl
 have d3:=g.dfe
 have hd:=g.dok
 have w:(ZWr.mk a.d t f L c p).ok:=⟨hd,f3,f4,f2,hp,hv,hd.2.2.1,by show a.d.st+10<_;omega⟩
 have key: ∃g0:Nat->Int,(∀q,0<=g0 q/\g0 q<256)/\(ZWr.mk a.d t f L c p).d'=a.d.store (L+p) 0 64 g0/\(1<=p-> ∀r,g0 r=(dN.mk c 2 0 0 0 ⟨#[]⟩ f.value).enc (64*p+r)):=by
  unfold ZWr.d'
  by_cases e:p=0
  ·subst e
   rw[if_pos rfl]
   exact⟨_,GR ⟨f3,f4⟩,rfl,fun h=>absurd h (by decide)⟩
  ·rw[if_neg e]
   exact⟨_,fun q=>ae0 _ (by show 64<=64*p+q;omega),rfl,fun _ r=>rfl⟩
 obtain⟨g0,k1,k2,k3⟩:=key
 have hb: ∀m r:Nat,r<64-> ¬(L<=m/\m<L+(spn c).toNat)->(a.d.store (L+p) 0 64 g0).b (m*193+r)=a.d.b (m*193+r):=fun m r hr hm=>by
  rw[zo _ _ _ _ _ hr,if_neg (by omega)]
 rw[k2]
 refine⟨w,g.dev (by omega) (dS.kY hd _ _ _ k1 (by omega)) rfl (by show a.d.st+1<=_;omega) (by show a.d.fl<=_;omega) (by show a.d.fe<=_;omega) (L:=L) (n:=(spn c).toNat) (fun m r _ hr hm=>hb m r hr hm) (fun m hm ln hl=>h.apart g hm hl),fun hdat m r h1 h2 h3=> ?_,hb⟩
 rw[zo _ _ _ _ _ h3]
 by_cases e:m=p
 ·subst e
  rw[if_pos rfl,k3 h1]
  exact an1 (x:=dN.mk c 2 0 0 0 ⟨#[]⟩ f.value) (y:=dN.mk 0 2 0 0 0 ⟨#[]⟩ f.value) rfl rfl (by omega)
 ·rw[if_neg (by omega)]
  exact hdat m r h1 (by omega) h3
theorem Base.take(g:Base a T M b){c:Int}(hc:0<=c/\c<=3){i j:Nat}(h:a.p.takes c i j): ∃L:Nat,(L:Int)=2+i*8+j*spn c/\L=2+i*8+j*(spn c).toNat/\Base (a.UR (a.p.take c i j)) T M b/\Hold (a.UR (a.p.take c i j)) L c/\ ¬a.p.has L:=by
 obtain⟨l1,l2⟩:=kZ g.pg hc h
 obtain⟨n1,n2⟩:=at_new g.pg hc.1 h
 have no:=TN g.pg hc h
 refine⟨2+i*8+j*(spn c).toNat,l1,rfl,?_,⟨⟨i,j,by rw[l1];exact n1,n2⟩,?_,?_⟩,by rw[l1];exact no⟩
 ·refine{g with pg:=BK g.pg hc h,used:=fun L hL hu=>TW (take_at g.pg h) (g.used L hL hu),q:=fun m hm=> ?_}
  obtain⟨ln,q1,q2,i',j',q7,q8⟩:=g.q m hm
  obtain⟨q9,q10⟩:=take_at g.pg h _ _ _ q7
  exact⟨ln,q1,q2,i',j',q9,q10.trans q8⟩
 ·intro hu
  exact no (l1▸g.used _ (by omega) (.inl hu))
 ·intro hu
  exact no (l1▸g.used _ (by omega) (.inr hu))
theorem Base.sJ(g:Base a T M b){t:Nat}{v:Int}:Base (a.sJ t v) T M b:={g with rok:=g.rok,rt:=g.rt}
theorem avd{x:gX}{ln:Nat}(h:Hold x.a ln x.c)(hk:x.k=ln): ∃i j,x.inP i j:=by
 obtain⟨⟨i,j,⟨a1,a2,a3,a4,a5⟩,h2⟩,_⟩:=h
 exact⟨i,j,a1,a2,a3,a4,by rw[hk];exact a5,h2⟩
theorem Base.deq(g:Base a T M b)(hM:M<=1000000){t L:Nat}(ht:t<T){f:ZFr}(h:Hold a L 0)(hc:f.cls=0)(hz:a.l.n≠0)(ho:f.old=a.l.head)(he:f.epoch=a.c.now):
  ((ZPb.mk a f t L).chg.okD/\(∃i j,(ZPb.mk a f t L).chg.inP i j)/\0<=a.id/\a.id<1152921504606846976/\a.n≠0)/\Base (ZPb.mk a f t L).chg.deq T (M+20) (fun m=>b (m+1)):=by
 obtain⟨f1,f2,f3,f4,f5,f6⟩:=h.fits g
 have hs0:spn 0=1:=rfl
 have e1:=g.id0;have e2:=g.id1;have e3:=g.v0;have e4:=g.v1;have e5:=g.nn;have e6:=g.anT;have e7:=g.aiZ
 have e8:=g.dst;have e9:=g.dfl;have e10:=g.dfe;have e11:=g.ln
 have how:=g.owed
 obtain⟨ln0,q1,⟨_,q3,q4,q5,q6⟩,bi,bj,q7,q8⟩:=g.q 0 (by omega)
 have hhd:a.l.head=⟨⟨#[]⟩,(b 0).id,(b 0).ver,ln0,(b 0).cls⟩:=by rw[TV hz];exact q1
 obtain⟨g1,g2,g3,g4⟩:=TY g.pg q7
 have hfit:=g.fit
 have hsb:=dX (a.p.cls bi)
 have nums:1<=(b 0).id/\(b 0).id<=2305843009213693952:=by
  rcases q3.2 with h|h|h|h
  ·exfalso;have:=h.1;have:(b 0).kind=2:=q4;omega
  ·exfalso;have:=h.1;have:(b 0).kind=2:=q4;omega
  ·exact h.2.2.2.2.1
  ·exfalso;have:=h.1;have:(b 0).kind=2:=q4;omega
 let B:dN:=(ZPb.mk a f t L).chg.aqR
 have hBm:B.may:=by
  refine⟨show spn 0≠0 by decide,.inr (.inr (.inr ⟨rfl,rfl,rfl,?_,?_,?_⟩))⟩
  ·show 1<=f.old.id/\f.old.id<=2305843009213693952
   rw[ho,hhd];exact nums
  ·show 1<=a.ver+1/\a.ver+1<=2305843009213693952;omega
  ·show 1<=f.epoch/\f.epoch<=2305843009213693952;omega
 have h':Hold a L f.cls:=by rw[hc];exact h
 have hen:(ZPb.mk a f t L).chg.aby.may:=by
  refine⟨?_,?_,?_,?_,?_,?_⟩
  ·show 2<=f.old.line;rw[ho,hhd];exact g1
  ·show f.old.line<258;rw[ho,hhd];show(ln0:Int)<258;omega
  ·show 0<=f.old.cls;rw[ho,hhd];show 0<=(b 0).cls;omega
  ·show f.old.cls<=3;rw[ho,hhd];show(b 0).cls<=3;omega
  ·show-1<=((L:Nat):Int);omega
  ·show((L:Nat):Int)<258;omega
 refine⟨⟨⟨g.dok,g.cok,g.lok,by show t<a.c.t;rw[g.ct];exact ht,by show L<a.d.n;omega,hBm,e3,by show a.n<_;omega,f6,g.pg.1,g.bok,g.rok,by show a.l.n<_;omega,hz,ho,he.symm,by show a.ver<_;omega,hc,hen,h.2.1,h.2.2⟩,avd (x:=(ZPb.mk a f t L).chg) h' rfl,e1,by omega,g.nz hz⟩,?_⟩
 let D:dS:=a.d.store L 0 64 B.enc
 have hDb: ∀m r:Nat,r<64-> ¬(L<=m/\m<L+(spn 0).toNat)->D.b (m*193+r)=a.d.b (m*193+r):=fun m r hr hm=>by
  show(a.d.store L 0 64 B.enc).b (m*193+r)=_
  rw[zo _ _ _ _ _ hr,if_neg (fun e=>hm (by rw[hs0];subst e;exact⟨aX _,Nat.lt_succ_self _⟩))]
 have axo:D.ok:=dS.kY g.dok _ _ _ (vI hBm) (by omega)
 have gD:Base (a.Ry D) T (M+20) b:=g.dev (by omega) axo rfl (by show a.d.st+1<=_;omega) (by show a.d.fl<=_;omega) (by show a.d.fe<=_;omega) (L:=L) (n:=(spn 0).toNat) (fun m r _ hr hm=>hDb m r hr hm) (fun m hm ln hl=>h.apart g hm hl)
 have hpo:=axl g.lok hz
 have hcap:=g.ao5
 have hpn:=axk hz
 have hno:=Q9 a.c t (L:Int) (fun k=>(g.cok.2.2.2.2.2 k).1)
 have hl:(ZPb.mk a f t L).chg.deq.l=a.l.pop:=rfl
 have hcc:(ZPb.mk a f t L).chg.deq.c=a.c.notes t (L:Int) 1:=rfl
 obtain⟨i0,j0,hi0,hc0⟩:=h.1
 exact{gD with
  cok:=by rw[hcc];exact xO g.cok (fun k=>by have:=how k;omega) _ _ (by decide)
  ct:=by rw[hcc,qL];exact g.ct
  jU:=g.jU
  bok:=axn g.bok _
  lok:=hpo.1
  ao5:=by rw[hl,hpo.2];omega
  ln:=by rw[hl,hpn];omega
  v0:=by show 0<=a.ver+1;omega
  v1:=by show a.ver+1<=((M+20:Nat):Int);omega
  nn:=by show a.n+1<=M+20;omega
  anT:=by rw[hcc,rE];exact g.anT
  aiZ:=by rw[hcc,rE];omega
  owed:=fun k=>by rw[hcc];have:=(hno 1 k).2;have:=how k;omega
  nz:=fun _=>Nat.succ_ne_zero _
  used:=fun K hK hu=>by
   rcases hu with ⟨m,hm,hh⟩|hu
   ·have hm:m<a.l.n-1:=by rw[<-hpn];exact hm
    have hh:(a.l.pop.get m).line=K:=hh
    rw[acf g.lok hz (by omega)]at hh
    exact g.used K hK (.inl ⟨m+1,by show m+1<a.l.n;omega,hh⟩)
   ·have hu:rC.inB ⟨a.b.put (ZPb.mk a f t L).chg.aby,a.l.pop,K⟩:=hu
    rcases avc hu with hu|hu|hu
    ·exact g.used K hK (.inr hu)
    ·have hu:f.old.line=K:=hu
     rw[ho,hhd]at hu
     exact⟨bi,bj,by rw[<-hu];exact q7⟩
    ·have hu:(L:Int)=K:=hu
     exact⟨i0,j0,by rw[<-hu];exact hi0⟩
  q:=fun m hm=>by
   have hm:m<a.l.n-1:=by rw[<-hpn];exact hm
   rw[hl,acf g.lok hz (by omega)]
   exact gD.q (m+1) (by show m+1<a.l.n;omega)}
end
theorem D5{f:Nat->Bool}{k:Nat}(hf:f k=true): ∀{n},k<n->E5 (fun q=>if q=k then false else f q) n+1=E5 f n
 |n+1,h=>by
  simp only[E5]
  by_cases e:k=n
  ·subst e
   rw[mF (g:=f) fun q hq=>if_neg (by omega),hf];simp
  ·have:=D5 hf (n:=n) (by omega)
   rw[if_neg (show¬n=k by omega)];omega
theorem ard{f:Nat->Bool}{k:Nat}(hf:f k=true){n:Nat}(h:k<n):1<=E5 f n:=by
 have:=D5 hf h
 omega
theorem YE{p:dI}(hp:p.good){L:Int}{i j:Nat}(h:p.at_ L i j):(p.give i j).good/\ ∀L' i' j',p.at_ L' i' j'->L'≠L->(p.give i j).at_ L' i' j'/\(p.give i j).cls i'=p.cls i':=by
 obtain⟨h1,h2,h3,h4,h5⟩:=h
 obtain⟨⟨o1,o2,o3⟩,hg⟩:=hp
 have gi:=hg i h1
 have hj8:j<8:=Nat.lt_of_lt_of_le h3 (ab9 _)
 have hun:=D5 h4 hj8
 have hoi:=o3 i h1
 have hcnt:=gi.2.2
 have hin: ∀k,p.tk i k=true->k≠j->p.cnt i≠1:=fun k hk hkj he=>by
  have hk8:k<8:=Nat.lt_of_lt_of_le (gi.2.1 k hk) (ab9 _)
  have:1<=E5 (fun q=>if q=j then false else p.tk i q) 8:=ard (k:=k) (by show(if k=j then false else p.tk i k)=true;rw[if_neg hkj];exact hk) hk8
  omega
 have tkn: ∀q k,(p.give i j).tk q k=if q=i/\k=j then false else p.tk q k:=fun _ _=>rfl
 have cln: ∀q,(p.give i j).cls q=if q=i/\p.cnt q=1 then-1 else p.cls q:=fun _=>rfl
 have cnn: ∀q,(p.give i j).cnt q=if q=i then p.cnt q-1 else p.cnt q:=fun _=>rfl
 refine⟨⟨⟨o1,o2,fun q hq=> ?_⟩,fun q hq=> ?_⟩,fun L' i' j' hL hne=> ?_⟩
 ·have hq:q<p.n:=hq
  have a1:=o3 q hq
  rw[cln,cnn]
  by_cases e:q=i
  ·subst e
   rw[if_pos rfl]
   refine⟨?_,?_,by omega,by omega⟩<;>split<;>omega
  ·rw[if_neg (fun hh=>e hh.1),if_neg e];exact a1
 ·have hq:q<p.n:=hq
  have a2:=hg q hq
  by_cases e:q=i
  ·subst e
   refine⟨fun hc k=> ?_,fun k hk=> ?_,?_⟩
   ·rw[cln]at hc
    rw[tkn]
    by_cases ek:k=j
    ·rw[if_pos ⟨rfl,ek⟩]
    ·rw[if_neg (fun hh=>ek hh.2)]
     cases hk:p.tk q k with
     |false=>rfl
     |true=>
      exfalso
      rw[if_neg (fun hh=>hin k hk ek hh.2)]at hc
      omega
   ·rw[tkn]at hk
    by_cases ek:k=j
    ·rw[if_pos ⟨rfl,ek⟩]at hk;cases hk
    ·rw[if_neg (fun hh=>ek hh.2)]at hk
     rw[cln,if_neg (fun hh=>hin k hk ek hh.2)]
     exact a2.2.1 k hk
   ·rw[cnn,if_pos rfl,show E5 ((p.give q j).tk q) 8=E5 (fun k=>if k=j then false else p.tk q k) 8 from mF fun k _=>by rw[tkn];by_cases ek:k=j<;>simp[ek]]
    omega
  ·refine⟨fun hc k=> ?_,fun k hk=> ?_,?_⟩
   ·rw[cln,if_neg (fun hh=>e hh.1)]at hc
    rw[tkn,if_neg (fun hh=>e hh.1)];exact a2.1 hc k
   ·rw[tkn,if_neg (fun hh=>e hh.1)]at hk
    rw[cln,if_neg (fun hh=>e hh.1)];exact a2.2.1 k hk
   ·rw[cnn,if_neg e,a2.2.2,mF (g:=(p.give i j).tk q) fun k _=>by rw[tkn,if_neg (fun hh=>e hh.1)]]
 ·obtain⟨b1,b2,b3,b4,b5⟩:=hL
  have hd: ¬(i'=i/\j'=j):=fun⟨e1,e2⟩=>by subst e1;subst e2;exact hne (b5.trans h5.symm)
  have hcl:(p.give i j).cls i'=p.cls i':=by
   rw[cln]
   refine if_neg fun⟨e1,e2⟩=> ?_
   subst e1
   exact hin j' b4 (fun e=>hd ⟨rfl,e⟩) e2
  exact⟨⟨b1,by rw[hcl];exact b2,by rw[hcl];exact b3,by rw[tkn,if_neg hd];exact b4,by rw[hcl];exact b5⟩,hcl⟩
section
variable{a:dF}{T M:Nat}{b:Nat->dN}
theorem Base.give(g:Base a T M b){L:Nat}{c:Int}(h:Hold a L c){i j:Nat}(hi:a.p.at_ L i j):Base (a.UR (a.p.give i j)) T M b/\ ∀(L':Nat) c',Hold a L' c'->L'≠L->Hold (a.UR (a.p.give i j)) L' c':=by
 obtain⟨g1,g2⟩:=YE g.pg hi
 refine⟨{g with pg:=g1,used:=fun K hK hu=> ?_,q:=fun m hm=> ?_},fun L' c' ⟨⟨i',j',q1,q2⟩,q3⟩ hne=> ?_⟩
 ·obtain⟨i',j',q1⟩:=g.used K hK hu
  have hne:K≠L:=fun e=>by
   subst e
   exact hu.elim h.2.1 h.2.2
  exact⟨i',j',(g2 _ _ _ q1 hne).1⟩
 ·obtain⟨ln,q1,q2,i',j',q7,q8⟩:=g.q m hm
  have hne:(ln:Int)≠L:=fun e=>h.2.1 ⟨m,hm,by show(a.l.get m).line=(L:Int);rw[q1];exact e⟩
  obtain⟨q9,q10⟩:=g2 _ _ _ q7 hne
  exact⟨ln,q1,q2,i',j',q9,q10.trans q8⟩
 ·obtain⟨q9,q10⟩:=g2 _ _ _ q1 (by omega)
  exact⟨⟨i',j',q9,q10.trans q2⟩,q3⟩
end
def lk(B:Nat->dN)(LN:Nat->Nat)(i:Nat):dM:=⟨⟨#[]⟩,(B i).id,(B i).ver,(LN i:Nat),(B i).cls⟩
section
variable{n o M:Nat}{B:Nat->dN}{LN:Nat->Nat}{a:dF}
end
structure ai0 where
 code:Int
 found:Bool
 v:ByteArray
 ep:Int
 n:Nat
 a:dF
def ai0.av(y:ai0):AV:= .tup [asG y.code y.found y.v y.ep,i64 y.n,boo true]
def resE(x:jr)(y:ai0):Prop:=
 (400<x.v.size/\y.code=5/\y.found=false/\y.v=⟨#[]⟩/\y.a=x.a)\/
 (x.v.size<=400/\(∀i,i<x.a.p.n->x.a.p.cls i≠ -1/\x.a.p.full (ned x.v.size) i)/\y.code=4/\y.found=false/\y.v=⟨#[]⟩/\y.a=x.a)\/
 (x.v.size<=400/\y.code=0/\y.found=false/\y.v=⟨#[]⟩/\y.n=4+x.sp 4/\ ∃i j,x.a.p.takes (ned x.v.size) i j/\y.a=x.aE i j)
def resD(x:jr)(y:ai0):Prop:=
 (x.a.l.n=0/\y.code=0/\y.found=false/\y.v=⟨#[]⟩/\y.a=x.a)\/
 (x.a.l.n≠0/\(∀i,i<x.a.p.n->x.a.p.cls i≠ -1/\x.a.p.full 0 i)/\y.code=4/\y.found=false/\y.v=⟨#[]⟩/\y.a=x.a)\/
 (x.a.l.n≠0/\y.code=0/\y.found=true/\y.v=x.b.value/\y.n=6+x.b.dJ/\ ∃i j,x.a.p.takes 0 i j/\y.a=x.aD i j)
noncomputable def ave:Ctr:={X:=jr,args:=fun x=>[.ptr 0 0,i64 x.t,aiv 4 x.key x.v],k:=1,os:=fun x=>[.abs (bK x.a.os)],pre:=fun x=>Hd (wU x.a x.t),outs:=[{Y:=ai0,post:=fun x y=>Hd (resE x y),ret:=fun _ y=>y.av,m:=1,os:=fun _ y=>[.abs (bK y.a.os)]}]}
noncomputable def axq:Ctr:={X:=jr,args:=fun x=>[.ptr 0 0,i64 x.t,aiv 5 x.key x.v],k:=1,os:=fun x=>[.abs (bK x.a.os)],pre:=fun x=>Hd (wU x.a x.t/\x.v.size<=400/\(x.a.l.n≠0->x.a.n≠0/\ ∃ln,O4 x.a x.b ln)),outs:=[{Y:=ai0,post:=fun x y=>Hd (resD x y),ret:=fun _ y=>y.av,m:=1,os:=fun _ y=>[.abs (bK y.a.os)]}]}
theorem afJ{X:Type}{x:X}{v:AV}{h':Heap}{o p q:Out X}(h:pU x v h' [o,p,q]):(∃y,o.post x y/\v=o.ret x y/\h'=hO o.m (o.os x y))\/(∃y,p.post x y/\v=p.ret x y/\h'=hO p.m (p.os x y))\/ ∃y,q.post x y/\v=q.ret x y/\h'=hO q.m (q.os x y):=by
 rw[jh]at h
 rcases h with h|h
 ·exact .inl h
 ·exact .inr (qY h)
theorem afK:bZ Tryz.prog 15 ave:=qw fun x hx=>by
 refine⟨_,au7,rfl,x,hx,rfl,rfl,fun v h' hh=> ?_⟩
 have hc:x.c 4=ned x.v.size:=if_pos rfl
 rcases afJ hh with ⟨n,h0,h1,h2⟩|⟨n,h0,h1,h2⟩|⟨y,h0,h1,h2⟩
 ·exact fK ⟨⟨5,false,⟨#[]⟩,0,n,x.a⟩,aY.2 (.inl ⟨aY.1 h0,rfl,rfl,rfl,rfl⟩),h1,h2⟩
 ·have h0:=aY.1 h0
  exact fK ⟨⟨4,false,⟨#[]⟩,0,n,x.a⟩,aY.2 (.inr (.inl ⟨h0.1,by rw[<-hc];exact h0.2,rfl,rfl,rfl,rfl⟩)),h1,h2⟩
 ·have h0:=aY.1 h0
  exact fK ⟨⟨0,false,⟨#[]⟩,x.a.c.now,4+x.sp 4,x.aE y.1 y.2⟩,aY.2 (.inr (.inr ⟨h0.1,rfl,rfl,rfl,rfl,y.1,y.2,by rw[<-hc];exact h0.2,rfl⟩)),h1,h2⟩
theorem arf:bZ Tryz.prog 15 axq:=qw fun x hx=>by
 refine⟨_,ava,rfl,x,hx,rfl,rfl,fun v h' hh=> ?_⟩
 rcases afJ hh with ⟨n,h0,h1,h2⟩|⟨n,h0,h1,h2⟩|⟨y,h0,h1,h2⟩
 ·exact fK ⟨⟨0,false,⟨#[]⟩,0,n,x.a⟩,aY.2 (.inl ⟨aY.1 h0,rfl,rfl,rfl,rfl⟩),h1,h2⟩
 ·have h0:=aY.1 h0
  exact fK ⟨⟨4,false,⟨#[]⟩,0,n,x.a⟩,aY.2 (.inr (.inl ⟨h0.1,h0.2,rfl,rfl,rfl,rfl⟩)),h1,h2⟩
 ·have h0:=aY.1 h0
  exact fK ⟨⟨0,true,x.b.value,x.a.c.now,6+x.b.dJ,x.aD y.1 y.2⟩,aY.2 (.inr (.inr ⟨h0.1,rfl,rfl,rfl,rfl,y.1,y.2,h0.2,rfl⟩)),h1,h2⟩
noncomputable def runT:WTr:=fun args h K=>match args with
 |[a,t,.agg l]=>(bif decide (axj l 0=4)then eG ave else eG axq) [a,t,.agg l] h K
 |_=>False
theorem avf(args:List AV)(h:Heap)(K:AV->Heap->Prop)(hq:runT args h K):Sp Tryz.prog 15 args h K:=by
 unfold runT at hq
 split at hq
 ·exact nO _ (bU afK) (bU arf) _ _ _ hq
 ·exact hq.elim
noncomputable def rM(sh:dF->List dw)(m r:Nat):jR:={X:=dF,args:=fun _=>[.ptr 0 0],k:=1,l:=fun a=>[.m (sh a)],pre:=fun _=>Hd True,outs:=[{Y:=Unit,post:=fun _ _=>True,ret:=fun _ _=> .ptr r 0,m:=m,l:=fun a _=>(sh a).map PO.o}]}
noncomputable def an3:Ctr:=det Unit (fun _=>[]) 0 (fun _=>[]) (fun _=>True) (fun _=>boo true) 0 (fun _=>[])
noncomputable def axr:jY:=[(13,eG ah0.ctr),(15,runT)]
def axt:Prop:=Value.slice none 0 0=Value.slice none 0 0
def axu:Prop:=axt/\True
def an4:Prop:= ∃y_3:Unit,True/\true=false/\True
def avg:Prop:=ByteArray.mk #[]=ByteArray.mk #[]/\axu
def JY(x:Unit):Prop:=
 ∃x_1:auz,Hd (10<=x_1.n/\x_1.n<=258/\1<=x_1.t/\x_1.t<=4)/\((x_1.n:Int)=10/\(x_1.t:Int)=1/\True)/\True/\ ∀y:dS,Hd (y.ok/\y.n=x_1.n/\y.st=2/\y.fl=2/\y.fe=1)-> ∃x_2:jr,Hd (wU x_2.a x_2.t)/\(0=0/\(x_2.t:Int)=0/\((4:Int)=4/\x_2.key=ByteArray.mk #[]/\x_2.v= @ByteArray.mk (@List.toArray UInt8 [(120:UInt8)])/\avg)/\True)/\(bK x_2.a.os=bK (dF.osN (ru x_1.n x_1.t y))/\True)/\ ∀y_1:ai0,Hd (resE x_2 y_1)-> ∃x_3:jr,Hd (wU x_3.a x_3.t/\x_3.v.size<=400/\(x_3.a.l.n≠0->x_3.a.n≠0/\ ∃ln:Nat,@O4 x_3.a x_3.b ln))/\(0=0/\(x_3.t:Int)=0/\((5:Int)=5/\x_3.key=ByteArray.mk #[]/\x_3.v=ByteArray.mk #[]/\avg)/\True)/\(bK x_3.a.os=bK y_1.a.os/\True)/\ ∀y_2:ai0,Hd (resD x_3 y_2)->cP (BEq.beq (y_1.n:Int) (5:Int)) (cP (BEq.beq y_1.code (0:Int)) (cP (BEq.beq (y_2.n:Int) (7:Int)) (cP y_2.found (∃y_3:Unit,True/\true=BEq.beq (ByteArray.toList y_2.v) (ByteArray.toList (@ByteArray.mk (@List.toArray UInt8 [(120:UInt8)])))/\True) an4) an4) an4) an4
theorem YF(x:Unit):JY x=wpF Tryz.prog axr tt (noA x) 200 6 12 (an3.args x) (hO 0 []) (fun v h'=>fA 0 x v h' an3.outs):=by kernel_rfl
structure ZSm where
 n:Nat
 m:Nat
 g:Nat->ByteArray
 h:Nat->ByteArray
noncomputable def ZSm.same(x:ZSm):Bool:=hide (@decide (x.n=x.m/\ ∀i,i<x.n->x.g i=x.h i) (Classical.propDecidable _))
theorem same_iff{x:ZSm}:x.same=true↔x.n=x.m/\ ∀i,i<x.n->x.g i=x.h i:=by unfold ZSm.same;rw[qI];exact @decide_eq_true_iff _ (Classical.propDecidable _)
def rowT(n:Nat)(g:Nat->ByteArray):dw:= .ro (.row 1 n (fun i=>[.string (g i)]) [])
noncomputable def an5:Ctr:=det ZSm (fun x=>[.slR 0 0 1 x.n,.slR 1 0 1 x.m]) 2 (fun x=>[rowT x.n x.g,rowT x.m x.h]) (fun x=>Hd (x.n<1099511627776)) (fun x=>boo x.same) 2 (fun x=>[rowT x.n x.g,rowT x.m x.h])
def axv(x:ZSm):FuncId->tK:=fun f=>bif Nat.beq f 31 then(fun b _ _=>bif Nat.beq b 0 then [
 {σ:=Nat,fr:=fun i=>[(5,i64 i)],ob:=fun _=>[],inv:=fun i=>Hd (i<=x.n/\x.n=x.m/\ ∀k,k<i->x.g k=x.h k),meas:=fun i=>x.n-i}]else [])else fun _ _ _=>[]
structure UU where
 a:dF
 b:Nat->dN
noncomputable def uF:xR:={X:=UU,args:=fun _=>[.ptr 0 0],a:=UU.a,k:=1,ex:=fun _=>[],pre:=fun x=>Hd (x.a.l.ok/\x.a.l.n<1099511627776/\qok x.a.d x.a.l x.b),outs:=[
 {Y:=Unit,post:=fun x _=>Hd (x.a.l.n=0),ret:=fun _ _=> .agg [fO,fO],a:=fun x _=>x.a,m:=1,ex:=fun _ _=>[]},
 {Y:=Unit,post:=fun x _=>Hd (x.a.l.n≠0),ret:=fun x _=> .agg [fO,.slW 1 0 1 x.a.l.n],a:=fun x _=>x.a,m:=2,ex:=fun x _=>[rowS x.b x.a.l.n]}]}
end Go.Proofs.YtenfleoejgjklaaGreat
end
