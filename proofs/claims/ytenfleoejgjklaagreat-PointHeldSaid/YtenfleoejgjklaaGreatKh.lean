import Derived.Test.YtenfleoejgjklaaGreatKa
import Derived.Test.YtenfleoejgjklaaGreatKb
import Derived.Test.YtenfleoejgjklaaGreatKc
import Derived.Test.YtenfleoejgjklaaGreatKd
import Derived.Test.YtenfleoejgjklaaGreatKe
import Derived.Test.YtenfleoejgjklaaGreatKf
import Derived.Test.YtenfleoejgjklaaGreatKg
import Derived.KernelRfl
import Derived.RangeFuncNested
import Derived.RangeFuncBound
import Derived.RangeFuncCalls
import Derived.RangeFuncLeaves
import Derived.Shelf.Abstract
import Derived.Shelf.RegionOpen
import Derived.WalkKit
import Derived.OwnWalkIn
import Derived.TacticsInMore
import Derived.LoopNIn
import Derived.LoopIn
set_option linter.unusedVariables false
set_option linter.unusedSimpArgs false
set_option linter.unnecessarySimpa false
section
namespace Go.Proofs.YtenfleoejgjklaaGreat
open Go SE
theorem akn(k:ByteArray):(k.toList==(ByteArray.mk #[]).toList)=decide (k.size=0):=by
 rw[iH,iH];have hs:k.data.toList.length=k.size:=by simp
 cases h:k.data.toList with
 |nil=>rw[h]at hs;rw[decide_eq_true (by rw[<-hs];rfl)];rfl
 |cons a l=>rw[h]at hs;rw[decide_eq_false (by rw[<-hs];simp)];rfl
theorem apW{k:Int}{key v:ByteArray}(h:key.size=0):goodP k key v=1:=if_pos h
theorem ako{k:Int}{key v:ByteArray}(h0:key.size≠0)(h:16<key.size\/k=2/\400<v.size):goodP k key v=5:=by unfold goodP;rw[if_neg h0,if_pos h]
theorem akp{k:Int}{key v:ByteArray}(h0:key.size≠0)(h: ¬(16<key.size\/k=2/\400<v.size)):goodP k key v=0:=by unfold goodP;rw[if_neg h0,if_neg h]
theorem y8{k:Int}{key v:ByteArray}(h:goodP k key v=0):key.size≠0/\key.size<=16/\(k=2->v.size<=400):=by
 unfold goodP at h;split at h
 ·cases h
 ·split at h
  ·cases h
  ·rename_i h0 h1
   exact⟨h0,by omega,λhk=>by omega⟩
theorem Yu(x:ZPs)(hx:x.a.r.ok/\x.a.c.ok/\x.a.ph<=4/\x.t<x.a.r.t/\x.a.r.has x.t=0):akd x:=by
 obtain⟨h1,h2,h3,h4,h5⟩:=hx;unfold akd;simp only[Gh,cZ,dP,bT,iq,AY,Gi,NH,AU,NG,tX,tV,NP,NS,NK,NQ,NI,NM,jl,jm,jo,nC,pR,AQ,wJ,Gg,AX];simp only[aZ,aV,aU,aA,aI,bU,bG,aO,aK,ay,aX,aW,bV,bH,bJ,bK,bW,bC,bM,bn,eY,aH,aN,ah,ak,aB,aF,aC,aG,akn];refine⟨by decide,bf (λh=> .inl ?_) λh=>bf (λhs=> .inl ?_) λhs=> ?_⟩
 ·have h:=aS h
  rw[apW h];exact⟨by decide,rfl⟩
 ·have h:=aT h
  have hs:=aS hs;rw[ako h (.inl (by omega))];exact⟨by decide,rfl⟩
 ·have h:=aT h
  have hs:=aT hs
  skip
  have hg:goodP 1 x.f.key x.f.value=0:=akp h (by omega);exact⟨⟨x.a.r,x.t⟩,⟨h1,h4⟩,rfl,rfl,λ_=>⟨x.a.ck,⟨by assumption,h2⟩,rfl,.inr ⟨hg,rfl,rfl,rfl⟩⟩,λhne=>absurd h5 hne⟩
theorem Yv(x:ZPs)(hx:x.a.r.ok/\x.a.c.ok/\x.a.ph<=4/\x.t<x.a.r.t/\x.a.r.has x.t=0):akf x:=by
 obtain⟨h1,h2,h3,h4,h5⟩:=hx;unfold akf;simp only[Gf,cZ,dP,bT,iq,AY,F9,NH,AU,Yp,tX,tV,NP,NS,NK,NQ,NI,NM,jl,jm,jo,nC,pR,AQ,wJ,NG,Gg,AX];simp only[aZ,aV,aU,aA,aI,bU,bG,aO,aK,ay,aX,aW,bV,bH,bJ,bK,bW,bC,bM,bn,eY,aH,aN,ah,ak,aB,aF,aC,aG,akn];refine⟨by decide,bf (λh=> .inl ?_) λh=>bf (λhs=> .inl ?_) λhs=>bf (λh3=> .inl ?_) λh3=> ?_⟩
 ·have h:=aS h
  rw[apW h];exact⟨by decide,rfl⟩
 ·have h:=aT h
  have hs:=aS hs;rw[ako h (.inl (by omega))];exact⟨by decide,rfl⟩
 ·have h:=aT h
  have hs:=aT hs;have h3:=aS h3;rw[ako h (.inr ⟨rfl,by omega⟩)];exact⟨by decide,rfl⟩
 ·have h:=aT h
  have hs:=aT hs;have h3':=aT h3;have hg:goodP 2 x.f.key x.f.value=0:=akp h (by omega);exact⟨⟨x.a.r,x.t⟩,⟨h1,h4⟩,rfl,rfl,λ_=>⟨x.a.ck,⟨by assumption,h2⟩,rfl,.inr ⟨hg,rfl,rfl,rfl⟩⟩,λhne=>absurd h5 hne⟩
theorem Yw(x:ZPs)(hx:x.a.p.ok/\x.f.key.size<=16/\x.f.value.size<=400):akh x:=by
 obtain⟨h1,h2,h3⟩:=hx;have hnd:x.nd 2=ned ((x.f.key.size:Int)+x.f.value.size):=by unfold ZPs.nd;rw[if_pos rfl];congr 1
 have hz:spn (x.nd 2)≠0:=by
  rw[hnd];have:(x.f.key.size:Int)+x.f.value.size=((x.f.key.size+x.f.value.size:Nat):Int):=by omega
  rw[this];refine RF ?_;unfold ned;repeat' split
  all_goals omega
 unfold akh;simp only[NT,cZ,dP,bT,wL,iq,Yq,Gg,Yt,akc,jl,jm,jo,AX,wJ,Yr,pR];simp only[aZ,aV,aU,aA,aI,bU,bG,aO,aK,ay,aX,aW,bV,bH,bJ,bK,bW,bC,bM,bn,eY,aH,aN,ah,ak,aB,aF,aC,aG];have e0:ned 0=0:=rfl;rw[<-hnd];refine⟨by decide,by unfold I64;omega,⟨x.a.p,x.nd 2⟩,h1,rfl,rfl,λh=>absurd h hz,λh=> .inl ⟨h.2,rfl,rfl⟩,λy hy=> .inr ⟨y,hy.2,⟨rfl,rfl⟩,rfl,rfl⟩⟩
theorem Yx(x:ZPs)(hx:x.a.r.ok/\x.t<x.a.r.t):akj x:=by
 unfold akj;simp only[tX,tV,NR,NJ,jl,jm,jo,nC,pR,bT,cZ,dP,AQ,wJ,iq];simp only[aZ,aV,aU,aA,aI,bU,bG,aO,aK,ay,aX,aW,bV,bH,bJ,bK,bW,bC,bM,bn,eY,aH,aN,ah,ak,aB,aF,aC,aG];exact⟨by decide,⟨x.a.r,x.t⟩,hx,rfl,rfl,rfl,rfl⟩
theorem Yy(x:ZPs)(hx:x.a.r.ok/\x.t<x.a.r.t):akl x:=by
 unfold akl;simp only[tX,tV,NR,NJ,jl,jm,jo,nC,pR,bT,cZ,dP,AQ,wJ,iq];simp only[aZ,aV,aU,aA,aI,bU,bG,aO,aK,ay,aX,aW,bV,bH,bJ,bK,bW,bC,bM,bn,eY,aH,aN,ah,ak,aB,aF,aC,aG];exact⟨by decide,⟨x.a.r,x.t⟩,hx,rfl,rfl,rfl,rfl⟩
theorem abk:dZ Tryz.prog asR:= .append jB (.cons (bP amF) (.cons (bP uY) .nil))
theorem aoA:dZ Tryz.prog avm:= .append jB (.cons ana (.cons (bP aru) .nil))
theorem Jp:cO Tryz.prog 34 (qx 1).ctr:=dh dG mixed abk 11 noA 200 6 (λ_=>⟨rfl,rfl,rfl,rfl⟩) λx hx=>Eq.mp (ake x) (Yu x (aZ.1 hx))
theorem Jq:cO Tryz.prog 34 (oP 1).ctr:=dh dG mixed aaU 11 noA 200 6 (λ_=>⟨rfl,rfl,rfl,rfl⟩) λx hx=>Eq.mp (akk x) (Yx x (aZ.1 hx))
theorem aek:cO Tryz.prog 34 (qx 2).ctr:=dh dG mixed abk 11 noA 200 6 (λ_=>⟨rfl,rfl,rfl,rfl⟩) λx hx=>Eq.mp (akg x) (Yv x (aZ.1 hx))
theorem ael:cO Tryz.prog 34 (oP 2).ctr:=dh dG mixed aaU 11 noA 200 6 (λ_=>⟨rfl,rfl,rfl,rfl⟩) λx hx=>Eq.mp (akm x) (Yy x (aZ.1 hx))
theorem akq:cO Tryz.prog 34 (Tj 2).ctr:=dh dG mixed aoA 11 noA 200 6 (λ_=>⟨rfl,rfl,rfl,rfl⟩) λx hx=>Eq.mp (aki x) (Yw x (aZ.1 hx))
theorem Yz{a b:ByteArray}(h:(a.toList==b.toList)=true):a=b:=by
 have h:=beq_iff_eq.1 h;rw[iH,iH]at h;exact ByteArray.ext (Array.toList_inj.1 h)
theorem YA{a b:ByteArray}(h:(a.toList==b.toList)=false):a≠b:=λe=>by subst e;simp at h
theorem Gj{x:ZPs}(h:nextL x.a.L (bkt x.f.key) x.f.pos x.f.past=none):x.miss:=λy hy=>by
 have hy:nextL x.a.L (bkt x.f.key) x.f.pos x.f.past=some y:=hy;rw[h]at hy;cases hy
theorem Gl{x:ZPs}{l:ZLnk}(h:nextL x.a.L (bkt x.f.key) x.f.pos x.f.past=some l)(h1:kl l.key x.f.key=false)(h2:l.key≠x.f.key):x.miss:=λy hy=>by
 have hy:nextL x.a.L (bkt x.f.key) x.f.pos x.f.past=some y:=hy;rw[h]at hy;cases hy;exact⟨h1,h2⟩
theorem nx_lt{f:ZFp}{k:Int}(hk:k=2\/k=3)(h:f.line<0):nx3 f k true=3:=by
 unfold nx3;rw[if_neg (by omega),if_neg (by simp),if_pos h]
theorem nx_ge{f:ZFp}{k:Int}(hk:k=2\/k=3)(h: ¬f.line<0):nx3 f k true=5:=by
 unfold nx3;rw[if_neg (by omega),if_neg (by simp),if_neg h]
theorem apX{f:ZFp}(h:f.line<0):nx3 f 2 false=3:=by
 unfold nx3;rw[if_neg (by decide),if_neg (by decide),if_pos h]
theorem apY{f:ZFp}(h: ¬f.line<0):nx3 f 2 false=5:=by
 unfold nx3;rw[if_neg (by decide),if_neg (by decide),if_neg h]
theorem YB(x:ZPs)(hx:x.f.key.size<1099511627776/\x.f.pos.size<1099511627776/\((1:Int)=3->x.miss->x.f.line<0)):aj7 x:=by
 unfold aj7;simp only[AP,oQ,qA,wI,AB,AO,ND,AL,aj6,Ym,Yn,tN,NC,fE,dw,fB,Yl,Nz,Nw,tJ,tK,F8,F7];simp only[aZ,aV,aU,aA,aI,bU,bG,aO,aK,ay,aX,aW,bV,bH,bJ,bK,bW,bC,bM,bn,eY,aH,aN,ah,ak,aB,aF,aC,aG];refine⟨by decide,x.f.key,hx.1,rfl,⟨x.a.L,x.f.key,x.f.pos,x.f.past⟩,hx.2.1,⟨rfl,rfl,rfl⟩,rfl,λhn=> ?_,λl hl=>bf (λh=> .inl ⟨l,⟨hl,h⟩,rfl,rfl⟩) λh=>bf (λh2=> ?_) λh2=> ?_⟩
 ·exact .inr (.inr ⟨Gj hn,rfl,rfl⟩)
 ·exact .inr (.inl ⟨l,⟨hl,Yz h2⟩,⟨rfl,rfl,rfl,rfl,rfl,rfl,rfl⟩,rfl⟩)
 ·exact .inr (.inr ⟨Gl hl h (YA h2),rfl,rfl⟩)
theorem YC(x:ZPs)(hx:x.f.key.size<1099511627776/\x.f.pos.size<1099511627776/\((2:Int)=3->x.miss->x.f.line<0)):aj9 x:=by
 unfold aj9;simp only[AP,oQ,qA,wI,AB,AO,Ny,AL,aj2,aj3,Yo,tN,NC,fE,dw,fB,Nv,Nz,Nw,Yi,Yj,Yk,tK,tJ,F8,Yh,F7];simp only[aZ,aV,aU,aA,aI,bU,bG,aO,aK,ay,aX,aW,bV,bH,bJ,bK,bW,bC,bM,bn,eY,aH,aN,ah,ak,aB,aF,aC,aG];refine⟨by decide,x.f.key,hx.1,rfl,⟨x.a.L,x.f.key,x.f.pos,x.f.past⟩,hx.2.1,⟨rfl,rfl,rfl⟩,rfl,λhn=> ?_,λl hl=>bf (λh=> .inl ⟨l,⟨hl,h⟩,rfl,rfl⟩) λh=>bf (λh2=> ?_) λh2=> ?_⟩
 ·exact bf (λg=> .inr (.inr ⟨Gj hn,apX (aS g),rfl⟩)) λg=> .inr (.inr ⟨Gj hn,apY (aT g),rfl⟩)
 ·exact bf (λg=> .inr (.inl ⟨l,⟨hl,Yz h2⟩,⟨nx_lt (.inl rfl) (aS g),rfl,rfl,rfl,rfl,rfl,rfl⟩,rfl⟩)) λg=> .inr (.inl ⟨l,⟨hl,Yz h2⟩,⟨nx_ge (.inl rfl) (aT g),rfl,rfl,rfl,rfl,rfl,rfl⟩,rfl⟩)
 ·exact bf (λg=> .inr (.inr ⟨Gl hl h (YA h2),apX (aS g),rfl⟩)) λg=> .inr (.inr ⟨Gl hl h (YA h2),apY (aT g),rfl⟩)
theorem abl:dZ Tryz.prog asT:= .append jB (.cons (bP RV) (.cons (bP anV) (.cons (bP arv) .nil)))
theorem akr:cO Tryz.prog 34 (vJ 1):=iP dG mixed abl noA 200 6 (λ_=>rfl) (λ_=>⟨λ_=>rfl,λ_=>rfl,λ_=>rfl,trivial⟩) λx hx=>Eq.mp (aj8 x) (YB x (aZ.1 hx))
theorem aem:cO Tryz.prog 34 (vJ 2):=iP dG mixed abl noA 200 6 (λ_=>rfl) (λ_=>⟨λ_=>rfl,λ_=>rfl,λ_=>rfl,trivial⟩) λx hx=>Eq.mp (akb x) (YC x (aZ.1 hx))
theorem wp_d0{x:ZPw}(h:x.p=0)(N:Nat):x.d'=(⟨x.a.d,x.ln,0,⟨x.draft.jL (λ_=>0) (cpc x.c).toNat,0,64,N⟩⟩:lD).d.store x.ln 0 64 (λq=>x.draft.jL (λ_=>0) (cpc x.c).toNat (0+q)):=by
 unfold ZPw.d';rw[if_pos h,aaR]
theorem wp_d1{x:ZPw}(h:x.p≠0)(N:Nat):x.d'=(⟨x.a.d,x.ln+x.p,0,⟨λq=>x.blk.enc (64*x.p+q),0,64,N⟩⟩:lD).d.store (x.ln+x.p) 0 64 (λq=>(λq=>x.blk.enc (64*x.p+q)) (0+q)):=by
 unfold ZPw.d';rw[if_neg h];exact(aaR _ _ _ _ (λq=>x.blk.enc (64*x.p+q))).symm
theorem apZ(x:ZPw){D:ByteArray}(hD:x.f.key++x.f.value=D){t q o B:Nat}(hq:q<64)(ho:o=min (28+63*t) D.size)(hB:(D.extract o D.size).size<=63/\B=1+(D.extract o D.size).size\/63<(D.extract o D.size).size/\B=64):[Value.int .u8 (x.blk.enc (64*(t+1)+q))]=bif Nat.ble 1 q&&Nat.blt q B then [Value.int .u8 (eG (D.extract o D.size) (q-1))]else Cs.eff (λ_=>[Value.int .u8 0]) [(0,[Value.int .u8 2])] q:=by
 have hsz:(D.extract o D.size).size=D.size-o:=by rw[ByteArray.size_extract];omega
 rw[hsz]at hB;rw[KR _ _ _ hq];unfold ZBlk.dat
 rw[show x.blk.key++x.blk.value=D from hD];by_cases h0:q=0
 ·subst h0;rfl
 ·rw[if_neg h0]
  by_cases h1:28+63*t+(q-1)<D.size
  ·rw[if_pos h1,show(Nat.ble 1 q&&Nat.blt q B)=true by rw[bY,Nat.ble_eq_true_of_le (by omega)];simp;omega,aP,aiL (by omega),show o=28+63*t by omega]
  ·rw[if_neg h1,show(Nat.ble 1 q&&Nat.blt q B)=false by rw[bY,Nat.ble_eq_true_of_le (by omega)];simp;omega,aQ]
   show _=bif Nat.beq q 0 then _ else _;rw[dD,decide_eq_false h0];rfl
theorem YD(x:ZPw)(hx:x.ok/\x.p=0):ajS x:=by
 obtain⟨⟨o1,o2,o3,o4,o5,o6,o7,o8⟩,hp⟩:=hx;have hs:=dU x.c;have hw:ownM x.d'.os=ownM (DevM.os ((⟨x.a.d,x.ln,0,⟨x.draft.jL (λ_=>0) (cpc x.c).toNat,0,64,64⟩⟩:lD).d.store x.ln 0 64 (λq=>x.draft.jL (λ_=>0) (cpc x.c).toNat (0+q)))):=congrArg (λd=>ownM (DevM.os d)) (wp_d0 hp 64);unfold ajS;simp only[AA,Nr,Nl,ajR,sZ,FZ,ajP,ajQ,bZ,dY,bQ,gy,jG,kZ,jk,iV,qy,Jo,BP,F6];simp only[aZ,aV,aU,aA,aI,bU,bG,aO,aK,ay,aX,aW,bV,bH,bJ,bK,bW,bC,bM,bn,eY,aH,aN,ah,ak,aB,aF,aC,aG];refine⟨by decide,x.c,⟨o2,o3⟩,rfl,⟨x.a.d,x.ln,0,⟨x.draft.jL (λ_=>0) (cpc x.c).toNat,0,64,64⟩⟩,⟨o1,by show x.ln<x.a.d.n;omega,⟨aY _,show 64<1099511627776 by decide,aaS ⟨o2,o3⟩⟩,aY _⟩,⟨rfl,rfl,rfl,rfl⟩,⟨rfl,rfl,λ_ _=>rfl⟩,by unfold I64;omega,by unfold I64;omega,bf (λh=> .inr ⟨beq_iff_eq.1 h,hw,rfl⟩) λh=> .inl ⟨beq_eq_false_iff_ne.1 h,by omega,hw,rfl⟩⟩
theorem aen(x:ZPw)(hx:x.ok/\x.p≠0):asV x:=by
 obtain⟨⟨o1,o2,o3,o4,o5,o6,o7,o8⟩,hp⟩:=hx;have hs:=dU x.c;obtain⟨t,ht⟩: ∃t,x.p=t+1:=⟨x.p-1,by omega⟩;have hn:=o1.1;generalize hD:x.f.key++x.f.value=D;have hDs:D.size=x.f.key.size+x.f.value.size:=by rw[<-hD];exact ByteArray.size_append
 have e1:(Dx (imax (28+((x.p:Int)-1)*63) 0) D.size).toNat=min (28+63*t) D.size:=by unfold Dx imax;omega
 have e0:0<=Dx (imax (28+((x.p:Int)-1)*63) 0) D.size:=by unfold Dx imax;omega
 have hw:ownM x.d'.os=ownM (DevM.os ((⟨x.a.d,x.ln+x.p,0,⟨λq=>x.blk.enc (64*x.p+q),0,64,64⟩⟩:lD).d.store (x.ln+x.p) 0 64 (λq=>(λq=>x.blk.enc (64*x.p+q)) (0+q)))):=congrArg (λd=>ownM (DevM.os d)) (wp_d1 hp 64);unfold asV;simp only[AA,Nr,Nl,X5,FZ,sZ,X4,X6,Yc,F6,X7,bZ,dY,bQ,gy,jG,kZ,jk,tq,iV,qy,Jo,BP];simp only[aZ,aV,aU,aA,aI,bU,bG,aO,aK,ay,aX,aW,bV,bH,bJ,bK,bW,bC,bM,bn,eY,aH,aN,ah,ak,aB,aF,aC,aG,hD,e1];refine⟨by decide,bf (λh=>absurd (beq_iff_eq.1 h) (by omega)) λ_=>⟨by decide,by decide,by decide,by omega,by unfold I64;omega,by unfold I64;omega,by unfold I64;omega,by decide,by decide,e0,⟨Nat.min_le_right _ _,aY _⟩,by decide,bf (λh=> ?_) λh=> ?_⟩⟩
 ·refine⟨by unfold I64;omega,⟨x.a.d,x.ln+x.p,0,⟨λq=>x.blk.enc (64*x.p+q),0,64,64⟩⟩,⟨o1,by show x.ln+x.p<x.a.d.n;omega,⟨aY _,show 64<1099511627776 by decide,λk=>aiM _ (by omega)⟩,aY _⟩,⟨rfl,rfl,rfl,rfl⟩,⟨rfl,rfl,λq hq=> ?_⟩,by unfold I64;omega,by unfold I64;omega,bf (λh=> .inr ⟨beq_iff_eq.1 h,hw,rfl⟩) λh=> .inl ⟨beq_eq_false_iff_ne.1 h,hw,rfl⟩⟩
  rw[ht];exact apZ x hD hq rfl (.inl ⟨Nat.le_of_ble_eq_true h,rfl⟩)
 ·refine⟨by unfold I64;omega,⟨x.a.d,x.ln+x.p,0,⟨λq=>x.blk.enc (64*x.p+q),0,64,64⟩⟩,⟨o1,by show x.ln+x.p<x.a.d.n;omega,⟨aY _,show 64<1099511627776 by decide,λk=>aiM _ (by omega)⟩,aY _⟩,⟨rfl,rfl,rfl,rfl⟩,⟨rfl,rfl,λq hq=> ?_⟩,by unfold I64;omega,by unfold I64;omega,bf (λh=> .inr ⟨beq_iff_eq.1 h,hw,rfl⟩) λh=> .inl ⟨beq_eq_false_iff_ne.1 h,hw,rfl⟩⟩
  rw[ht];exact apZ x hD hq rfl (.inr ⟨Nat.not_le.1 λhh=>(by rw[Nat.ble_eq_true_of_le hh]at h;cases h),rfl⟩)
theorem avn{b:ZBlk}(h:b.may)(hk:b.kind=1):b.key.size<=16/\b.value.size<=400:=by
 rcases h.2 with h|h|h|h<;>first|(exfalso;have:=h.1;omega)|exact⟨h.2.2.1,h.2.2.2.1⟩
noncomputable def ZPr.de(x:ZPr):ZDm:=⟨x.b.cls,x.b.id,x.b.ver,x.b.epoch,x.b.key,x.b.value,x.b.enc⟩
theorem avo{x:ZPr}(hk:x.b.kind=1):x.de.b=x.b:=by
 unfold ZPr.de ZDm.b;rw[<-hk]
theorem YE(x:ZPr)(hx:x.ok/\x.p=0):ajU x:=by
 obtain⟨⟨o1,o2,o3,o4,o5,o6⟩,hp⟩:=hx;have hs:=oN x.b;have h1:=yU o2;have hde:=avo o3;have hv:=avn o2 o3;have hn:=o1.1;have by_: ∀q,q<64->x.b.enc q=x.a.d.b (x.ln*193+q):=λq hq=>by
  rw[<-o6 q (by omega),show q/64=0 by omega,show q%64=q by omega,aI]
 unfold ajU;simp only[lg,bZ,dY,bQ,gy,kZ,iV,ny,Aw,F5,Ns,Nh,jk,qy,Jo,BP];simp only[aZ,aV,aU,aA,aI,bU,bG,aO,aK,ay,aX,aW,bV,bH,bJ,bK,bW,bC,bM,bn,eY,aH,aN,ah,ak,aB,aF,aC,aG];refine⟨by decide,by unfold I64;omega,⟨x.a.d,x.ln⟩,⟨o1,by show x.ln<x.a.d.n;omega⟩,by show(x.ln:Int)=x.ln+0;omega,rfl,by decide,by decide,by unfold I64;omega,bf (λh=> .inl ⟨by simpa using h,by_,rfl⟩) λh=> ?_⟩;have hc:1=spn x.b.cls:=by simpa using h
 have hsn:x.b.dL=1:=by omega
 have he:64*x.de.b.dL=64:=by rw[hde,hsn]
 refine⟨x.de,⟨by rw[hde];exact o2,by show x.b.key.size<_;omega,by show x.b.value.size<_;omega,λk _=>by rw[hde];rfl⟩,he,⟨he,λq hq=>by_ q (by omega)⟩,?_⟩;rw[show(x.de.id==x.b.id)=true from beq_self_eq_true _,show(x.de.ver==x.b.ver)=true from beq_self_eq_true _,show(x.de.key.toList==x.b.key.toList)=true from beq_self_eq_true _,kQ,kQ,Bool.not_true,iE];exact .inr ⟨hc,rfl,rfl⟩
theorem YF(x:ZPr)(hx:x.ok/\x.p≠0):ajW x:=by
 obtain⟨⟨o1,o2,o3,o4,o5,o6⟩,hp⟩:=hx;have hs:=oN x.b;have h1:=yU o2;have hde:=avo o3;have hv:=avn o2 o3;have hn:=o1.1;unfold ajW;simp only[lg,FY,bZ,dY,bQ,gy,tq,kZ,iV,Au,ny,Yb,F5,Ns,X8,Nc,jk,Aw,qy,Jo,BP];simp only[aZ,aV,aU,aA,aI,bU,bG,aO,aK,ay,aX,aW,bV,bH,bJ,bK,bW,bC,bM,bn,eY,aH,aN,ah,ak,aB,aF,aC,aG];have hb:Nat.beq (64*x.p) 0=false:=Bool.eq_false_iff.2 λh=>absurd (au h) (by omega)
 simp only[hb];refine⟨aY _,by omega,by omega,by unfold I64;omega,⟨x.a.d,x.ln+x.p⟩,⟨o1,by show x.ln+x.p<x.a.d.n;omega⟩,rfl,rfl,?_⟩;have row: ∀q,q<64*(x.p+1)->x.b.enc q=bif Nat.blt q (64*x.p)then x.b.enc q else x.a.d.b ((x.ln+x.p)*193+(q-64*x.p)):=λq hq=>by
  by_cases hh:q<64*x.p
  ·rw[bg.2 hh];rfl
  ·rw[show Nat.blt q (64*x.p)=false by rw[bY];exact decide_eq_false hh,aQ,<-o6 q (by omega),show q/64=x.p by omega,show q%64=q-64*x.p by omega]
 refine⟨by omega,by omega,by unfold I64;omega,bf (λh=> .inl ⟨by simpa using h,by omega,⟨by omega,row⟩,rfl⟩) λh=> ?_⟩;have hc:(x.p:Int)+1=spn x.b.cls:=by simpa using h
 have hsn:x.b.dL=x.p+1:=by omega
 have he:64*x.de.b.dL=64*x.p+64:=by rw[hde,hsn];omega
 refine⟨x.de,⟨by rw[hde];exact o2,by show x.b.key.size<_;omega,by show x.b.value.size<_;omega,λk _=>by rw[hde];rfl⟩,he,⟨he,λq hq=>row q (by omega)⟩,?_⟩;rw[show(x.de.id==x.b.id)=true from beq_self_eq_true _,show(x.de.ver==x.b.ver)=true from beq_self_eq_true _,show(x.de.key.toList==x.b.key.toList)=true from beq_self_eq_true _,kQ,kQ,Bool.not_true,iE];exact .inr ⟨hc,rfl,rfl⟩
theorem Tn(x:ZPp)(hx:(x.pt 2).ok 2 false):Yd x:=by
 unfold Yd;simp only[tH,tu,tC,Nu,bZ,dY,bQ,jk,Az,lg];simp only[aZ,aV,aU,aA,aI,bU,bG,aO,aK,ay,aX,aW,bV,bH,bJ,bK,bW,bC,bM,bn,eY,aH,aN,ah,ak,aB,aF,aC,aG];refine⟨by decide,x.pt 2,hx,⟨rfl,rfl⟩,⟨rfl,rfl,rfl,rfl,rfl,rfl,rfl,rfl,rfl,rfl⟩,?_⟩
 repeat' (first|exact rfl|decide|refine And.intro ?_ ?_)
theorem Tq(x:ZPp)(hx:(x.pt 2).bad false):Ye x:=by
 unfold Ye;simp only[tH,tu,tC,Np,Nu,Nj,Ya,X9,iV,qy,BP,bQ,bZ,dY,gy,jG,kZ,jk,Az,lg];simp only[aZ,aV,aU,aA,aI,bU,bG,aO,aK,ay,aX,aW,bV,bH,bJ,bK,bW,bC,bM,bn,eY,aH,aN,ah,ak,aB,aF,aC,aG];refine⟨by decide,x.pt 2,hx,⟨rfl,rfl⟩,⟨rfl,rfl,rfl,rfl,rfl,rfl,rfl,rfl,rfl,rfl,rfl⟩,x.a.ck,⟨hx.2.1,hx.1⟩,?_⟩
 repeat' (first|exact rfl|decide|refine And.intro ?_ ?_)
theorem Tt(x:ZPp)(hx:(x.pt 2).ok 2 true):Yf x:=by
 unfold Yf;simp only[tH,tu,tC,Nq,ajO,bZ,dY,bQ,jk,Az,lg];simp only[aZ,aV,aU,aA,aI,bU,bG,aO,aK,ay,aX,aW,bV,bH,bJ,bK,bW,bC,bM,bn,eY,aH,aN,ah,ak,aB,aF,aC,aG];refine⟨by decide,x.pt 2,hx,⟨rfl,rfl⟩,⟨rfl,rfl,rfl,rfl,rfl,rfl,rfl,rfl,rfl,rfl⟩,?_⟩
 repeat' (first|exact rfl|decide|refine And.intro ?_ ?_)
theorem Tv(x:ZPp)(hx:(x.pt 2).bad true):Yg x:=by
 unfold Yg;simp only[tH,tu,tC,Np,Nq,Nj,Ya,X9,iV,qy,BP,bQ,bZ,dY,gy,jG,kZ,jk,Az,lg];simp only[aZ,aV,aU,aA,aI,bU,bG,aO,aK,ay,aX,aW,bV,bH,bJ,bK,bW,bC,bM,bn,eY,aH,aN,ah,ak,aB,aF,aC,aG];refine⟨by decide,x.pt 2,hx,⟨rfl,rfl⟩,⟨rfl,rfl,rfl,rfl,rfl,rfl,rfl,rfl,rfl,rfl,rfl⟩,x.a.ck,⟨hx.2.1,hx.1⟩,?_⟩
 repeat' (first|exact rfl|decide|refine And.intro ?_ ?_)
theorem YG(x:ZPs):ajY x:=by
 unfold ajY;simp only[Nk,bZ,dY,bQ,jG,kZ,jk]
 first|done|(simp only[aZ,aV,aU,aA,aI,bU,bG,aO,aK,ay,aX,aW,bV,bH,bJ,bK,bW,bC,bM,bn,eY,aH,aN,ah,ak,aB,aF,aC,aG];done)|(simp only[aZ,aV,aU,aA,aI,bU,bG,aO,aK,ay,aX,aW,bV,bH,bJ,bK,bW,bC,bM,bn,eY,aH,aN,ah,ak,aB,aF,aC,aG];decide)
theorem YH(x:ZPs):aj0 x:=by
 unfold aj0;simp only[Nk,bZ,dY,bQ,jG,kZ,jk]
 first|done|(simp only[aZ,aV,aU,aA,aI,bU,bG,aO,aK,ay,aX,aW,bV,bH,bJ,bK,bW,bC,bM,bn,eY,aH,aN,ah,ak,aB,aF,aC,aG];done)|(simp only[aZ,aV,aU,aA,aI,bU,bG,aO,aK,ay,aX,aW,bV,bH,bJ,bK,bW,bC,bM,bn,eY,aH,aN,ah,ak,aB,aF,aC,aG];decide)
theorem abm:dZ Tryz.prog asU:= .append jB (.cons Ld (.cons (bP asQ) (.cons (bP arx) .nil)))
theorem YI:cO Tryz.prog 34 (FW 2).ctr:=dh dG mixed aaT 11 noA 200 6 (λ_=>⟨rfl,rfl,rfl,rfl⟩) λx hx=>Eq.mp (ajT x) (YD x (aZ.1 hx))
theorem aeo:cO Tryz.prog 34 FX.ctr:=dh dG mixed aaT 11 noA 200 6 (λ_=>⟨rfl,rfl,rfl,rfl⟩) λx hx=>Eq.mp (aoz x) (aen x (aZ.1 hx))
theorem Tz:cO Tryz.prog 34 Jm.ctr:=dh dG mixed abm 11 noA 200 6 (λ_=>⟨rfl,rfl,rfl,rfl⟩) λx hx=>Eq.mp (ajV x) (YE x (aZ.1 hx))
theorem TA:cO Tryz.prog 34 Tm.ctr:=dh dG mixed abm 12 noA 200 6 (λ_=>⟨rfl,rfl,rfl,rfl⟩) λx hx=>Eq.mp (ajX x) (YF x (aZ.1 hx))
theorem aer:dZ Tryz.prog (aox 2 false):= .append jB (.cons (bP aos) .nil)
theorem aes:dZ Tryz.prog (aoy 2 false):= .append jB (.cons (bP aou) (.cons (bP uY) .nil))
theorem aks:cO Tryz.prog 34 (Na 2 false):=dM dG mixed aer noA 200 6 (λ_=>rfl) (λ_=>rfl) λx hx=>Eq.mp (aeg x) (Tn x (aZ.1 hx))
theorem akt:cO Tryz.prog 34 (Nb 2 false).ctr:=dh dG mixed aes 11 noA 200 6 (λ_=>⟨rfl,rfl,rfl,rfl⟩) λx hx=>Eq.mp (aeh x) (Tq x (aZ.1 hx))
theorem aeu:dZ Tryz.prog (aox 2 true):= .append jB (.cons (bP aot) .nil)
theorem aev:dZ Tryz.prog (aoy 2 true):= .append jB (.cons (bP aov) (.cons (bP uY) .nil))
theorem aku:cO Tryz.prog 34 (Na 2 true):=dM dG mixed aeu noA 200 6 (λ_=>rfl) (λ_=>rfl) λx hx=>Eq.mp (aei x) (Tt x (aZ.1 hx))
theorem akv:cO Tryz.prog 34 (Nb 2 true).ctr:=dh dG mixed aev 11 noA 200 6 (λ_=>⟨rfl,rfl,rfl,rfl⟩) λx hx=>Eq.mp (aej x) (Tv x (aZ.1 hx))
theorem akw:cO Tryz.prog 34 (y7 1):=dM dG mixed jB noA 200 6 (λ_=>rfl) (λ_=>rfl) λx _=>Eq.mp (ajZ x) (YG x)
theorem akx:cO Tryz.prog 34 (y7 2):=dM dG mixed jB noA 200 6 (λ_=>rfl) (λ_=>rfl) λx _=>Eq.mp (aj1 x) (YH x)
def aky(a:ZSto)(b:Lks):Prop:=ownM a.b.os=ownM a.b.os/\tabA a.L=tabA b/\ordA a.L=ordA a.L/\ownM a.l.os=ownM a.l.os/\(Nat.beq a.n 0=Nat.beq a.n 0/\a.n=a.n/\ ∀q:Nat,q<a.n->[Value.int .i64 (ZEff.kind (a.e q)),Value.string (ZEff.key (a.e q)),Value.string (ZEff.value (a.e q)),Value.int .u64 (ZEff.id (a.e q)),Value.int .u64 (ZEff.ver (a.e q)),Value.int .u64 (ZEff.epoch (a.e q)),Value.int .i64 (ZEff.group (a.e q))]=[Value.int .i64 (ZEff.kind (a.e q)),Value.string (ZEff.key (a.e q)),Value.string (ZEff.value (a.e q)),Value.int .u64 (ZEff.id (a.e q)),Value.int .u64 (ZEff.ver (a.e q)),Value.int .u64 (ZEff.epoch (a.e q)),Value.int .i64 (ZEff.group (a.e q))])/\True
def YJ(a:ZSto):Prop:=0=0/\0=0/\0=0/\0=0/\0=0/\0=0/\0=0/\0=0/\a.id=a.id/\a.ver=a.ver/\(Nat.beq a.n 0=Nat.beq a.n 0/\a.n=a.n)/\True
def jJ(a:ZSto)(b:Lks):Prop:=YJ a/\(0=0/\(1:Int)=1/\(0:Int)=0/\(0:Int)=0/\True)/\ownM a.d.os=ownM a.d.os/\ownM a.p.os=ownM a.p.os/\ownM a.r.os=ownM a.r.os/\ownM a.ck.os=ownM a.ck.os/\aky a b
def fO:Prop:=Value.slice none 0 0=Value.slice none 0 0
def y9(a:ZFp)(b:ZFp):Prop:=fO/\(0:Int)=0/\fO/\a.code=b.code/\a.found=b.found/\a.ans=b.ans/\fO/\fO/\a.aep=b.aep/\True
def YK(a:ZFp)(b:ZFp):Prop:=a.cls=b.cls/\a.piece=b.piece/\y9 a b
def AZ(a:ZFp)(b:ZFp):Prop:=a.line=b.line/\YK a b
def NU(a:ZFp)(b:ZFp):Prop:=(0:Int)=0/\a.had=b.had/\a.old.key=b.old.key/\a.old.id=b.old.id/\a.old.ver=b.old.ver/\a.old.line=b.old.line/\a.old.cls=b.old.cls/\AZ a b
def NV(a:ZFp)(b:ZFp):Prop:=a.key=b.key/\a.value=b.value/\a.to=b.to/\fO/\(1:Int)=1/\a.epoch=b.epoch/\a.pos=b.pos/\a.past=b.past/\NU a b
def NW(a:ZFp)(b:ZFp)(c:ByteArray)(d:ByteArray):Prop:=a.key=b.key/\a.value=b.value/\a.to=b.to/\fO/\(1:Int)=1/\a.epoch=b.epoch/\c=d/\true=true/\NU a b
def NY(a:ZFp)(b:ZFp):Prop:=a.epoch=b.epoch/\a.pos=b.pos/\a.past=b.past/\(0:Int)=0/\false=false/\ByteArray.mk #[]=ByteArray.mk #[]/\(0:Int)=0/\(0:Int)=0/\(0:Int)=0/\(0:Int)=0/\AZ a b
def NZ(a:ZFp)(b:ZFp)(c:ByteArray):Prop:=a.epoch=b.epoch/\a.pos=c/\a.past=true/\(0:Int)=0/\false=b.had/\ByteArray.mk #[]=b.old.key/\0=b.old.id/\0=b.old.ver/\0=b.old.line/\0=b.old.cls/\AZ a b
def N7(a:ZFp)(b:ZFp)(c:ByteArray):Prop:=a.epoch=b.epoch/\c=b.pos/\true=b.past/\(0:Int)=0/\a.had=false/\a.old.key=ByteArray.mk #[]/\a.old.id=0/\a.old.ver=0/\a.old.line=0/\a.old.cls=0/\AZ a b
def YL:Prop:=True/\True/\True/\0=0/\True/\True/\True/\True/\True/\True
def N8(a:Lks)(b:Lks):Prop:=(True/\True/\YL)/\tabA a=tabA b/\True
def YM(a:ZFp)(b:ZFp):Prop:=a.line=b.line/\a.cls=b.cls/\ite ((1:Int)=1) (0:Int) a.piece=b.piece/\y9 a b
def YN(a:ZFp)(b:ZFp):Prop:=a.line=b.line/\a.cls=b.cls/\a.piece=ite ((1:Int)=1) (0:Int) b.piece/\y9 a b
def YO(a:ZFp)(b:ZFp):Prop:=a.line=b.line/\a.cls=b.cls/\ite ((2:Int)=1) (0:Int) a.piece=b.piece/\y9 a b
def YP(a:ZFp)(b:ZFp):Prop:=a.line=b.line/\a.cls=b.cls/\a.piece=ite ((2:Int)=1) (0:Int) b.piece/\y9 a b
def akz(x:ZPs):Prop:=
 ∃x_1:ZPs,Hd (x_1.f.key.size<1099511627776/\x_1.f.pos.size<1099511627776/\((1:Int)=3->x_1.miss->x_1.f.line<0))/\(0=0/\(x_1.t:Int)=(x.t:Int)/\((1:Int)=1/\NV x_1.f x.f)/\True)/\N8 x_1.a.L x.a.L/\(∀y:ZLnk,Hd (x_1.goes y)->(∃y_1:ZLnk,Hd (x.goes y_1)/\((1:Int)=1/\NW x.f x_1.f y_1.key y.key)/\jJ x.a x_1.a.L)\/(∃y_1:ZLnk,Hd (x.hit y_1)/\((1:Int)=1/\x.f.key=x_1.f.key/\x.f.value=x_1.f.value/\x.f.to=x_1.f.to/\fO/\nx3 x.f (1:Int) true=1/\x.f.epoch=x_1.f.epoch/\x.f.pos=y.key/\x.f.past=true/\(0:Int)=0/\true=x_1.f.had/\y_1.key=x_1.f.old.key/\y_1.id=x_1.f.old.id/\y_1.ver=x_1.f.old.ver/\y_1.line=x_1.f.old.line/\y_1.cls=x_1.f.old.cls/\YM x.f x_1.f)/\jJ x.a x_1.a.L)\/ ∃y_1:Unit,Hd x.miss/\((1:Int)=1/\x.f.key=x_1.f.key/\x.f.value=x_1.f.value/\x.f.to=x_1.f.to/\fO/\nx3 x.f (1:Int) false=1/\NZ x.f x_1.f y.key)/\jJ x.a x_1.a.L)/\(∀y:ZLnk,Hd (x_1.hit y)->(∃y_1:ZLnk,Hd (x.goes y_1)/\((1:Int)=1/\x.f.key=x_1.f.key/\x.f.value=x_1.f.value/\x.f.to=x_1.f.to/\fO/\1=nx3 x_1.f (1:Int) true/\x.f.epoch=x_1.f.epoch/\y_1.key=x_1.f.pos/\true=x_1.f.past/\(0:Int)=0/\x.f.had=true/\x.f.old.key=y.key/\x.f.old.id=y.id/\x.f.old.ver=y.ver/\x.f.old.line=y.line/\x.f.old.cls=y.cls/\YN x.f x_1.f)/\jJ x.a x_1.a.L)\/(∃y_1:ZLnk,Hd (x.hit y_1)/\((1:Int)=1/\x.f.key=x_1.f.key/\x.f.value=x_1.f.value/\x.f.to=x_1.f.to/\fO/\nx3 x.f (1:Int) true=nx3 x_1.f (1:Int) true/\x.f.epoch=x_1.f.epoch/\x.f.pos=x_1.f.pos/\x.f.past=x_1.f.past/\(0:Int)=0/\true=true/\y_1.key=y.key/\y_1.id=y.id/\y_1.ver=y.ver/\y_1.line=y.line/\
 y_1.cls=y.cls/\x.f.line=x_1.f.line/\x.f.cls=x_1.f.cls/\ite ((1:Int)=1) (0:Int) x.f.piece=ite ((1:Int)=1) (0:Int) x_1.f.piece/\y9 x.f x_1.f)/\jJ x.a x_1.a.L)\/ ∃y_1:Unit,Hd x.miss/\((1:Int)=1/\x.f.key=x_1.f.key/\x.f.value=x_1.f.value/\x.f.to=x_1.f.to/\fO/\nx3 x.f (1:Int) false=nx3 x_1.f (1:Int) true/\x.f.epoch=x_1.f.epoch/\x.f.pos=x_1.f.pos/\x.f.past=x_1.f.past/\(0:Int)=0/\false=true/\ByteArray.mk #[]=y.key/\0=y.id/\0=y.ver/\0=y.line/\0=y.cls/\YN x.f x_1.f)/\jJ x.a x_1.a.L)/\ ∀y:Unit,Hd x_1.miss->(∃y_1:ZLnk,Hd (x.goes y_1)/\((1:Int)=1/\x.f.key=x_1.f.key/\x.f.value=x_1.f.value/\x.f.to=x_1.f.to/\fO/\1=nx3 x_1.f (1:Int) false/\N7 x.f x_1.f y_1.key)/\jJ x.a x_1.a.L)\/(∃y_1:ZLnk,Hd (x.hit y_1)/\((1:Int)=1/\x.f.key=x_1.f.key/\x.f.value=x_1.f.value/\x.f.to=x_1.f.to/\fO/\nx3 x.f (1:Int) true=nx3 x_1.f (1:Int) false/\x.f.epoch=x_1.f.epoch/\x.f.pos=x_1.f.pos/\x.f.past=x_1.f.past/\(0:Int)=0/\true=false/\y_1.key=ByteArray.mk #[]/\y_1.id=0/\y_1.ver=0/\y_1.line=0/\y_1.cls=0/\YM x.f x_1.f)/\jJ x.a x_1.a.L)\/ ∃y_1:Unit,Hd x.miss/\((1:Int)=1/\x.f.key=x_1.f.key/\x.f.value=x_1.f.value/\x.f.to=x_1.f.to/\fO/\nx3 x.f (1:Int) false=nx3 x_1.f (1:Int) false/\NY x.f x_1.f)/\jJ x.a x_1.a.L
theorem akA(x:ZPs):akz x=ctrT (vJ 1) ((sW 1).args x) (hO 11 (flatP 1 ((sW 1).l x))) (λv h'=>endsPK 1 x v h' (sW 1).outs):=by kernel_rfl
def akB(x:ZPs):Prop:=
 ∃x_1:ZPs,Hd (x_1.f.key.size<1099511627776/\x_1.f.pos.size<1099511627776/\((2:Int)=3->x_1.miss->x_1.f.line<0))/\(0=0/\(x_1.t:Int)=(x.t:Int)/\((2:Int)=2/\NV x_1.f x.f)/\True)/\N8 x_1.a.L x.a.L/\(∀y:ZLnk,Hd (x_1.goes y)->(∃y_1:ZLnk,Hd (x.goes y_1)/\((2:Int)=2/\NW x.f x_1.f y_1.key y.key)/\jJ x.a x_1.a.L)\/(∃y_1:ZLnk,Hd (x.hit y_1)/\((2:Int)=2/\x.f.key=x_1.f.key/\x.f.value=x_1.f.value/\x.f.to=x_1.f.to/\fO/\nx3 x.f (2:Int) true=1/\x.f.epoch=x_1.f.epoch/\x.f.pos=y.key/\x.f.past=true/\(0:Int)=0/\true=x_1.f.had/\y_1.key=x_1.f.old.key/\y_1.id=x_1.f.old.id/\y_1.ver=x_1.f.old.ver/\y_1.line=x_1.f.old.line/\y_1.cls=x_1.f.old.cls/\YO x.f x_1.f)/\jJ x.a x_1.a.L)\/ ∃y_1:Unit,Hd x.miss/\((2:Int)=2/\x.f.key=x_1.f.key/\x.f.value=x_1.f.value/\x.f.to=x_1.f.to/\fO/\nx3 x.f (2:Int) false=1/\NZ x.f x_1.f y.key)/\jJ x.a x_1.a.L)/\(∀y:ZLnk,Hd (x_1.hit y)->(∃y_1:ZLnk,Hd (x.goes y_1)/\((2:Int)=2/\x.f.key=x_1.f.key/\x.f.value=x_1.f.value/\x.f.to=x_1.f.to/\fO/\1=nx3 x_1.f (2:Int) true/\x.f.epoch=x_1.f.epoch/\y_1.key=x_1.f.pos/\true=x_1.f.past/\(0:Int)=0/\x.f.had=true/\x.f.old.key=y.key/\x.f.old.id=y.id/\x.f.old.ver=y.ver/\x.f.old.line=y.line/\x.f.old.cls=y.cls/\YP x.f x_1.f)/\jJ x.a x_1.a.L)\/(∃y_1:ZLnk,Hd (x.hit y_1)/\((2:Int)=2/\x.f.key=x_1.f.key/\x.f.value=x_1.f.value/\x.f.to=x_1.f.to/\fO/\nx3 x.f (2:Int) true=nx3 x_1.f (2:Int) true/\x.f.epoch=x_1.f.epoch/\x.f.pos=x_1.f.pos/\x.f.past=x_1.f.past/\(0:Int)=0/\true=true/\y_1.key=y.key/\y_1.id=y.id/\y_1.ver=y.ver/\y_1.line=y.line/\
 y_1.cls=y.cls/\x.f.line=x_1.f.line/\x.f.cls=x_1.f.cls/\ite ((2:Int)=1) (0:Int) x.f.piece=ite ((2:Int)=1) (0:Int) x_1.f.piece/\y9 x.f x_1.f)/\jJ x.a x_1.a.L)\/ ∃y_1:Unit,Hd x.miss/\((2:Int)=2/\x.f.key=x_1.f.key/\x.f.value=x_1.f.value/\x.f.to=x_1.f.to/\fO/\nx3 x.f (2:Int) false=nx3 x_1.f (2:Int) true/\x.f.epoch=x_1.f.epoch/\x.f.pos=x_1.f.pos/\x.f.past=x_1.f.past/\(0:Int)=0/\false=true/\ByteArray.mk #[]=y.key/\0=y.id/\0=y.ver/\0=y.line/\0=y.cls/\YP x.f x_1.f)/\jJ x.a x_1.a.L)/\ ∀y:Unit,Hd x_1.miss->(∃y_1:ZLnk,Hd (x.goes y_1)/\((2:Int)=2/\x.f.key=x_1.f.key/\x.f.value=x_1.f.value/\x.f.to=x_1.f.to/\fO/\1=nx3 x_1.f (2:Int) false/\N7 x.f x_1.f y_1.key)/\jJ x.a x_1.a.L)\/(∃y_1:ZLnk,Hd (x.hit y_1)/\((2:Int)=2/\x.f.key=x_1.f.key/\x.f.value=x_1.f.value/\x.f.to=x_1.f.to/\fO/\nx3 x.f (2:Int) true=nx3 x_1.f (2:Int) false/\x.f.epoch=x_1.f.epoch/\x.f.pos=x_1.f.pos/\x.f.past=x_1.f.past/\(0:Int)=0/\true=false/\y_1.key=ByteArray.mk #[]/\y_1.id=0/\y_1.ver=0/\y_1.line=0/\y_1.cls=0/\YO x.f x_1.f)/\jJ x.a x_1.a.L)\/ ∃y_1:Unit,Hd x.miss/\((2:Int)=2/\x.f.key=x_1.f.key/\x.f.value=x_1.f.value/\x.f.to=x_1.f.to/\fO/\nx3 x.f (2:Int) false=nx3 x_1.f (2:Int) false/\NY x.f x_1.f)/\jJ x.a x_1.a.L
theorem akC(x:ZPs):akB x=ctrT (vJ 2) ((sW 2).args x) (hO 11 (flatP 1 ((sW 2).l x))) (λv h'=>endsPK 1 x v h' (sW 2).outs):=by kernel_rfl
theorem YQ(x:ZPs)(hx:(sW 1).pre x):akz x:=by
 unfold akz;simp only[NV,N8,NW,jJ,fO,YM,NZ,YN,y9,N7,NY,AZ,YK,YJ,aky,NU,YL];simp only[aZ,aV,aU,aA,aI,bU,bG,aO,aK,ay,aX,aW,bV,bH,bJ,bK,bW,bC,bM,bn,eY,aH,aN,ah,ak,aB,aF,aC,aG];refine⟨x,aZ.1 hx,?_,?_,?_,?_,?_⟩
 ·simp
 ·rfl
 ·exactλy h=> .inl ⟨y,h,by simp,by simp⟩
 ·exactλy h=> .inr (.inl ⟨y,h,by simp,by simp⟩)
 ·exactλh=> .inr (.inr ⟨h,by simp,by simp⟩)
theorem YR(x:ZPs)(hx:(sW 2).pre x):akB x:=by
 unfold akB;simp only[NV,N8,NW,jJ,fO,YO,NZ,YP,y9,N7,NY,AZ,YK,YJ,aky,NU,YL];simp only[aZ,aV,aU,aA,aI,bU,bG,aO,aK,ay,aX,aW,bV,bH,bJ,bK,bW,bC,bM,bn,eY,aH,aN,ah,ak,aB,aF,aC,aG];refine⟨x,aZ.1 hx,?_,?_,?_,?_,?_⟩
 ·simp
 ·rfl
 ·exactλy h=> .inl ⟨y,h,by simp,by simp⟩
 ·exactλy h=> .inr (.inl ⟨y,h,by simp,by simp⟩)
 ·exactλh=> .inr (.inr ⟨h,by simp,by simp⟩)
theorem TB:cO Tryz.prog 34 (sW 1).ctr:=iU (bP akr) 11 (λ_=>⟨rfl,rfl,rfl,rfl⟩) λx hx=>Eq.mp (akA x) (YQ x hx)
theorem akD:cO Tryz.prog 34 (sW 2).ctr:=iU (bP aem) 11 (λ_=>⟨rfl,rfl,rfl,rfl⟩) λx hx=>Eq.mp (akC x) (YR x hx)
structure ZKs where
 a:ZSto
 f:ZFp
 ph:Int
namespace ZKs
def ps(s:ZKs)(t:Nat):ZPs:=⟨s.a,s.f,t⟩
def pp(s:ZKs)(t ln:Nat):ZPp:=⟨s.a,s.f,t,ln⟩
end ZKs
def wP(k:Int)(t:Nat)(b:ZBlk)(n:Nat)(s:ZKs)(Q:Nat->ZKs->Prop):Prop:=
 (s.ph=0/\n=0/\(s.a.r.ok/\s.a.c.ok/\s.a.ph<=4/\t<s.a.r.t/\s.a.r.has t=0)/\(goodP k s.f.key s.f.value≠0->Q 0 ⟨s.a,{s.f with code:=goodP k s.f.key s.f.value},7⟩)/\(goodP k s.f.key s.f.value=0->Q 0 ⟨s.a.vI t s.a.r.now,{s.f with epoch:=s.a.c.now},1⟩))\/
 (s.ph=1/\n=0/\(s.f.key.size<1099511627776/\s.f.pos.size<1099511627776/\(k=3->(s.ps t).miss->s.f.line<0))/\(∀y,(s.ps t).goes y->Q 0 ⟨s.a,{s.f with pos:=y.key,past:=true},1⟩)/\(∀y,(s.ps t).hit y->Q 0 ⟨s.a,{s.f with had:=true,old:=y,piece:=if k=1 then 0 else s.f.piece},nx3 s.f k true⟩)/\((s.ps t).miss->Q 0 ⟨s.a,{s.f with had:=false,old:=iQ},nx3 s.f k false⟩))\/
 (s.ph=1/\n=0/\k=3/\ ∃i j,(s.f.key.size<1099511627776/\s.f.pos.size<1099511627776/\fP.ok ⟨s.a.p,i,j⟩/\(s.ps t).miss)/\s.f.line=fP.line ⟨s.a.p,i,j⟩/\Q 0 ⟨s.a.X3 (s.a.p.give i j),{s.f with had:=false,old:=iQ,line:= -1},6⟩)\/
 (s.ph=2/\k=1/\ ∃ln:Nat,s.f=(ZPr.mk s.a s.f t b ln n).fr n/\(ZPr.mk s.a s.f t b ln n).ok/\(n+1≠spn b.cls->Q (n+1) ⟨s.a,{s.f with piece:=(n+1:Nat)},2⟩)/\(n+1=spn b.cls->Q 0 ⟨s.a,{s.f with piece:=(n+1:Nat),found:=true,ans:=b.value},6⟩))\/
 (s.ph=3/\n=0/\(k=2\/k=3)/\(s.a.p.ok/\s.f.key.size<=16/\s.f.value.size<=400)/\((∀i,i<s.a.p.n->s.a.p.cls i≠ -1/\s.a.p.full ((s.ps t).nd k) i)->Q 0 ⟨s.a,{s.f with cls:=(s.ps t).nd k,code:=4},6⟩)/\
  ∀i j:Nat,s.a.p.takes ((s.ps t).nd k) i j->Q 0 ⟨s.a.X3 (s.a.p.take ((s.ps t).nd k) i j),{s.f with cls:=(s.ps t).nd k,line:=2+i*8+j*spn ((s.ps t).nd k),piece:=0},4⟩)\/
 (s.ph=4/\n=0/\ ∃ln p:Nat,(k=2\/k=3/\p=0)/\s.f=(ZPw.mk s.a s.f t ln s.f.cls p).fr p/\(ZPw.mk s.a s.f t ln s.f.cls p).ok/\(p+1≠spn s.f.cls->Q 0 ⟨s.a.Gx (ZPw.mk s.a s.f t ln s.f.cls p).d',{s.f with piece:=(p+1:Nat)},4⟩)/\(p+1=spn s.f.cls->Q 0 ⟨s.a.Gx (ZPw.mk s.a s.f t ln s.f.cls p).d',{s.f with piece:=0},5⟩))\/
 (s.ph=5/\n=0/\(k=2\/k=3/\s.f.had=true)/\ ∃ln:Nat,s.f.line=ln/\((s.pp t ln).pt k).ok k s.f.had/\Q 0 ⟨((s.pp t ln).pt k).cg.res k s.f.had,{s.f with found:=s.f.had,aep:=s.f.epoch,line:= -1},6⟩)\/
 (s.ph=5/\n=0/\(k=2\/k=3/\s.f.had=true)/\ ∃ln:Nat,s.f.line=ln/\((s.pp t ln).pt k).bad s.f.had/\Q 0 ⟨s.a,{s.f with epoch:=s.a.c.now,pos:=emp,past:=false,had:=false,old:=iQ},1⟩)\/
 (s.ph=6/\n=0/\(s.a.r.ok/\t<s.a.r.t)/\Q 0 ⟨s.a.vI t 0,s.f,7⟩)\/
 (s.ph=7/\n=0/\Q 0 s)
structure ZWk where
 s:ZKs
 t:Nat
 b:ZBlk
 n:Nat
 q:Nat->ZKs->Prop
noncomputable def TF(k:Int):Ctr:={X:=ZWk,args:=λx=>[.ptr 0 0,i64 x.t,x.s.f.av k x.s.ph gQ],k:=1,os:=λx=>[.abs (ownM x.s.a.os)],pre:=λx=>Hd (x.n=0/\wP k x.t x.b 0 x.s x.q),outs:=[
 {Y:=ZKs,post:=λx y=>Hd (x.q 0 y),ret:=λ_ y=>y.f.av k y.ph gQ,m:=1,os:=λ_ y=>[.abs (ownM y.a.os)]},
 {Y:=ZKs,post:=λx y=>Hd (x.q 1 y/\y.ph=2/\k=1),ret:=λ_ y=>y.f.av k 2 (.slW 1 0 1 64),m:=2,os:=λx y=>[.abs (ownM y.a.os),aaQ x.b.enc 64]}]}
noncomputable def abn(k:Int):Ctr:={X:=ZWk,args:=λx=>[.ptr 0 0,i64 x.t,x.s.f.av k x.s.ph gQ],k:=1,os:=λx=>[.abs (ownM x.s.a.os)],pre:=λx=>Hd (x.n=0/\wP k x.t x.b 0 x.s x.q),outs:=[
 {Y:=ZKs,post:=λx y=>Hd (x.q 0 y),ret:=λ_ y=>y.f.av k y.ph gQ,m:=1,os:=λ_ y=>[.abs (ownM y.a.os)]}]}
noncomputable def ap0:Ctr:={X:=ZWk,args:=λx=>[.ptr 0 0,i64 x.t,x.s.f.av 1 2 (.slW 1 0 1 (64*x.n))],k:=2,os:=λx=>[.abs (ownM x.s.a.os),aaQ x.b.enc (64*x.n)],pre:=λx=>Hd (x.n≠0/\x.s.ph=2/\wP 1 x.t x.b x.n x.s x.q),outs:=[
 {Y:=ZKs,post:=λx y=>Hd (x.q 0 y),ret:=λ_ y=>y.f.av 1 y.ph gQ,m:=2,os:=λx y=>[.abs (ownM y.a.os),aaQ x.b.enc (64*x.n)]},
 {Y:=ZKs,post:=λx y=>Hd (x.q (x.n+1) y/\y.ph=2),ret:=λx y=>y.f.av 1 2 (.slW 2 0 1 (64*(x.n+1))),m:=3,os:=λx y=>[.abs (ownM y.a.os),aaQ x.b.enc (64*x.n),aaQ x.b.enc (64*(x.n+1))]}]}
theorem akE{X:Type}{x:X}{v:AV}{h':Heap}{o p q:Out X}(h:kP x v h' [o,p,q]):(∃y,o.post x y/\v=o.ret x y/\h'=hO o.m (o.os x y))\/(∃y,p.post x y/\v=p.ret x y/\h'=hO p.m (p.os x y))\/ ∃y,q.post x y/\v=q.ret x y/\h'=hO q.m (q.os x y):=by
 rw[dV]at h;rcases h with h|h
 ·exact .inl h
 ·exact .inr (nZ h)
theorem abo{k:Int}(hen:cO Tryz.prog 34 (qx k).ctr)(hfi:cO Tryz.prog 34 (sW k).ctr)(hgi:k=3->cO Tryz.prog 34 avk.ctr)(hre:k=1->cO Tryz.prog 34 Jm.ctr)(hta:k=2\/k=3->cO Tryz.prog 34 (Tj k).ctr)(hwr:k=2\/k=3->cO Tryz.prog 34 (FW k).ctr)(hw1:k=2->cO Tryz.prog 34 FX.ctr)(hpu: ∀had,k=2\/k=3/\had=true->cO Tryz.prog 34 (Na k had))(hrt: ∀had,k=2\/k=3/\had=true->cO Tryz.prog 34 (Nb k had).ctr)(hle:cO Tryz.prog 34 (oP k).ctr)(hdo:cO Tryz.prog 34 (y7 k)):cO Tryz.prog 34 (TF k):=jg λx hx=>by
 obtain⟨⟨a,f,ph⟩,t,b,n,q⟩:=x;obtain⟨hn,hx⟩:=aZ.1 hx;have hn:n=0:=hn;subst hn;rcases hx with ⟨hp,_,h,q1,q2⟩|⟨hp,_,h,q1,q2,q3⟩|⟨hp,_,h3,i,j,h,hl,q1⟩|⟨hp,h1,ln,hf,h,q1,q2⟩|⟨hp,_,h3,h,q1,q2⟩|⟨hp,_,ln,p,h3,hf,h,q1,q2⟩|⟨hp,_,h3,ln,hl,h,q1⟩|⟨hp,_,h3,ln,hl,h,q1⟩|⟨hp,_,h,q1⟩|⟨hp,_,q1⟩
 all_goals (have hp:ph=_:=hp;subst hp)
 ·refine⟨_,hen,rfl,⟨a,f,t⟩,aZ.2 h,rfl,rfl,λv h' hh=> ?_⟩
  rcases nZ hh with ⟨y,h0,e1,e2⟩|⟨y,h0,e1,e2⟩
  ·exact eF ⟨⟨a,_,7⟩,aZ.2 (q1 (aZ.1 h0)),e1,e2⟩
  ·exact eF ⟨⟨a.vI t a.r.now,{f with epoch:=a.c.now},1⟩,aZ.2 (q2 (aZ.1 h0)),e1,e2⟩
 ·refine⟨_,hfi,rfl,⟨a,f,t⟩,aZ.2 h,rfl,rfl,λv h' hh=> ?_⟩
  rcases akE hh with ⟨y,h0,e1,e2⟩|⟨y,h0,e1,e2⟩|⟨y,h0,e1,e2⟩
  ·exact eF ⟨⟨a,{f with pos:=y.key,past:=true},1⟩,aZ.2 (q1 y (aZ.1 h0)),e1,e2⟩
  ·exact eF ⟨⟨a,_,_⟩,aZ.2 (q2 y (aZ.1 h0)),e1,e2⟩
  ·exact eF ⟨⟨a,_,_⟩,aZ.2 (q3 (aZ.1 h0)),e1,e2⟩
 ·subst h3
  have hl:f.line=fP.line ⟨a.p,i,j⟩:=hl;have hf:f={f with line:=fP.line ⟨a.p,i,j⟩}:=by rw[<-hl]
  refine⟨_,hgi rfl,rfl,⟨a,f,t,i,j⟩,aZ.2 h,by show [_,_,_]=[_,_,_];rw[hf];first|done|rfl,rfl,λv h' hh=> ?_⟩;obtain⟨y,h0,e1,e2⟩:=jh hh;exact eF ⟨⟨a.X3 (a.p.give i j),{f with had:=false,old:=iQ,line:= -1},6⟩,aZ.2 q1,e1,e2⟩
 ·subst h1
  have hf:f=(ZPr.mk a f t b ln 0).fr 0:=hf;refine⟨_,hre rfl,rfl,⟨a,f,t,b,ln,0⟩,aZ.2 ⟨h,rfl⟩,by show [_,_,_]=[_,_,_];rw[hf];first|done|rfl,rfl,λv h' hh=> ?_⟩;rcases nZ hh with ⟨y,h0,e1,e2⟩|⟨y,h0,e1,e2⟩
  ·exact ER ⟨⟨a,{f with piece:=(1:Nat)},2⟩,aZ.2 ⟨q1 (aZ.1 h0),rfl,rfl⟩,e1.trans (by rw[hf];first|done|rfl),e2⟩
  ·exact eF ⟨⟨a,{f with piece:=(1:Nat),found:=true,ans:=b.value},6⟩,aZ.2 (q2 (aZ.1 h0)),e1.trans (by rw[hf];first|done|rfl),e2⟩
 ·refine⟨_,hta h3,rfl,⟨a,f,t⟩,aZ.2 h,rfl,rfl,λv h' hh=> ?_⟩
  rcases nZ hh with ⟨y,h0,e1,e2⟩|⟨y,h0,e1,e2⟩
  ·exact eF ⟨⟨a,_,6⟩,aZ.2 (q1 (aZ.1 h0)),e1,e2⟩
  ·exact eF ⟨⟨_,_,4⟩,aZ.2 (q2 _ _ (aZ.1 h0)),e1,e2⟩
 ·have hf:f={f with line:=(ln:Int),cls:=f.cls,piece:=(p:Int)}:=hf
  by_cases h0:p=0
  ·subst h0
   refine⟨_,hwr (h3.imp id And.left),rfl,⟨a,f,t,ln,f.cls,0⟩,aZ.2 ⟨h,rfl⟩,by show [_,_,_]=[_,_,_];rw[hf];first|done|rfl,rfl,λv h' hh=> ?_⟩;rcases nZ hh with ⟨y,h0,e1,e2⟩|⟨y,h0,e1,e2⟩
   ·exact eF ⟨⟨a.Gx (ZPw.mk a f t ln f.cls 0).d',{f with piece:=(1:Nat)},4⟩,aZ.2 (q1 (aZ.1 h0)),e1.trans (by rw[hf];first|done|rfl),e2⟩
   ·exact eF ⟨⟨a.Gx (ZPw.mk a f t ln f.cls 0).d',{f with piece:=0},5⟩,aZ.2 (q2 (aZ.1 h0)),e1.trans (by rw[hf];first|done|rfl),e2⟩
  ·have h2:k=2:=h3.resolve_right λh=>h0 h.2
   subst h2;refine⟨_,hw1 rfl,rfl,⟨a,f,t,ln,f.cls,p⟩,aZ.2 ⟨h,h0⟩,by show [_,_,_]=[_,_,_];rw[hf];first|done|rfl,rfl,λv h' hh=> ?_⟩;rcases nZ hh with ⟨y,h0,e1,e2⟩|⟨y,h0,e1,e2⟩
   ·exact eF ⟨⟨a.Gx (ZPw.mk a f t ln f.cls p).d',{f with piece:=(p+1:Nat)},4⟩,aZ.2 (q1 (aZ.1 h0)),e1.trans (by rw[hf];first|done|rfl),e2⟩
   ·exact eF ⟨⟨a.Gx (ZPw.mk a f t ln f.cls p).d',{f with piece:=0},5⟩,aZ.2 (q2 (aZ.1 h0)),e1.trans (by rw[hf];first|done|rfl),e2⟩
 ·have hf:f={f with had:=f.had,line:=(ln:Int)}:=by
   have hl:f.line=ln:=hl;rw[<-hl]
  refine⟨_,hpu f.had h3,rfl,⟨a,f,t,ln⟩,aZ.2 h,by show [_,_,_]=[_,_,_];rw[hf];first|done|rfl,rfl,λv h' hh=> ?_⟩;obtain⟨y,h0,e1,e2⟩:=jh hh;exact eF ⟨⟨_,{f with found:=f.had,aep:=f.epoch,line:= -1},6⟩,aZ.2 q1,e1,e2⟩
 ·have hf:f={f with had:=f.had,line:=(ln:Int)}:=by
   have hl:f.line=ln:=hl;rw[<-hl]
  refine⟨_,hrt f.had h3,rfl,⟨a,f,t,ln⟩,aZ.2 h,by show [_,_,_]=[_,_,_];rw[hf];first|done|rfl,rfl,λv h' hh=> ?_⟩;obtain⟨y,h0,e1,e2⟩:=jh hh;exact eF ⟨⟨a,{f with epoch:=a.c.now,pos:=emp,past:=false,had:=false,old:=iQ},1⟩,aZ.2 q1,e1.trans (by rw[hf];first|done|rfl),e2⟩
 ·refine⟨_,hle,rfl,⟨a,f,t⟩,aZ.2 h,rfl,rfl,λv h' hh=> ?_⟩
  obtain⟨y,h0,e1,e2⟩:=jh hh;exact eF ⟨⟨a.vI t 0,f,7⟩,aZ.2 q1,e1,e2⟩
 ·refine⟨_,hdo,rfl,⟨a,f,t⟩,aZ.2 trivial,rfl,rfl,λv h' hh=> ?_⟩
  obtain⟨y,h0,e1,e2⟩:=jh hh;exact eF ⟨⟨a,f,7⟩,aZ.2 q1,e1,e2⟩
theorem aew:cO Tryz.prog 34 (TF 1):=abo Jp TB (λh=>by omega) (λ_=>Tz) (λh=>by omega) (λh=>by omega) (λh=>by omega) (λ_ h=>by omega) (λ_ h=>by omega) Jq akw
theorem aex:cO Tryz.prog 34 (TF 2):=abo aek akD (λh=>by omega) (λh=>by omega) (λ_=>akq) (λ_=>YI) (λ_=>aeo) (λhad _=>match had with
 |false=>aks
 |true=>aku) (λhad _=>match had with
 |false=>akt
 |true=>akv) ael akx
theorem akF{k:Int}(hk:k=2\/k=3)(h0:cO Tryz.prog 34 (TF k)):cO Tryz.prog 34 (abn k):=jg λx hx=>by
 refine⟨_,h0,rfl,x,hx,rfl,rfl,λv h' hh=> ?_⟩;rcases nZ hh with ⟨y,h0,e1,e2⟩|⟨y,h0,e1,e2⟩
 ·exact eF ⟨y,h0,e1,e2⟩
 ·have:=(aZ.1 h0).2.2
  omega
theorem aey:cO Tryz.prog 34 (abn 2):=akF (.inl rfl) aex
theorem akG:cO Tryz.prog 34 ap0:=jg λx hx=>by
 obtain⟨⟨a,f,ph⟩,t,b,n,q⟩:=x;obtain⟨hn,hp,hx⟩:=aZ.1 hx;have hn:n≠0:=hn;have hp:ph=2:=hp;subst hp;rcases hx with ⟨hp,_⟩|⟨hp,_⟩|⟨hp,_⟩|⟨hp,_,ln,hf,h,q1,q2⟩|⟨hp,_⟩|⟨hp,_⟩|⟨hp,_⟩|⟨hp,_⟩|⟨hp,_⟩|⟨hp,_⟩
 all_goals try exact absurd hp (by show¬(2:Int)=_;decide)
 have hf:f=(ZPr.mk a f t b ln n).fr n:=hf;refine⟨_,TA,rfl,⟨a,f,t,b,ln,n⟩,aZ.2 ⟨h,hn⟩,by show [_,_,_]=[_,_,_];rw[hf];first|done|rfl,rfl,λv h' hh=> ?_⟩;rcases nZ hh with ⟨y,h0,e1,e2⟩|⟨y,h0,e1,e2⟩
 ·exact ER ⟨⟨a,{f with piece:=(n+1:Nat)},2⟩,aZ.2 ⟨q1 (aZ.1 h0),rfl⟩,e1.trans (by rw[hf];first|done|rfl),e2⟩
 ·exact eF ⟨⟨a,{f with piece:=(n+1:Nat),found:=true,ans:=b.value},6⟩,aZ.2 (q2 (aZ.1 h0)),e1.trans (by rw[hf];first|done|rfl),e2⟩
noncomputable def TG:iW:=oJ eU (λ_=>[.ptr 0 0]) 1 (λc=>[.m (c.os 0)]) (λc=>Hd (c.ok/\c.jr=0)) (λ_=>i64 0) 1 (λc=>[.m (c.start.os 1)])
structure ZCd where
 c:eU
 d:DevM
 ph:Nat
def ZCd.cd(x:ZCd):pW:=⟨x.c,x.d⟩
noncomputable def abp:iW:={X:=ZCd,args:=λ_=>[.ptr 0 0,.ptr 1 0],k:=2,l:=λx=>[.m (x.c.os 1),.m x.d.os],pre:=λx=>Hd x.cd.ok,outs:=[
 {Y:=Nat,post:=λx k=>Hd (k<258/\x.c.L k=true/\ ∀j,j<k->x.c.L j=false),ret:=λ_ _=>G5 1,m:=2,l:=λx k=>[.m ((x.c.aah k).os 1),.m (x.d.flush k).os]},
 {Y:=Unit,post:=λx _=>Hd (∀j,j<258->x.c.L j=false),ret:=λ_ _=>G5 2,m:=2,l:=λx _=>[.m (x.c.os 2),.m x.d.fence.os]}]}
noncomputable def abq:iW:=oJ ZCd (λ_=>[.ptr 0 0,.ptr 1 0]) 2 (λx=>[.m (x.c.os 2),.m x.d.os]) (λx=>Hd x.cd.ok) (λ_=>G5 3) 2 (λx=>[.m (x.c.os 3),.m (x.d.store 1 0 64 (iG x.c.jr)).os])
noncomputable def abr:iW:=oJ ZCd (λ_=>[.ptr 0 0,.ptr 1 0]) 2 (λx=>[.m (x.c.os 3),.m x.d.os]) (λx=>Hd x.cd.ok) (λ_=>G5 1) 2 (λx=>[.m (x.c.os 4),.m (x.d.flush 1).os])
noncomputable def abt:iW:=oJ ZCd (λ_=>[.ptr 0 0,.ptr 1 0]) 2 (λx=>[.m (x.c.os 4),.m x.d.os]) (λx=>Hd x.cd.ok) (λ_=>G5 2) 2 (λx=>[.m (x.c.fin.os 0),.m x.d.fence.os])
noncomputable def abu:iW:=oJ ZCd (λ_=>[.ptr 0 0,.ptr 1 0]) 2 (λx=>[.m (x.c.os 0),.m x.d.os]) (λx=>Hd (x.c.jr=0)) (λ_=> .tup [i64 0,i64 12]) 2 (λx=>[.m (x.c.os 0),.m x.d.os])

theorem Gm{p:ZPool}(hp:p.good){L:Int}{i j:Nat}(h:p.at_ L i j):2<=L/\L+spn (p.cls i)<=2+p.n*8/\0<=p.cls i/\p.cls i<=3:=by
 obtain⟨h1,h2,h3,h4,h5⟩:=h;have h6:=(hp.1.2.2 i h1).2.1;refine⟨?_,?_,h2,h6⟩
 all_goals (rcases gK (p.cls i)with m|m|m|m|m<;>obtain⟨m1,m2,m3⟩:=m<;>rw[m2]at h5<;>(try rw[m2])<;>omega)
theorem TJ{p:ZPool}(hp:p.good){L L':Int}{i j i' j':Nat}(h:p.at_ L i j)(h':p.at_ L' i' j')(hne:L≠L'):L+spn (p.cls i)<=L'\/L'+spn (p.cls i')<=L:=by
 obtain⟨a1,a2,a3,a4,a5⟩:=h;obtain⟨b1,b2,b3,b4,b5⟩:=h';have a6:=(hp.1.2.2 i a1).2.1;have b6:=(hp.1.2.2 i' b1).2.1;by_cases e:i=i'
 ·subst e
  have hj:j≠j':=λe=>by subst e;exact hne (a5.trans b5.symm)
  rcases gK (p.cls i)with m|m|m|m|m<;>obtain⟨m1,m2,m3⟩:=m<;>rw[m2]at a5 b5 ⊢<;>omega
 ·rcases gK (p.cls i)with m|m|m|m|m<;>rcases gK (p.cls i')with m'|m'|m'|m'|m'<;>obtain⟨m1,m2,m3⟩:=m<;>obtain⟨m1',m2',m3'⟩:=m'<;>rw[m2]at a5<;>rw[m2']at b5<;>rw[m2,m2']<;>omega
section
variable{a:aiG}{T M:Nat}{b:Nat->ZBlk}
end
theorem asW{n:Nat}(h:n<=416):0<=ned n/\ned n<=3:=by
 unfold ned
 repeat' split
 all_goals omega
theorem aoB{L:Lks}{i:Nat}(h:i<L.length):nthL L i∈L:=by
 unfold nthL;rw[List.getD_eq_getElem?_getD,List.getElem?_eq_getElem h];exact List.getElem_mem h
def PBy(d:DevM)(b:ZBlk)(ln:Nat):Prop:=b.may/\b.kind=1/\ln+spn b.cls<=d.n/\ ∀q,q<64*b.dL->d.b ((ln+q/64)*193+q%64)=b.enc q
structure eH (a:ZSto) (T M N:Nat) (B:ByteArray->ZBlk):Prop where
 dok:a.d.ok
 dst:a.d.st<=M
 dfl:a.d.fl<=M
 dfe:a.d.fe<=M
 rok:a.r.ok
 rt:a.r.t=T
 cok:a.c.ok
 ct:a.c.t=T
 ph:a.ph=0
 jr:a.c.jr=0
 pg:a.p.good
 fit:2+a.p.n*8<=a.d.n
 bok:a.b.ok
 lok:a.l.ok
 ln:a.l.n=0
 srt:srt a.L
 len:a.L.length<=N
 id0:0<=a.id
 id1:a.id<=M
 v0:0<=a.ver
 v1:a.ver<=M
 nn:a.n<=M
 asX:1<=a.c.now
 ap1:a.c.now<=M
 owed: ∀k,a.c.o k<=M
 used: ∀K:Int,2<=K->((∃y∈a.L,y.line=K)\/arW.inB ⟨a.b,a.l,K⟩)->a.p.has K
 q: ∀y∈a.L,∃ln:Nat,y.line=ln/\(B y.key).key=y.key/\(B y.key).id=y.id/\(B y.key).ver=y.ver/\(B y.key).cls=y.cls/\PBy a.d (B y.key) ln/\ ∃i j,a.p.at_ ln i j/\a.p.cls i=y.cls
def nJ(a:ZSto)(K:Nat)(c:Int):Prop:=(∃i j,a.p.at_ K i j/\a.p.cls i=c)/\(∀y∈a.L,y.line≠K)/\ ¬arW.inB ⟨a.b,a.l,K⟩
def aeX(d:DevM)(ln:Nat)(key v:ByteArray)(n:Nat):Prop:= ∀m r:Nat,1<=m->m<n->r<64->d.b ((ln+m)*193+r)=(ZBlk.mk 0 1 0 0 0 key v).enc (64*m+r)
def updB(B:ByteArray->ZBlk)(s:ByteArray)(b:ZBlk):ByteArray->ZBlk:=λk=>if k=s then b else B k
section
variable{a:ZSto}{T M N:Nat}{B:ByteArray->ZBlk}
theorem eH.up(g:eH a T M N B){M' N':Nat}(h:M<=M')(hN:N<=N'):eH a T M' N' B:=
 {g with dst:=by have:=g.dst;omega,dfl:=by have:=g.dfl;omega,dfe:=by have:=g.dfe;omega,len:=Nat.le_trans g.len hN,id1:=by have:=g.id1;omega,v1:=by have:=g.v1;omega,nn:=by have:=g.nn;omega,ap1:=by have:=g.ap1;omega,owed:=λk=>by have:=g.owed k;omega}
theorem nJ.fits{K:Nat}{c:Int}(h:nJ a K c)(g:eH a T M N B):2<=K/\(K:Int)+spn c<=a.d.n/\0<=c/\c<=3/\K<258/\a.d.n<=258:=by
 obtain⟨⟨i,j,h1,rfl⟩,_⟩:=h;obtain⟨f1,f2,f3,f4⟩:=Gm g.pg h1;have:=g.fit;have:=g.dok.1;have s:=dU (a.p.cls i);refine⟨by omega,by omega,f3,f4,by omega,this⟩
theorem nJ.apart{K:Nat}{c:Int}(h:nJ a K c)(g:eH a T M N B){y:ZLnk}(hy:y∈a.L){ln:Nat}(hl:y.line=ln):ln+(B y.key).dL<=K\/K+(spn c).toNat<=ln:=by
 obtain⟨⟨i,j,h1,rfl⟩,h2,_⟩:=h;obtain⟨ln',q1,_,_,_,q5,_,i',j',q2,q3⟩:=g.q y hy;have e:(ln':Int)=ln:=by rw[<-hl,q1]
 have e:ln'=ln:=by omega
 subst e;have hne:(ln':Int)≠K:=λe=>h2 y hy (by rw[hl,e])
 have:=TJ g.pg q2 h1 hne;rw[q3,<-q5]at this;have s:=oN (B y.key);have s2:=dU (a.p.cls i);omega
theorem PBy.keep{d d':DevM}{b:ZBlk}{ln:Nat}(h:PBy d b ln)(h2:d'.n=d.n){L n:Nat}(h0:2<=ln)(hb: ∀m r:Nat,2<=m->r<64-> ¬(L<=m/\m<L+n)->d'.b (m*193+r)=d.b (m*193+r))(hs:ln+b.dL<=L\/L+n<=ln):PBy d' b ln:=by
 obtain⟨q3,q4,q5,q6⟩:=h;refine⟨q3,q4,by rw[h2];exact q5,λq hq=> ?_⟩;rw[hb _ _ (by omega) (by omega) (by omega)];exact q6 q hq
theorem eH.dev(g:eH a T M N B){d':DevM}{M':Nat}(hM:M<=M')(h1:d'.ok)(h2:d'.n=a.d.n)(h3:d'.st<=M')(h4:d'.fl<=M')(h5:d'.fe<=M'){L n:Nat}(hb: ∀m r:Nat,2<=m->r<64-> ¬(L<=m/\m<L+n)->d'.b (m*193+r)=a.d.b (m*193+r))
  (hs: ∀y∈a.L,∀ln:Nat,y.line=ln->ln+(B y.key).dL<=L\/L+n<=ln):eH (a.Gx d') T M' N B:=by
 have g':=g.up hM (aY N);refine{g' with dok:=h1,dst:=h3,dfl:=h4,dfe:=h5,fit:=by show 2+a.p.n*8<=d'.n;rw[h2];exact g.fit,q:=λy hy=> ?_};obtain⟨ln,q1,k1,k2,k3,k4,q2,i',j',q7,q8⟩:=g.q y hy;have hf:=Gm g.pg q7;exact⟨ln,q1,k1,k2,k3,k4,q2.keep h2 (by omega) hb (hs y hy ln q1),i',j',q7,q8⟩
theorem eH.write(g:eH a T M N B)(hM:M<=1000000){K:Nat}{c:Int}(h:nJ a K c){t:Nat}{f:ZFp}(hk:f.key.size<=16)(hv:f.value.size<=400){p:Nat}(hp:(p:Int)<spn c):
  (ZPw.mk a f t K c p).ok/\eH (a.Gx (ZPw.mk a f t K c p).d') T (M+20) N B/\(aeX a.d K f.key f.value p->aeX (ZPw.mk a f t K c p).d' K f.key f.value (p+1))/\ ∀m r:Nat,r<64-> ¬(K<=m/\m<K+(spn c).toNat)->(ZPw.mk a f t K c p).d'.b (m*193+r)=a.d.b (m*193+r):=by
 obtain⟨f1,f2,f3,f4,f5,f6⟩:=h.fits g;have hs:=dU c;have d1:=g.dst;have d2:=g.dfl;have d3:=g.dfe;have hd:=g.dok;have w:(ZPw.mk a f t K c p).ok:=⟨hd,f3,f4,f2,hp,hk,hv,by show a.d.st+10<_;omega⟩;have key: ∃g0:Nat->Int,(∀q,0<=g0 q/\g0 q<256)/\(ZPw.mk a f t K c p).d'=a.d.store (K+p) 0 64 g0/\(1<=p-> ∀r,g0 r=(ZBlk.mk c 1 0 0 0 f.key f.value).enc (64*p+r)):=by
  unfold ZPw.d';by_cases e:p=0
  ·subst e
   rw[if_pos rfl];exact⟨_,aaS ⟨f3,f4⟩,rfl,λh=>absurd h (by decide)⟩
  ·rw[if_neg e]
   exact⟨_,λq=>aiM _ (by show 64<=64*p+q;omega),rfl,λ_ r=>rfl⟩
 obtain⟨g0,k1,k2,k3⟩:=key;have hb: ∀m r:Nat,r<64-> ¬(K<=m/\m<K+(spn c).toNat)->(a.d.store (K+p) 0 64 g0).b (m*193+r)=a.d.b (m*193+r):=λm r hr hm=>by
  rw[zS _ _ _ _ _ hr,if_neg (by omega)]
 rw[k2];refine⟨w,g.dev (by omega) (DevM.pJ hd _ _ _ k1 (by omega)) rfl (by show a.d.st+1<=_;omega) (by show a.d.fl<=_;omega) (by show a.d.fe<=_;omega) (L:=K) (n:=(spn c).toNat) (λm r _ hr hm=>hb m r hr hm) (λy hy ln hl=>h.apart g hy hl),λhdat m r h1 h2 h3=> ?_,hb⟩;rw[zS _ _ _ _ _ h3];by_cases e:m=p
 ·subst e
  rw[if_pos rfl,k3 h1];exact aiR (x:=ZBlk.mk c 1 0 0 0 f.key f.value) (y:=ZBlk.mk 0 1 0 0 0 f.key f.value) rfl rfl (by omega)
 ·rw[if_neg (by omega)]
  exact hdat m r h1 (by omega) h3
theorem eH.take(g:eH a T M N B){c:Int}(hc:0<=c/\c<=3){i j:Nat}(h:a.p.takes c i j): ∃K:Nat,(K:Int)=2+i*8+j*spn c/\eH (a.X3 (a.p.take c i j)) T M N B/\nJ (a.X3 (a.p.take c i j)) K c/\ ¬a.p.has K:=by
 obtain⟨l1,l2⟩:=adu g.pg hc h;obtain⟨n1,n2⟩:=at_new g.pg hc.1 h;have no:=ang g.pg hc h;refine⟨2+i*8+j*(spn c).toNat,l1,?_,⟨⟨i,j,by rw[l1];exact n1,n2⟩,λy hy e=> ?_,λhu=> ?_⟩,by rw[l1];exact no⟩
 ·refine{g with pg:=aiP g.pg hc h,used:=λL hL hu=>anh (take_at g.pg h) (g.used L hL hu),q:=λy hy=> ?_}
  obtain⟨ln,q1,k1,k2,k3,k4,q2,i',j',q7,q8⟩:=g.q y hy;obtain⟨q9,q10⟩:=take_at g.pg h _ _ _ q7;exact⟨ln,q1,k1,k2,k3,k4,q2,i',j',q9,q10.trans q8⟩
 ·exact no (l1▸g.used _ (by omega) (.inl ⟨y,hy,e⟩))
 ·exact no (l1▸g.used _ (by omega) (.inr hu))
theorem eH.vI(g:eH a T M N B){t:Nat}{v:Int}:eH (a.vI t v) T M N B:={g with rok:=g.rok,rt:=g.rt}
end
section
variable{a:ZSto}{T M N:Nat}{B:ByteArray->ZBlk}
theorem asY{b:ZBlk}(h:b.may)(hk:b.kind=1):1<=b.id/\b.id<=2305843009213693952:=by
 rcases h.2 with h|h|h|h
 ·exfalso;have:=h.1;omega
 ·exact h.2.2.2.2.2.1
 ·exfalso;have:=h.1;omega
 ·exfalso;have:=h.1;omega
theorem eH.old(g:eH a T M N B){y:ZLnk}(hy:y∈a.L):(1<=y.id/\y.id<=2305843009213693952)/\2<=y.line/\y.line<258/\0<=y.cls/\y.cls<=3/\ ∃i j,a.p.at_ y.line i j:=by
 obtain⟨ln,q1,k1,k2,k3,k4,q2,i,j,q7,q8⟩:=g.q y hy;obtain⟨g1,g2,g3,g4⟩:=Gm g.pg q7;have hfit:=g.fit;have:=g.dok.1;have hs:=dU (a.p.cls i);have hn:=asY q2.1 q2.2.1;refine⟨by rw[<-k2];exact hn,by omega,by omega,by omega,by omega,i,j,by rw[q1];exact q7⟩
theorem aoC{x:ZPt}{K:Nat}(h:nJ x.a K x.x.cls)(hk:x.ln=K): ∃i j,x.inP i j/\x.a.p.cls i=x.x.cls:=by
 obtain⟨⟨i,j,⟨a1,a2,a3,a4,a5⟩,h2⟩,_⟩:=h;exact⟨i,j,⟨a1,a2,a3,a4,by rw[hk];exact a5⟩,h2⟩
theorem asZ{x:ZPt}{K:Nat}(hk:x.ln=K)(hl:x.a.l.n=0)(h:nJ x.a K x.x.cls): ¬x.us.used:=by
 subst hk
 rintro (⟨i,hi,h1⟩|⟨i,hi,_⟩|h1)
 ·exact h.2.1 _ (aoB hi) h1
 ·have hi:i<x.a.l.n:=hi
  omega
 ·exact h.2.2 h1
theorem Jr(c:eU)(t:Nat)(L:Int): ∀n,(c.notes t L n).jr=c.jr
 |0=>rfl
 |n+1=>Jr c t L n
theorem eH.put(g:eH a T M N B)(hM:M<=1000000)(hN:N<=200){t K:Nat}(ht:t<T){f:ZFp}{had:Bool}(h:nJ a K f.cls)(hk0:f.key.size≠0)(hk:f.key.size<=16)(hv:f.value.size<=400)(hc:f.cls=ned ((f.key.size+f.value.size:Nat):Int))(he:f.epoch=a.c.now)
  (hw:gY a.L f.key=if had=true then some f.old else none) (hd:aeX a.d K f.key f.value (spn f.cls).toNat):
  ((ZPp.mk a f t K).pt 2).ok 2 had/\eH (((ZPp.mk a f t K).pt 2).cg.res 2 had) T (M+20) (N+1) (updB B f.key (((ZPp.mk a f t K).pt 2).cg.blk 2 had)):=by
 obtain⟨f1,f2,f3,f4,f5,f6⟩:=h.fits g;have hs:=dU f.cls;have e1:=g.id0;have e2:=g.id1;have e3:=g.v0;have e4:=g.v1;have e5:=g.nn;have e6:=g.asX;have e7:=g.ap1;have e8:=g.dst;have e9:=g.dfl;have e10:=g.dfe;have e11:=g.len;have ho:=g.owed;generalize hP:(ZPp.mk a f t K).pt 2=P;subst hP;let C:ZCg:=((ZPp.mk a f t K).pt 2).cg
 let b:ZBlk:=C.blk 2 had
 have hb:b=⟨f.cls,1,C.idP had,a.ver+1,f.epoch,f.key,f.value⟩:=if_pos rfl;let l:ZLnk:=C.lnk 2 had
 have hl:l=⟨f.key,C.idP had,a.ver+1,K,f.cls⟩:=by show ZLnk.mk b.key b.id (a.ver+1) K b.cls=_;rw[hb]
 have hold:had=true->f.old∈a.L/\f.old.key=f.key:=λe=>by
  rw[if_pos e]at hw;exact og hw
 have hid:1<=C.idP had/\C.idP had<=2305843009213693952:=by
  show 1<=(bif had then f.old.id else a.id+1)/\_;cases had
  ·show 1<=a.id+1/\a.id+1<=_;omega
  ·exact(g.old (hold rfl).1).1
 have hbm:b.may:=by
  rw[hb];refine⟨RF ⟨f3,f4⟩,.inr (.inl ⟨rfl,by show 1<=f.key.size;omega,hk,hv,hc.symm,hid,?_,?_⟩)⟩
  ·show 1<=a.ver+1/\a.ver+1<=2305843009213693952;omega
  ·show 1<=f.epoch/\f.epoch<=2305843009213693952;omega
 have hsl:(jv a.L l).length<=a.L.length+1:=aaZ;have hbs:b.dL=(spn f.cls).toNat:=by rw[hb];rfl
 have hent:had=true->(C.ent 2).may:=λe=>by
  obtain⟨_,o1,o2,o3,o4,_⟩:=g.old (hold e).1;exact⟨o1,o2,o3,o4,by show(-1:Int)<= -1;decide,by show(-1:Int)<258;decide⟩
 refine⟨⟨⟨g.dok,g.cok,by show a.ph<=4;rw[g.ph];decide,by show t<a.c.t;rw[g.ct];exact ht,by show K<a.d.n;omega,f6,hbm,by show f.key.size<_;omega,by show f.value.size<_;omega,e3,by show a.ver<_;omega,e1,by show a.id<_;omega,Int.le_refl 0,show(0:Int)<1152921504606846977 by decide,by show a.n<_;omega,λk=>by have:=ho k;show a.c.o k+8<_;omega,λe=>⟨g.bok,g.rok,hent e⟩,λ_=>by show(jv a.L l).length<=258;omega,λe=>absurd e (by decide)⟩,
  hw,he.symm,g.pg.1,g.bok,g.lok,by show a.l.n<_;rw[g.ln];decide,by show a.L.length<=300;omega,aoC (x:=(ZPp.mk a f t K).pt 2) h rfl,asZ (x:=(ZPp.mk a f t K).pt 2) rfl g.ln h,λe=>absurd rfl e⟩,?_⟩
 let D:DevM:=a.d.store K 0 64 b.enc
 have hDb: ∀m r:Nat,r<64-> ¬(K<=m/\m<K+(spn f.cls).toNat)->D.b (m*193+r)=a.d.b (m*193+r):=λm r hr hm=>by
  show(a.d.store K 0 64 b.enc).b (m*193+r)=_;rw[zS _ _ _ _ _ hr,if_neg (by omega)]
 have hDok:D.ok:=DevM.pJ g.dok _ _ _ (yS hbm) (by omega);have gD:eH (a.Gx D) T (M+20) N B:=g.dev (by omega) hDok rfl (by show a.d.st+1<=_;omega) (by show a.d.fl<=_;omega) (by show a.d.fe<=_;omega) (L:=K) (n:=(spn f.cls).toNat) (λm r _ hr hm=>hDb m r hr hm) (λy hy ln hl=>h.apart g hy hl);have hnew:PBy D b K:=by
  refine⟨hbm,by rw[hb],by rw[hb];exact f2,λq hq=> ?_⟩;show(a.d.store K 0 64 b.enc).b ((K+q/64)*193+q%64)=b.enc q;rw[zS _ _ _ _ _ (by omega)];by_cases e:q/64=0
  ·rw[if_pos (by omega),show q%64=q by omega]
  ·rw[if_neg (by omega),hd (q/64) (q%64) (by omega) (by rw[hbs]at hq;omega) (by omega),show 64*(q/64)+q%64=q by omega]
   exact aiR (by rw[hb]) (by rw[hb]) (by omega)
 have hno:=WH a.c t (K:Int) (λk=>(g.cok.2.2.2.2.2 k).1);have hs8:=(oN b).1;have hR:C.res 2 had={a with d:=D,c:=a.c.notes t (K:Int) b.dL,b:=if had=true then a.b.put (C.ent 2)else a.b,L:=jv a.L l,id:=if had=false then a.id+1 else a.id,ver:=a.ver+1,n:=a.n+1,e:=λi=>if i=a.n then C.eff 2 had else a.e i}:=by
  cases had<;>rfl
 show eH (C.res 2 had) T (M+20) (N+1) (updB B f.key b);rw[hR];obtain⟨⟨i0,j0,hi0,hc0⟩,_⟩:=h;have hup:=gD.up (aY _) (Nat.le_succ N)
 exact{hup with
  cok:=yT g.cok (λk=>by have:=ho k;omega) _ _ hs8
  ct:=(rJ _ _ _ _).trans g.ct
  jr:=(Jr _ _ _ _).trans g.jr
  bok:=by
   show iw.ok (if had=true then a.b.put (C.ent 2)else a.b);split
   ·exact auO g.bok _
   ·exact g.bok
  srt:=uV g.srt
  len:=by show(jv a.L l).length<=N+1;omega
  id0:=by show 0<=(if had=false then a.id+1 else a.id);split<;>omega
  id1:=by show(if had=false then a.id+1 else a.id)<=((M+20:Nat):Int);split<;>omega
  v0:=by show 0<=a.ver+1;omega
  v1:=by show a.ver+1<=((M+20:Nat):Int);omega
  nn:=by show a.n+1<=M+20;omega
  asX:=by show 1<=(a.c.notes t (K:Int) b.dL).now;rw[rM];exact g.asX
  ap1:=by show(a.c.notes t (K:Int) b.dL).now<=_;rw[rM];omega
  owed:=λk=>by show(a.c.notes t (K:Int) b.dL).o k<=_;have:=(hno b.dL k).2;have:=ho k;omega
  used:=λX hX hu=>by
   rcases hu with ⟨y,hy,hh⟩|hu
   ·rcases (gZ g.srt).1 hy with rfl|⟨hy,_⟩
    ·rw[hl]at hh
     have hh:(K:Int)=X:=hh;exact⟨i0,j0,by rw[<-hh];exact hi0⟩
    ·exact g.used X hX (.inl ⟨y,hy,hh⟩)
   ·have hu:arW.inB ⟨if had=true then a.b.put (C.ent 2)else a.b,a.l,X⟩:=hu
    by_cases e:had=true
    ·rw[if_pos e]at hu
     rcases ar8 hu with hu|hu|hu
     ·exact g.used X hX (.inr hu)
     ·have hu:f.old.line=X:=hu
      obtain⟨_,_,_,_,_,i,j,hat⟩:=g.old (hold e).1;exact⟨i,j,by rw[<-hu];exact hat⟩
     ·have hu:(-1:Int)=X:=hu
      omega
    ·rw[if_neg e]at hu
     exact g.used X hX (.inr hu)
  q:=λy hy=>by
   rcases (gZ g.srt).1 hy with rfl|⟨hy,hne⟩
   ·have e0:updB B f.key b l.key=b:=if_pos (by rw[hl])
    rw[e0];refine⟨K,by rw[hl],by rw[hl,hb],by rw[hl,hb],by rw[hl,hb],by rw[hl,hb],hnew,i0,j0,hi0,by rw[hl];exact hc0⟩
   ·have e0:updB B f.key b y.key=B y.key:=if_neg λe=>hne (by rw[hl];exact e)
    rw[e0]
    exact gD.q y hy}
end
noncomputable def fl(L:Lks)(b:Nat)(pos:ByteArray)(past:Bool)(s:ByteArray):Lks:=L.filter λl=>(decide (bkt l.key=b)&&(!past||kl pos l.key))&&kl l.key s
theorem wM{L:Lks}{b:Nat}{pos:ByteArray}{past:Bool}{y:ZLnk}(h:nextL L b pos past=some y):(bkt y.key=b/\(past=true->kl pos y.key=true))/\ ∃ms bs,L=ms++y::bs/\ ∀x∈ms,(decide (bkt x.key=b)&&(!past||kl pos x.key))=false:=by
 unfold nextL at h;obtain⟨h1,ms,bs,h2,h3⟩:=List.find?_eq_some_iff_append.1 h;rw[aJ,decide_eq_true_eq,Bool.or_eq_true]at h1;refine⟨⟨h1.1,λe=> ?_⟩,ms,bs,h2,λx hx=> ?_⟩
 ·rcases h1.2 with h|h
  ·rw[e]at h;cases h
  ·exact h
 ·have:=h3 x hx
  rwa [Bool.not_eq_true']at this
theorem aoD{a b:ByteArray}(h:kl a b=true):kl b a=false:=by
 cases h':kl b a
 ·rfl
 ·exact absurd (jC h h') (by rw[mX];decide)
theorem as1{L:Lks}(hs:srt L){b:Nat}{pos s:ByteArray}{past:Bool}{y:ZLnk}(h:nextL L b pos past=some y)(hy:kl y.key s=true):(fl L b pos past s).length=(fl L b y.key true s).length+1:=by
 obtain⟨⟨h1,h2⟩,ms,bs,rfl,h3⟩:=wM h;have hp:=List.pairwise_append.1 hs;obtain⟨p1,p2,p3⟩:=hp;have q1:=(List.pairwise_cons.1 p2).1;unfold fl;rw[List.filter_append,List.filter_append,List.filter_cons,List.filter_cons];have e1:ms.filter (λl=>(decide (bkt l.key=b)&&(!past||kl pos l.key))&&kl l.key s)=[]:=List.filter_eq_nil_iff.2 λx hx=>by rw[h3 x hx];simp
 have e2:ms.filter (λl=>(decide (bkt l.key=b)&&(!true||kl y.key l.key))&&kl l.key s)=[]:=List.filter_eq_nil_iff.2 λx hx=>by
  rw[aoD (p3 x hx y (List.mem_cons_self ..))]
  first|done|simp
 have e3:((decide (bkt y.key=b)&&(!past||kl pos y.key))&&kl y.key s)=true:=by
  rw[hy,decide_eq_true h1];cases past
  ·rfl
  ·rw[h2 rfl];rfl
 have e4:((decide (bkt y.key=b)&&(!true||kl y.key y.key))&&kl y.key s)=false:=by rw[mX];simp
 rw[e1,e2,if_pos e3,if_neg (by rw[e4];decide)];have e5:bs.filter (λl=>(decide (bkt l.key=b)&&(!past||kl pos l.key))&&kl l.key s)=bs.filter (λl=>(decide (bkt l.key=b)&&(!true||kl y.key l.key))&&kl l.key s):=List.filter_congr λx hx=>by
  rw[q1 x hx];cases past
  ·rfl
  ·rw[jC (h2 rfl) (q1 x hx)]
 rw[e5];rfl
theorem ap2{L:Lks}(hs:srt L){b:Nat}{pos s:ByteArray}{past:Bool}(h: ∀y,nextL L b pos past=some y->kl y.key s=false):(fl L b pos past s).length=0:=by
 rw[List.length_eq_zero_iff];refine List.filter_eq_nil_iff.2 λx hx hh=> ?_
 rw[aJ]at hh;cases e:nextL L b pos past with
 |none=>exact absurd hh.1 (List.find?_eq_none.1 e x hx)
 |some y=>
  obtain⟨_,ms,bs,rfl,h3⟩:=wM e;have hy:=h y e;obtain⟨_,p2,_⟩:=List.pairwise_append.1 hs;have q1:=(List.pairwise_cons.1 p2).1;rcases List.mem_append.1 hx with hx|hx
  ·rw[h3 x hx]at hh;cases hh.1
  ·rcases List.mem_cons.1 hx with rfl|hx
   ·rw[hy]at hh;cases hh.2
   ·rw[jC (q1 x hx) hh.2]at hy;cases hy
theorem aez{L:Lks}(hs:srt L){s pos:ByteArray}{past:Bool}(hp:past=true->kl pos s=true)(h: ∀y,nextL L (bkt s) pos past=some y->kl y.key s=false/\y.key≠s):gY L s=none:=yX λz hz e=>by
 have hz':(decide (bkt z.key=bkt s)&&(!past||kl pos z.key))=true:=by
  rw[e,decide_eq_true rfl];cases past
  ·rfl
  ·rw[hp rfl];rfl
 cases e':nextL L (bkt s) pos past with
 |none=>exact absurd hz' (List.find?_eq_none.1 e' z hz)
 |some y=>
  obtain⟨_,ms,bs,rfl,h3⟩:=wM e';obtain⟨k1,k2⟩:=h y e';obtain⟨_,p2,_⟩:=List.pairwise_append.1 hs;have q1:=(List.pairwise_cons.1 p2).1;rcases List.mem_append.1 hz with hz|hz
  ·rw[h3 z hz]at hz';cases hz'
  ·rcases List.mem_cons.1 hz with rfl|hz
   ·exact k2 e
   ·have:=q1 z hz
    rw[e,k1]at this;cases this
theorem TK{L:Lks}{b:Nat}{pos:ByteArray}{past:Bool}{y:ZLnk}(h:nextL L b pos past=some y):y∈L:=List.mem_of_find?_eq_some h
section
variable{a:ZSto}{T M N:Nat}{B:ByteArray->ZBlk}
theorem eH.key16(g:eH a T M N B){y:ZLnk}(hy:y∈a.L):1<=y.key.size/\y.key.size<=16:=by
 obtain⟨ln,q1,k1,k2,k3,k4,⟨q2,q3,_⟩,_⟩:=g.q y hy;rw[<-k1];rcases q2.2 with h|h|h|h
 ·exfalso;have:=h.1;omega
 ·exact⟨h.2.1,h.2.2.1⟩
 ·exfalso;have:=h.1;omega
 ·exfalso;have:=h.1;omega
noncomputable def ZKs.aeY(s:ZKs):Nat:=(fl s.a.L (bkt s.f.key) s.f.pos s.f.past s.f.key).length
def aoE(f:ZFp):Prop:=f.key.size<=16/\f.pos.size<=16/\(f.past=true->kl f.pos f.key=true)
theorem TL{s:ZKs}(g:eH s.a T M N B){k:Int}{t:Nat}{b:ZBlk}(hp:s.ph=1)(hf:aoE s.f)(hl:k=3->s.f.line<0){Q:Nat->ZKs->Prop}
  (h1: ∀y∈s.a.L,aoE {s.f with pos:=y.key,past:=true}->s.aeY=(ZKs.mk s.a {s.f with pos:=y.key,past:=true} 1).aeY+1->Q 0 ⟨s.a,{s.f with pos:=y.key,past:=true},1⟩)
  (h2: ∀y,gY s.a.L s.f.key=some y->s.aeY=0->Q 0 ⟨s.a,{s.f with had:=true,old:=y,piece:=if k=1 then 0 else s.f.piece},nx3 s.f k true⟩)
  (h3:gY s.a.L s.f.key=none->s.aeY=0->Q 0 ⟨s.a,{s.f with had:=false,old:=iQ},nx3 s.f k false⟩):wP k t b 0 s Q:=by
 obtain⟨f1,f2,f3⟩:=hf;refine .inr (.inl ⟨hp,rfl,⟨by omega,by omega,λe _=>hl e⟩,λy hy=> ?_,λy hy=> ?_,λhm=> ?_⟩)
 ·have hy1:nextL s.a.L (bkt s.f.key) s.f.pos s.f.past=some y:=hy.1
  have hy2:kl y.key s.f.key=true:=hy.2;have hm:=TK hy1;exact h1 y hm ⟨f1,(g.key16 hm).2,λ_=>hy2⟩ (as1 g.srt hy1 hy2)
 ·have hy1:nextL s.a.L (bkt s.f.key) s.f.pos s.f.past=some y:=hy.1
  have hy2:y.key=s.f.key:=hy.2;refine h2 y (yV g.srt (TK hy1) hy2) (ap2 g.srt λy' hy'=> ?_);rw[hy1]at hy';cases hy';rw[hy2,mX]
 ·have hm: ∀y,nextL s.a.L (bkt s.f.key) s.f.pos s.f.past=some y->kl y.key s.f.key=false/\y.key≠s.f.key:=hm
  exact h3 (aez g.srt f3 hm) (ap2 g.srt λy hy=>(hm y hy).1)
end
section
variable{T M N:Nat}{B:ByteArray->ZBlk}{s:ZKs}{k:Int}{t:Nat}{b:ZBlk}{Q:Nat->ZKs->Prop}
theorem wp0(g:eH s.a T M N B)(ht:t<T)(hr:s.a.r.has t=0)(hp:s.ph=0)
  (h1:goodP k s.f.key s.f.value≠0->Q 0 ⟨s.a,{s.f with code:=goodP k s.f.key s.f.value},7⟩)
  (h2:goodP k s.f.key s.f.value=0->eH (s.a.vI t s.a.r.now) T M N B->Q 0 ⟨s.a.vI t s.a.r.now,{s.f with epoch:=s.a.c.now},1⟩):wP k t b 0 s Q:=
 .inl ⟨hp,rfl,⟨g.rok,g.cok,by rw[g.ph];decide,by rw[g.rt];exact ht,hr⟩,h1,λh=>h2 h g.vI⟩
theorem wp2{n ln:Nat}(hk:k=1)(hp:s.ph=2)(hd:s.a.d.ok)(hb:PBy s.a.d b ln)(hh:s.f.had=true)(ho:s.f.old=⟨b.key,b.id,b.ver,ln,b.cls⟩)(hn:s.f.piece=n)(hl:(n:Int)<spn b.cls)
  (h1:n+1≠spn b.cls->Q (n+1) ⟨s.a,{s.f with piece:=(n+1:Nat)},2⟩) (h2:n+1=spn b.cls->Q 0 ⟨s.a,{s.f with piece:=(n+1:Nat),found:=true,ans:=b.value},6⟩):wP k t b n s Q:=by
 refine .inr (.inr (.inr (.inl ⟨hp,hk,ln,?_,⟨hd,hb.1,hb.2.1,hb.2.2.1,hl,hb.2.2.2⟩,h1,h2⟩)));show s.f={s.f with had:=true,old:=⟨b.key,b.id,b.ver,ln,b.cls⟩,piece:=(n:Int)};rw[<-hh,<-ho,<-hn]
def ndK(k:Int)(f:ZFp):Int:=if k=2 then ned ((f.key.size+f.value.size:Nat):Int)else 0
theorem ap3{f:ZFp}(hk:f.key.size<=16)(hv:f.value.size<=400):0<=ndK k f/\ndK k f<=3:=by
 unfold ndK;split
 ·exact asW (by omega)
 ·omega
theorem wp3(g:eH s.a T M N B)(hk:k=2\/k=3)(hp:s.ph=3)(hks:s.f.key.size<=16)(hv:s.f.value.size<=400)
  (h1:(∀i,i<s.a.p.n->s.a.p.cls i≠ -1/\s.a.p.full (ndK k s.f) i)->Q 0 ⟨s.a,{s.f with cls:=ndK k s.f,code:=4},6⟩)
  (h2: ∀i j K:Nat,s.a.p.takes (ndK k s.f) i j->(K:Int)=2+i*8+j*spn (ndK k s.f)->eH (s.a.X3 (s.a.p.take (ndK k s.f) i j)) T M N B->nJ (s.a.X3 (s.a.p.take (ndK k s.f) i j)) K (ndK k s.f)-> ¬s.a.p.has K->
   Q 0 ⟨s.a.X3 (s.a.p.take (ndK k s.f) i j),{s.f with cls:=ndK k s.f,line:=K,piece:=0},4⟩):wP k t b 0 s Q:=by
 refine .inr (.inr (.inr (.inr (.inl ⟨hp,rfl,hk,⟨g.pg.1,hks,hv⟩,h1,λi j h=> ?_⟩))));have h:s.a.p.takes (ndK k s.f) i j:=h;obtain⟨K,l1,l2,l3,l4⟩:=g.take (ap3 hks hv) h;have:=h2 i j K h l1 l2 l3 l4;rw[l1]at this;exact this
theorem wp4(g:eH s.a T M N B)(hM:M<=1000000)(hp:s.ph=4)(hks:s.f.key.size<=16)(hv:s.f.value.size<=400){K p:Nat}(h3:k=2\/k=3/\p=0)(hl:s.f.line=K)(hpi:s.f.piece=p)(hlt:(p:Int)<spn s.f.cls)(h:nJ s.a K s.f.cls)(hd:aeX s.a.d K s.f.key s.f.value p)
  (h1: ∀d',p+1≠spn s.f.cls->eH (s.a.Gx d') T (M+20) N B->nJ (s.a.Gx d') K s.f.cls->aeX d' K s.f.key s.f.value (p+1)->(∀m r:Nat,r<64-> ¬(K<=m/\m<K+(spn s.f.cls).toNat)->d'.b (m*193+r)=s.a.d.b (m*193+r))->Q 0 ⟨s.a.Gx d',{s.f with piece:=(p+1:Nat)},4⟩)
  (h2: ∀d',p+1=spn s.f.cls->eH (s.a.Gx d') T (M+20) N B->nJ (s.a.Gx d') K s.f.cls->aeX d' K s.f.key s.f.value (spn s.f.cls).toNat->(∀m r:Nat,r<64-> ¬(K<=m/\m<K+(spn s.f.cls).toNat)->d'.b (m*193+r)=s.a.d.b (m*193+r))->Q 0 ⟨s.a.Gx d',{s.f with piece:=0},5⟩):wP k t b 0 s Q:=by
 obtain⟨w1,w2,w3,w4⟩:=g.write hM h (t:=t) (f:=s.f) hks hv hlt;refine .inr (.inr (.inr (.inr (.inr (.inl ⟨hp,rfl,K,p,h3,?_,w1,λhne=>h1 _ hne w2 h (w3 hd) w4,λhe=>h2 _ he w2 h ?_ w4⟩)))))
 ·show s.f={s.f with line:=(K:Int),cls:=s.f.cls,piece:=(p:Int)}
  rw[<-hl,<-hpi]
 ·have e:(spn s.f.cls).toNat=p+1:=by omega
  rw[e];exact w3 hd
noncomputable def resK(k:Int)(s:ZKs)(t K:Nat):ZSto:=((ZPp.mk s.a s.f t K).pt k).cg.res k s.f.had
noncomputable def atv(s:ZKs)(t K:Nat):ZBlk:=((ZPp.mk s.a s.f t K).pt 2).cg.blk 2 s.f.had
theorem wp5p(g:eH s.a T M N B)(hM:M<=1000000)(hN:N<=200)(hk:k=2)(hp:s.ph=5){K:Nat}(ht:t<T)(hl:s.f.line=K)(h:nJ s.a K s.f.cls)(hk0:s.f.key.size≠0)(hks:s.f.key.size<=16)(hv:s.f.value.size<=400)(hc:s.f.cls=ned ((s.f.key.size+s.f.value.size:Nat):Int))(he:s.f.epoch=s.a.c.now)
  (hw:gY s.a.L s.f.key=if s.f.had=true then some s.f.old else none) (hd:aeX s.a.d K s.f.key s.f.value (spn s.f.cls).toNat)
  (h1:eH (resK 2 s t K) T (M+20) (N+1) (updB B s.f.key (atv s t K))->Q 0 ⟨resK 2 s t K,{s.f with found:=s.f.had,aep:=s.f.epoch,line:= -1},6⟩):wP k t b 0 s Q:=by
 subst hk;obtain⟨e1,e2⟩:=g.put hM hN ht (f:=s.f) (had:=s.f.had) h hk0 hks hv hc he hw hd;exact .inr (.inr (.inr (.inr (.inr (.inr (.inl ⟨hp,rfl,.inl rfl,K,hl,e1,h1 e2⟩))))))
theorem wp6(g:eH s.a T M N B)(hp:s.ph=6)(ht:t<T)(h1:eH (s.a.vI t 0) T M N B->Q 0 ⟨s.a.vI t 0,s.f,7⟩):wP k t b 0 s Q:=
 .inr (.inr (.inr (.inr (.inr (.inr (.inr (.inr (.inl ⟨hp,rfl,⟨g.rok,by rw[g.rt];exact ht⟩,h1 g.vI⟩))))))))
end
def fK(key v:ByteArray):ZFp:=⟨key,v,⟨#[]⟩,0,⟨#[]⟩,false,false,iQ,-1,0,0,0,false,⟨#[]⟩,0⟩
def ZFp.st(f:ZFp)(k ph:Int)(b:AV):dF:= .cells 45 (.av (f.l k ph b))
def ZFp.ansV(f:ZFp):AV:=aeV f.code f.found f.ans f.aep
structure ZRp where
 a:ZSto
 t:Nat
 key:ByteArray
 v:ByteArray
 b:ZBlk
 I:Nat->Nat->ZKs->Prop
 q:Nat->ZKs->Prop
structure ZRn where
 s:ZKs
 k:Nat
 m:Nat
def ZRp.okI(x:ZRp)(k:Int):Prop:=x.I 1 0 ⟨x.a,fK x.key x.v,0⟩/\ ∀j m s,x.I j m s->j<=400/\s.ph≠7/\wP k x.t x.b m s (λm' y=>(y.ph=7/\m'=0/\x.q j y)\/x.I (j+1) m' y)
noncomputable def runK(k:Int):Ctr:={X:=ZRp,args:=λx=>[.ptr 0 0,i64 x.t,anb k x.key x.v],k:=1,os:=λx=>[.abs (ownM x.a.os)],pre:=λx=>Hd (x.okI k),outs:=[
 {Y:=ZRn,post:=λx y=>Hd (x.q y.k y.s),ret:=λ_ y=> .tup [y.s.f.ansV,i64 y.k,boo true],m:=1,os:=λ_ y=>[.abs (ownM y.s.a.os)]}]}
noncomputable def annK(k:Int)(x:ZRp):FuncId->qL:=λf=>bif Nat.beq f 35 then(λb _ h=>bif Nat.beq b 0 then [
 {σ:=ZRn,fr:=λs=>[(10,i64 s.k)],ob:=λs=>[(0,some (.abs (ownM s.s.a.os))),(3,some (s.s.f.st k s.s.ph gQ))],inv:=λs=>Hd (1<=s.k/\x.I s.k 0 s.s),meas:=λs=>501-s.k,test:=λ_ h=> !byAt h}]else [])elseλ_ _ _=>[]
noncomputable def avp(x:ZRp):FuncId->qL:=λf=>bif Nat.beq f 35 then(λb _ h=>bif Nat.beq b 0 then [
 {σ:=ZRn,fr:=λs=>[(10,i64 s.k)],ob:=λs=>[(0,some (.abs (ownM s.s.a.os))),(3,some (s.s.f.st 1 s.s.ph gQ))],inv:=λs=>Hd (1<=s.k/\x.I s.k 0 s.s),meas:=λs=>501-s.k,test:=λ_ h=> !byAt h},
 {σ:=ZRn,fr:=λs=>[(10,i64 s.k)],ob:=λs=>[(0,some (.abs (ownM s.s.a.os))),(3,some (s.s.f.st 1 2 (.slW h.next 0 1 (64*s.m)))),(h.next,some (aaQ x.b.enc (64*s.m)))],nx:=1,inv:=λs=>Hd (1<=s.k/\s.m≠0/\s.s.ph=2/\x.I s.k s.m s.s),meas:=λs=>501-s.k,test:=λ_ h=>byAt h}]else [])elseλ_ _ _=>[]
noncomputable def akH:WTr:=λargs h K=>match args with
 |[a,t,.agg l]=>(bif hasB l then ctrT ap0 else ctrT (TF 1)) [a,t,.agg l] h K
 |_=>False
theorem akI(args:List AV)(h:Heap)(K:AV->Heap->Prop)(hq:akH args h K):Sp Tryz.prog 34 args h K:=by
 unfold akH at hq;split at hq
 ·exact Jc (P:=Tryz.prog) (f:=34) _ (bP akG) (bP aew) _ _ _ hq
 ·exact hq.elim
noncomputable def avq(k:Int):je:=[(17,RG),(34,ctrT (abn k))]
noncomputable def avr:je:=[(17,RG),(34,akH)]
theorem aoF{k:Int}(h:cO Tryz.prog 34 (abn k)):dZ Tryz.prog (avq k):= .cons Fg (.cons (bP h) .nil)
theorem aoG:dZ Tryz.prog avr:= .cons Fg (.cons akI .nil)
def jw:Prop:=Value.slice none 0 0=Value.slice none 0 0
def wO(a:ZFp)(b:ZFp):Prop:=a.code=b.code/\a.found=b.found/\a.ans=b.ans/\jw/\jw/\a.aep=b.aep/\True
def Js(a:ZKs)(b:ZKs):Prop:=a.f.key=b.f.key/\a.f.value=b.f.value/\a.f.to=b.f.to/\jw/\a.ph=b.ph/\a.f.epoch=b.f.epoch/\a.f.pos=b.f.pos/\a.f.past=b.f.past/\(0:Int)=0/\a.f.had=b.f.had/\a.f.old.key=b.f.old.key/\a.f.old.id=b.f.old.id/\a.f.old.ver=b.f.old.ver/\a.f.old.line=b.f.old.line/\a.f.old.cls=b.f.old.cls/\a.f.line=b.f.line/\a.f.cls=b.f.cls/\a.f.piece=b.f.piece/\jw/\(0:Int)=0/\jw/\wO a.f b.f
def tY:Prop:=(0:Int)=0/\false=false/\ByteArray.mk #[]=ByteArray.mk #[]/\jw/\jw/\(0:Int)=0/\True
def N9(a:ZFp):Prop:=a.code=0/\a.found=false/\a.ans=ByteArray.mk #[]/\jw/\jw/\a.aep=0/\True
def Oa(a:ZKs)(b:ZRp):Prop:=a.f.key=b.key/\a.f.value=b.v/\a.f.to=ByteArray.mk #[]/\jw/\a.ph=0/\a.f.epoch=0/\a.f.pos=ByteArray.mk #[]/\a.f.past=false/\(0:Int)=0/\a.f.had=false/\a.f.old.key=ByteArray.mk #[]/\a.f.old.id=0/\a.f.old.ver=0/\a.f.old.line=0/\a.f.old.cls=0/\a.f.line=(-(1:Int))/\a.f.cls=0/\a.f.piece=0/\jw/\(0:Int)=0/\jw/\N9 a.f
def Ob(a:ZSto)(b:ZSto):Prop:=ownM a.os=ownM b.os
def lq(a:ZSto)(b:ZSto):Prop:=Ob a b/\True
def Gn(a:ZRp)(b:ZSto):Prop:= ∃y:ZRn,Hd (a.q y.k y.s)/\(N9 y.s.f/\(y.k:Int)=0/\true=false/\True)/\lq y.s.a b
def tZ(a:ZRp):Prop:=a.key=a.key/\a.v=a.v/\ByteArray.mk #[]=ByteArray.mk #[]/\jw/\True
def uf(a:ZRn)(b:ZRp):Prop:=Hd (1<=a.k/\b.I a.k 0 a.s)
def Oc(a:ZRp)(b:ZKs)(c:Nat):Prop:= ∃y_1:ZRn,Hd (a.q y_1.k y_1.s)/\(wO y_1.s.f b.f/\(y_1.k:Int)=(c:Int)/\true=true/\True)/\lq y_1.s.a b.a
def YS(a:ZWk)(b:ZRp)(c:Nat):Prop:= ∀y:ZKs,Hd (a.q 0 y)->cP (BEq.beq y.ph (7:Int)) (Oc b y c) (I64 ((c:Int)+1)/\ ∃s_1:ZRn,uf s_1 b/\501-s_1.k<501-c/\((s_1.k:Int)=(c:Int)+1/\True)/\((1:Int)=1/\Js s_1.s y)/\tY/\((1:Int)=1/\tZ b)/\lq s_1.s.a y.a)
def Oe(a:ZRn)(b:ZRp):Prop:=Hd (1<=a.k/\a.m≠0/\a.s.ph=2/\b.I a.k a.m a.s)
def YT(x:ZRp):Prop:=
 (∃s:ZRn,uf s x/\True/\((s.k:Int)=1/\True)/\((1:Int)=1/\Oa s.s x)/\tY/\((1:Int)=1/\tZ x)/\lq s.s.a x.a)/\(∀s:ZRn,uf s x->cP (decide ((s.k:Int)<=400)) (∃x_1:ZWk,Hd (x_1.n=0/\wP (1:Int) x_1.t x_1.b 0 x_1.s x_1.q)/\(0=0/\(x_1.t:Int)=(x.t:Int)/\((1:Int)=1/\Js x_1.s s.s)/\True)/\lq x_1.s.a s.s.a/\YS x_1 x s.k/\ ∀y:ZKs,Hd (x_1.q 1 y/\y.ph=2/\(1:Int)=1)->I64 ((s.k:Int)+1)/\ ∃s_1:ZRn,Oe s_1 x/\501-s_1.k<501-s.k/\((s_1.k:Int)=(s.k:Int)+1/\True)/\(64*s_1.m=64/\ ∀q:Nat,q<64*s_1.m->[Value.int .u8 (x.b.enc q)]=[Value.int .u8 (x_1.b.enc q)])/\((1:Int)=1/\s_1.s.f.key=y.f.key/\s_1.s.f.value=y.f.value/\s_1.s.f.to=y.f.to/\jw/\(2:Int)=2/\s_1.s.f.epoch=y.f.epoch/\s_1.s.f.pos=y.f.pos/\s_1.s.f.past=y.f.past/\(0:Int)=0/\s_1.s.f.had=y.f.had/\s_1.s.f.old.key=y.f.old.key/\s_1.s.f.old.id=y.f.old.id/\s_1.s.f.old.ver=y.f.old.ver/\s_1.s.f.old.line=y.f.old.line/\s_1.s.f.old.cls=y.f.old.cls/\s_1.s.f.line=y.f.line/\s_1.s.f.cls=y.f.cls/\s_1.s.f.piece=y.f.piece/\(0=0/\64*s_1.m=64)/\(0:Int)=0/\jw/\wO s_1.s.f y.f)/\tY/\((1:Int)=1/\tZ x)/\lq s_1.s.a y.a) (Gn x s.s.a))/\(∀s:ZRn,Oe s x->cP (decide ((s.k:Int)<=400)) (∃x_1:ZWk,Hd (x_1.n≠0/\x_1.s.ph=2/\wP (1:Int) x_1.t x_1.b x_1.n x_1.s x_1.q)/\(0=0/\(x_1.t:Int)=(x.t:Int)/\((1:Int)=1/\x_1.s.f.key=s.s.f.key/\x_1.s.f.value=s.s.f.value/\x_1.s.f.to=s.s.f.to/\jw/\(2:Int)=2/\x_1.s.f.epoch=s.s.f.epoch/\x_1.s.f.pos=s.s.f.pos/\x_1.s.f.past=s.s.f.past/\(0:Int)=0/\x_1.s.f.had=s.s.f.had/\x_1.s.f.old.key=s.s.f.old.key/\
 x_1.s.f.old.id=s.s.f.old.id/\x_1.s.f.old.ver=s.s.f.old.ver/\x_1.s.f.old.line=s.s.f.old.line/\x_1.s.f.old.cls=s.s.f.old.cls/\x_1.s.f.line=s.s.f.line/\x_1.s.f.cls=s.s.f.cls/\x_1.s.f.piece=s.s.f.piece/\(0=0/\64*x_1.n=64*s.m)/\(0:Int)=0/\jw/\wO x_1.s.f s.s.f)/\True)/\(Ob x_1.s.a s.s.a/\(64*x_1.n=64*s.m/\ ∀q:Nat,q<64*x_1.n->[Value.int .u8 (x_1.b.enc q)]=[Value.int .u8 (x.b.enc q)])/\True)/\YS x_1 x s.k/\ ∀y:ZKs,Hd (x_1.q (x_1.n+1) y/\y.ph=2)->I64 ((s.k:Int)+1)/\ ∃s_1:ZRn,Oe s_1 x/\501-s_1.k<501-s.k/\((s_1.k:Int)=(s.k:Int)+1/\True)/\(64*s_1.m=64*(x_1.n+1)/\ ∀q:Nat,q<64*s_1.m->[Value.int .u8 (x.b.enc q)]=[Value.int .u8 (x_1.b.enc q)])/\((1:Int)=1/\s_1.s.f.key=y.f.key/\s_1.s.f.value=y.f.value/\s_1.s.f.to=y.f.to/\jw/\(2:Int)=2/\s_1.s.f.epoch=y.f.epoch/\s_1.s.f.pos=y.f.pos/\s_1.s.f.past=y.f.past/\(0:Int)=0/\s_1.s.f.had=y.f.had/\s_1.s.f.old.key=y.f.old.key/\s_1.s.f.old.id=y.f.old.id/\s_1.s.f.old.ver=y.f.old.ver/\s_1.s.f.old.line=y.f.old.line/\s_1.s.f.old.cls=y.f.old.cls/\s_1.s.f.line=y.f.line/\s_1.s.f.cls=y.f.cls/\s_1.s.f.piece=y.f.piece/\(0=0/\64*s_1.m=64*(x_1.n+1))/\(0:Int)=0/\jw/\wO s_1.s.f y.f)/\tY/\((1:Int)=1/\tZ x)/\lq s_1.s.a y.a) (Gn x s.s.a))/\True
theorem aeA(x:ZRp):YT x=wpF Tryz.prog avr tt (avp x) 200 6 35 ((runK 1).args x) (hO 1 ((runK 1).os x)) (λv h'=>eX 1 x v h' (runK 1).outs):=by kernel_rfl
def YU(x:ZRp):Prop:=
 (∃s:ZRn,uf s x/\True/\((s.k:Int)=1/\True)/\((2:Int)=2/\Oa s.s x)/\tY/\((2:Int)=2/\tZ x)/\lq s.s.a x.a)/\(∀s:ZRn,uf s x->cP (decide ((s.k:Int)<=400)) (∃x_1:ZWk,Hd (x_1.n=0/\wP (2:Int) x_1.t x_1.b 0 x_1.s x_1.q)/\(0=0/\(x_1.t:Int)=(x.t:Int)/\((2:Int)=2/\Js x_1.s s.s)/\True)/\lq x_1.s.a s.s.a/\ ∀y:ZKs,Hd (x_1.q 0 y)->cP (BEq.beq y.ph (7:Int)) (Oc x y s.k) (I64 ((s.k:Int)+1)/\ ∃s_1:ZRn,uf s_1 x/\501-s_1.k<501-s.k/\((s_1.k:Int)=(s.k:Int)+1/\True)/\((2:Int)=2/\Js s_1.s y)/\tY/\((2:Int)=2/\tZ x)/\lq s_1.s.a y.a)) (Gn x s.s.a))/\True
theorem aeB(x:ZRp):YU x=wpF Tryz.prog (avq 2) tt (annK 2 x) 200 6 35 ((runK 2).args x) (hO 1 ((runK 2).os x)) (λv h'=>eX 1 x v h' (runK 2).outs):=by kernel_rfl
set_option maxHeartbeats 1000000 in
theorem TM(x:ZRp)(hx:x.okI 1):YT x:=by
 obtain⟨h0,hI⟩:=hx;have end0: ∀(k:Nat) (y:ZKs),1<=k->k<=400->((y.ph=7/\(0:Nat)=0/\x.q k y)\/x.I (k+1) 0 y)->(y.ph=7->x.q k y)/\(y.ph≠7->x.I (k+1) 0 y):=λk y _ _ h=>by
  rcases h with ⟨h1,_,h2⟩|h
  ·exact⟨λ_=>h2,λh3=>absurd h1 h3⟩
  ·exact⟨λh3=>absurd h3 (hI _ _ _ h).2.1,λ_=>h⟩
 have atw: ∀k:Nat,k<=400->I64 ((k:Int)+1):=λk hk=>by unfold I64;omega
 unfold YT;simp only[uf,Oa,tY,tZ,lq,Js,YS,Oe,jw,wO,Gn,Ob,N9,Oc];simp only[aZ,aV,aU,aA,aI,bU,bG,aO,aK,ay,aX,aW,bV,bH,bJ,bK,bW,bC,bM,bn,eY,aH,aN,ah,ak,aB,aF,aC,aG];refine⟨⟨⟨⟨x.a,fK x.key x.v,0⟩,1,0⟩,⟨aY _,h0⟩,rfl,by repeat' (first|exact rfl|refine And.intro ?_ ?_),rfl⟩,λs hs=> ?_,λs hs=> ?_⟩
 ·obtain⟨h1,h2⟩:=hs
  obtain⟨k50,h7,hw⟩:=hI _ _ _ h2;refine bf (λ_=>⟨⟨s.s,x.t,x.b,0,_⟩,⟨rfl,hw⟩,by repeat' (first|exact rfl|refine And.intro ?_ ?_),rfl,λy hy=> ?_,λy hy=> ?_⟩) λh=>absurd (aT h) (by omega)
  ·obtain⟨e1,e2⟩:=end0 s.k y h1 k50 hy
   refine bf (λh=>⟨⟨y,s.k,0⟩,e1 (beq_iff_eq.1 h),by repeat' (first|exact rfl|refine And.intro ?_ ?_),rfl⟩) λh=>⟨atw _ k50,⟨y,s.k+1,0⟩,⟨by show 1<=s.k+1;omega,e2 (by simpa using h)⟩,by show 501-(s.k+1)<_;omega,by show((s.k+1:Nat):Int)=_;omega,by repeat' (first|exact rfl|refine And.intro ?_ ?_),rfl⟩
  ·obtain⟨hy,hp⟩:=hy
   rcases hy with ⟨h3,_⟩|hy
   ·exact absurd (hp.symm.trans h3) (by decide)
   ·exact⟨atw _ k50,⟨y,s.k+1,1⟩,⟨by show 1<=s.k+1;omega,by show¬(1:Nat)=0;decide,hp,hy⟩,by show 501-(s.k+1)<_;omega,by show((s.k+1:Nat):Int)=_;omega,⟨rfl,λ_ _=>rfl⟩,by repeat' (first|exact rfl|refine And.intro ?_ ?_),rfl⟩
 ·obtain⟨h1,hm,hph,h2⟩:=hs
  obtain⟨k50,h7,hw⟩:=hI _ _ _ h2;refine bf (λ_=>⟨⟨s.s,x.t,x.b,s.m,_⟩,⟨hm,hph,hw⟩,by repeat' (first|exact rfl|refine And.intro ?_ ?_),⟨rfl,rfl,λ_ _=>rfl⟩,λy hy=> ?_,λy hy=> ?_⟩) λh=>absurd (aT h) (by omega)
  ·obtain⟨e1,e2⟩:=end0 s.k y h1 k50 hy
   refine bf (λh=>⟨⟨y,s.k,0⟩,e1 (beq_iff_eq.1 h),by repeat' (first|exact rfl|refine And.intro ?_ ?_),rfl⟩) λh=>⟨atw _ k50,⟨y,s.k+1,0⟩,⟨by show 1<=s.k+1;omega,e2 (by simpa using h)⟩,by show 501-(s.k+1)<_;omega,by show((s.k+1:Nat):Int)=_;omega,by repeat' (first|exact rfl|refine And.intro ?_ ?_),rfl⟩
  ·obtain⟨hy,hp⟩:=hy
   rcases hy with ⟨h3,_⟩|hy
   ·exact absurd (hp.symm.trans h3) (by decide)
   ·exact⟨atw _ k50,⟨y,s.k+1,s.m+1⟩,⟨by show 1<=s.k+1;omega,by show s.m+1≠0;omega,hp,hy⟩,by show 501-(s.k+1)<_;omega,by show((s.k+1:Nat):Int)=_;omega,⟨rfl,λ_ _=>rfl⟩,by repeat' (first|exact rfl|refine And.intro ?_ ?_),rfl⟩
theorem TN(x:ZRp)(hx:x.okI 2):YU x:=by
 obtain⟨h0,hI⟩:=hx;have atw: ∀k:Nat,k<=400->I64 ((k:Int)+1):=λk hk=>by unfold I64;omega
 unfold YU;simp only[uf,Oa,tY,tZ,lq,Js,Oc,Gn,N9,jw,wO,Ob];simp only[aZ,aV,aU,aA,aI,bU,bG,aO,aK,ay,aX,aW,bV,bH,bJ,bK,bW,bC,bM,bn,eY,aH,aN,ah,ak,aB,aF,aC,aG];refine⟨⟨⟨⟨x.a,fK x.key x.v,0⟩,1,0⟩,⟨aY _,h0⟩,rfl,by repeat' (first|exact rfl|refine And.intro ?_ ?_),rfl⟩,λs hs=> ?_⟩;obtain⟨h1,h2⟩:=hs;obtain⟨k50,h7,hw⟩:=hI _ _ _ h2;refine bf (λ_=>⟨⟨s.s,x.t,x.b,0,_⟩,⟨rfl,hw⟩,by repeat' (first|exact rfl|refine And.intro ?_ ?_),rfl,λy hy=> ?_⟩) λh=>absurd (aT h) (by omega)
 have e:(y.ph=7->x.q s.k y)/\(y.ph≠7->x.I (s.k+1) 0 y):=by
  rcases hy with ⟨h1,_,h2⟩|h
  ·exact⟨λ_=>h2,λh3=>absurd h1 h3⟩
  ·exact⟨λh3=>absurd h3 (hI _ _ _ h).2.1,λ_=>h⟩
 obtain⟨e1,e2⟩:=e;refine bf (λh=>⟨⟨y,s.k,0⟩,e1 (beq_iff_eq.1 h),by repeat' (first|exact rfl|refine And.intro ?_ ?_),rfl⟩) λh=>⟨atw _ k50,⟨y,s.k+1,0⟩,⟨by show 1<=s.k+1;omega,e2 (by simpa using h)⟩,by show 501-(s.k+1)<_;omega,by show((s.k+1:Nat):Int)=_;omega,by repeat' (first|exact rfl|refine And.intro ?_ ?_),rfl⟩
theorem aoH:cO Tryz.prog 35 (runK 1):=iP dG mixed aoG avp 200 6 (λ_=>rfl) (λ_=>⟨λ_=>rfl,trivial⟩) λx hx=>Eq.mp (aeA x) (TM x (aZ.1 hx))
theorem aoI:cO Tryz.prog 35 (runK 2):=iP dG mixed (aoF aey) (annK 2) 200 6 (λ_=>rfl) (λ_=>⟨λ_=>rfl,trivial⟩) λx hx=>Eq.mp (aeB x) (TN x (aZ.1 hx))
def zBk:ZBlk:=⟨0,0,0,0,0,⟨#[]⟩,⟨#[]⟩⟩
def zf(a:ZSto)(b:ZBlk)(ln:Nat):Prop:=PBy a.d b ln/\ ∃i j,a.p.at_ ln i j/\a.p.cls i=b.cls
theorem zf.dev{a a':ZSto}{T M N:Nat}{B:ByteArray->ZBlk}{b:ZBlk}{ln:Nat}(h:zf a b ln)(g:eH a' T M N B)(hp:a'.p=a.p){K n:Nat}(hb: ∀m r:Nat,r<64-> ¬(K<=m/\m<K+n)->a'.d.b (m*193+r)=a.d.b (m*193+r))(hs:ln+b.dL<=K\/K+n<=ln):zf a' b ln:=by
 obtain⟨⟨h1,h2,h3,h4⟩,i,j,h5,h6⟩:=h;rw[<-hp]at h5 h6;have hf:=(Gm g.pg h5).2.1;have hfit:=g.fit;refine⟨⟨h1,h2,by rw[<-h6];omega,λq hq=> ?_⟩,i,j,h5,h6⟩;rw[hb _ _ (by omega) (by omega)];exact h4 q hq
theorem zf.apart{a:ZSto}{T M N:Nat}{B:ByteArray->ZBlk}{b:ZBlk}{ln K:Nat}{c:Int}(h:zf a b ln)(g:eH a T M N B)(hh:nJ a K c)(hne:ln≠K):ln+b.dL<=K\/K+(spn c).toNat<=ln:=by
 obtain⟨⟨h1,_⟩,i,j,h5,h6⟩:=h;obtain⟨⟨i',j',h7,rfl⟩,_⟩:=hh;have:=TJ g.pg h5 h7 (by omega);have s:=oN b;have s2:=dU (a.p.cls i');rw[h6]at this;omega
theorem zf.has{a:ZSto}{b:ZBlk}{ln:Nat}(h:zf a b ln):a.p.has ln:=let ⟨_,i,j,h,_⟩:=h;⟨i,j,h⟩
structure ZWp where
 a:ZSto
 T:Nat
 M:Nat
 N:Nat
 B:ByteArray->ZBlk
 t:Nat
 key:ByteArray
 v:ByteArray
namespace ZWp
def ok(x:ZWp):Prop:=eH x.a x.T x.M x.N x.B/\x.t<x.T/\x.a.r.has x.t=0/\x.M<=900000/\x.N<=100
def a1(x:ZWp):ZSto:=x.a.vI x.t x.a.r.now
def a2(x:ZWp):ZSto:=x.a1.vI x.t 0
def c(x:ZWp):Int:=ned ((x.key.size+x.v.size:Nat):Int)
def sp(x:ZWp):Nat:=(spn x.c).toNat
def had(x:ZWp):Bool:=(gY x.a.L x.key).isSome
noncomputable def far(x:ZWp):Nat:=(fl x.a.L (bkt x.key) ⟨#[]⟩ false x.key).length
end ZWp
structure PPut (x:ZWp) (R:ZRd) (a':ZSto) (B':ByteArray->ZBlk):Prop where
 base:eH a' x.T (x.M+400) (x.N+1) B'
 bk: ∃b,B'=updB x.B x.key b/\b.value=x.v/\b.key=x.key/\b.may
 L: ∃l,a'.L=jv x.a.L l/\l.key=x.key
 r:a'.r=R
 n:a'.n=x.a.n+1
 e: ∃E:ZEff,E.epoch=x.a.c.now/\ ∀i,a'.e i=if i=x.a.n then E else x.a.e i
 now:a'.c.now=x.a.c.now
 pool: ∃i j,x.a.p.takes x.c i j/\a'.p=x.a.p.take x.c i j
 bag: ∃e:gG,e.r=x.a.r.now/\a'.b=if x.had=true then x.a.b.put e else x.a.b
 keep: ∀b ln,zf x.a b ln->zf a' b ln
 note: ∃K:Nat,a'.c=x.a.c.notes x.t K x.sp
structure FP (x:ZWp) (f:ZFp):Prop where
 key:f.key=x.key
 value:f.value=x.v
 code:f.code=0
 found:f.found=false
 ans:f.ans=⟨#[]⟩
 ep:f.epoch=x.a.c.now
 aep:f.aep=0
def was(x:ZWp)(f:ZFp):Prop:=gY x.a.L x.key=if f.had=true then some f.old else none
def ZWp.ap(x:ZWp)(i j:Nat)(d:DevM):ZSto:=(x.a1.X3 (x.a.p.take x.c i j)).Gx d
inductive TP (x:ZWp):Nat->Nat->ZKs->Prop
 |enter:TP x 1 0 ⟨x.a,fK x.key x.v,0⟩
 |as2 {j f} (h:FP x f) (hs:aoE f) (hl:f.line= -1) (hj:j+(ZKs.mk x.a1 f 1).aeY=2+x.far):TP x j 0 ⟨x.a1,f,1⟩
 |take {f} (h:FP x f) (hl:f.line= -1) (hw:was x f):TP x (3+x.far) 0 ⟨x.a1,f,3⟩
 |write {f i j K p d} (hn: ¬x.a.p.has ((K:Nat):Int)) (kp: ∀b ln,zf x.a b ln->zf (x.ap i j d) b ln) (h:FP x f) (hw:was x f) (ht:x.a.p.takes x.c i j) (g:eH (x.ap i j d) x.T (x.M+20*p) x.N x.B) (hh:nJ (x.ap i j d) K x.c) (hd:aeX d K x.key x.v p) (hl:f.line=(K:Nat)) (hp:f.piece=(p:Nat)) (hc:f.cls=x.c) (hlt:p<x.sp):TP x (4+x.far+p) 0 ⟨x.ap i j d,f,4⟩
 |pub {f i j K d} (hn: ¬x.a.p.has ((K:Nat):Int)) (kp: ∀b ln,zf x.a b ln->zf (x.ap i j d) b ln) (h:FP x f) (hw:was x f) (ht:x.a.p.takes x.c i j) (g:eH (x.ap i j d) x.T (x.M+160) x.N x.B) (hh:nJ (x.ap i j d) K x.c) (hd:aeX d K x.key x.v x.sp) (hl:f.line=(K:Nat)) (hc:f.cls=x.c):TP x (4+x.far+x.sp) 0 ⟨x.ap i j d,f,5⟩
 |leave {f a' B'} (hc:f.code=0) (hf:f.found=x.had) (ha:f.ans=⟨#[]⟩) (he:f.aep=x.a.c.now) (g:PPut x (x.a.r.put x.t x.a.r.now) a' B'):TP x (5+x.far+x.sp) 0 ⟨a',f,6⟩
 |full {f} (hc:f.code=4) (hf:f.found=false) (ha:f.ans=⟨#[]⟩) (he:f.aep=0) (hfu: ∀i,i<x.a.p.n->x.a.p.cls i≠ -1/\x.a.p.full x.c i):TP x (4+x.far) 0 ⟨x.a1,f,6⟩
inductive atx (x:ZWp):Nat->ZKs->Prop
 |bad {s} (h:goodP 2 x.key x.v≠0) (hs:s=⟨x.a,{fK x.key x.v with code:=goodP 2 x.key x.v},7⟩):atx x 1 s
 |full {f} (h:goodP 2 x.key x.v=0) (hc:f.code=4) (hf:f.found=false) (ha:f.ans=⟨#[]⟩) (he:f.aep=0) (hfu: ∀i,i<x.a.p.n->x.a.p.cls i≠ -1/\x.a.p.full x.c i):atx x (4+x.far) ⟨x.a2,f,7⟩
 |done {f a' B'} (h:goodP 2 x.key x.v=0) (hc:f.code=0) (hf:f.found=x.had) (ha:f.ans=⟨#[]⟩) (he:f.aep=x.a.c.now) (g:PPut x ((x.a.r.put x.t x.a.r.now).put x.t 0) a' B'):atx x (5+x.far+x.sp) ⟨a',f,7⟩
theorem ap4{L:Lks}{b:Nat}{pos s:ByteArray}{past:Bool}:(fl L b pos past s).length<=L.length:=List.length_filter_le _ _
theorem as3{x:ZWp}{f:ZFp}(h:was x f):f.had=x.had:=by
 unfold was at h;unfold ZWp.had;rw[h];cases f.had<;>rfl
theorem aoJ{x:ZWp}(hx:x.ok){j m:Nat}{s:ZKs}(h:TP x j m s)(hg:s.ph≠0->goodP 2 x.key x.v=0):j<=400/\s.ph≠7/\wP 2 x.t zBk m s (λm' y=>(y.ph=7/\m'=0/\atx x j y)\/(TP x (j+1) m' y/\(y.ph≠0->goodP 2 x.key x.v=0))):=by
 obtain⟨g,ht,hr,hM,hN⟩:=hx;have hfar:x.far<=100:=Nat.le_trans ap4 (Nat.le_trans g.len hN);have hsp:x.sp<=8:=by have:=dU x.c;unfold ZWp.sp;omega
 have g1:eH x.a1 x.T x.M x.N x.B:=g.vI;cases h with
 |enter=>
  refine⟨by decide,by show¬(0:Int)=7;decide,wp0 g ht hr rfl (λe=> .inl ⟨rfl,rfl,.bad e rfl⟩) λe _=> .inr ⟨.as2 ⟨rfl,rfl,rfl,rfl,rfl,rfl,rfl⟩ ⟨(y8 e).2.1,by show(0:Nat)<=16;decide,λh=>by cases h⟩ rfl ?_,λ_=>e⟩⟩;show 1+1+(fl x.a.L (bkt x.key) ⟨#[]⟩ false x.key).length=2+x.far;unfold ZWp.far;omega
 | @as2 j f hF hs hl hj=>
  have e:=hg (by show¬(1:Int)=0;decide);refine⟨by omega,by show¬(1:Int)=7;decide,TL (k:=2) (t:=x.t) (b:=zBk) g1 rfl hs (λh=>by cases h) (λy hy hs' hgo=> .inr ⟨.as2 ⟨hF.key,hF.value,hF.code,hF.found,hF.ans,hF.ep,hF.aep⟩ hs' hl (by have hgo:(ZKs.mk x.a1 f 1).aeY=(ZKs.mk x.a1 {f with pos:=y.key,past:=true} 1).aeY+1:=hgo;show j+1+(ZKs.mk x.a1 {f with pos:=y.key,past:=true} 1).aeY=2+x.far;omega),λ_=>e⟩) (λy hy h0=> ?_) λhy h0=> ?_⟩
  ·have e1:nx3 f 2 true=3:=by unfold nx3;rw[if_neg (by decide),if_neg (by decide),if_pos (by omega)]
   have ej:j+1=3+x.far:=by omega
   show(nx3 f 2 true=7/\_)\/(TP x (j+1) 0 ⟨x.a1,_,nx3 f 2 true⟩/\_);rw[e1,ej];exact .inr ⟨.take ⟨hF.key,hF.value,hF.code,hF.found,hF.ans,hF.ep,hF.aep⟩ hl (by have hy:gY x.a.L f.key=some y:=hy;rw[hF.key]at hy;exact hy),λ_=>e⟩
  ·have e1:nx3 f 2 false=3:=by unfold nx3;rw[if_neg (by decide),if_neg (by decide),if_pos (by omega)]
   have ej:j+1=3+x.far:=by omega
   show(nx3 f 2 false=7/\_)\/(TP x (j+1) 0 ⟨x.a1,_,nx3 f 2 false⟩/\_);rw[e1,ej];exact .inr ⟨.take ⟨hF.key,hF.value,hF.code,hF.found,hF.ans,hF.ep,hF.aep⟩ hl (by have hy:gY x.a.L f.key=none:=hy;rw[hF.key]at hy;exact hy),λ_=>e⟩
 | @take f hF hl hw=>
  have e:=hg (by show¬(3:Int)=0;decide);obtain⟨k0,k1,k2⟩:=y8 e;have ec:ndK 2 f=x.c:=by unfold ndK ZWp.c;rw[if_pos rfl,hF.key,hF.value]
  refine⟨by omega,by show¬(3:Int)=7;decide,wp3 (k:=2) g1 (.inl rfl) rfl (by rw[hF.key];exact k1) (by rw[hF.value];exact k2 rfl) (λhfu=> ?_) λi j K h1 h2 h3 h4 hnew=> ?_⟩
  ·have hfu: ∀i,i<x.a.p.n->x.a.p.cls i≠ -1/\x.a.p.full (ndK 2 f) i:=hfu
   rw[ec]at hfu;have:=TP.full (x:=x) (f:={f with cls:=ndK 2 f,code:=4}) rfl hF.found hF.ans hF.aep hfu;rw[show 3+x.far+1=4+x.far by omega];exact .inr ⟨this,λ_=>e⟩
  ·have h1:x.a.p.takes (ndK 2 f) i j:=h1
   have h3:eH (x.a1.X3 (x.a.p.take (ndK 2 f) i j)) x.T x.M x.N x.B:=h3;have h4:nJ (x.a1.X3 (x.a.p.take (ndK 2 f) i j)) K (ndK 2 f):=h4;show(_/\_)\/(TP x _ 0 ⟨x.a1.X3 (x.a.p.take (ndK 2 f) i j),{f with cls:=ndK 2 f,line:=K,piece:=0},4⟩/\_);rw[ec]at h1 h3 h4 ⊢;have s1:=dU x.c;have s2:=ap3 (k:=2) (f:=f) (by rw[hF.key];exact k1) (by rw[hF.value];exact k2 rfl);rw[ec]at s2;have hz:0<x.sp:=by unfold ZWp.sp;omega
   have:=TP.write (x:=x) (f:={f with cls:=x.c,line:=K,piece:=0}) (i:=i) (j:=j) (K:=K) (p:=0) (d:=x.a.d) hnew (λb ln hk=>⟨hk.1,by obtain⟨_,i',j',q1,q2⟩:=hk;obtain⟨q3,q4⟩:=take_at g.pg h1 _ _ _ q1;exact⟨i',j',q3,q4.trans q2⟩⟩) ⟨hF.key,hF.value,hF.code,hF.found,hF.ans,hF.ep,hF.aep⟩ hw h1 h3 h4 (λm r h1 h2 _=>absurd h2 (by omega)) rfl rfl rfl hz;rw[show 3+x.far+1=4+x.far+0 by omega];exact .inr ⟨this,λ_=>e⟩
 | @write f i j K p d hn kp hF hw htk g' hh hd hl hp hc hlt=>
  have e:=hg (by show¬(4:Int)=0;decide);obtain⟨k0,k1,k2⟩:=y8 e;have s1:=dU x.c;have hsp2:(x.sp:Int)=spn x.c:=by unfold ZWp.sp;omega
  refine⟨by omega,by show¬(4:Int)=7;decide,wp4 (k:=2) g' (by omega) rfl (by rw[hF.key];exact k1) (by rw[hF.value];exact k2 rfl) (K:=K) (p:=p) (.inl rfl) hl hp (by show(p:Int)<spn f.cls;rw[hc];omega) (by show nJ _ K f.cls;rw[hc];exact hh) (by rw[hF.key,hF.value];exact hd) (λd' hne gd hh' hd' hb=> ?_) λd' heq gd hh' hd' hb=> ?_⟩
  ·have hne:(p:Int)+1≠spn f.cls:=hne
   have hh':nJ (x.ap i j d') K f.cls:=hh';have hd':aeX d' K f.key f.value (p+1):=hd';rw[hc]at hne hh';rw[hF.key,hF.value]at hd';have:=TP.write (x:=x) (f:={f with piece:=(p+1:Nat)}) (i:=i) (j:=j) (K:=K) (p:=p+1) (d:=d') hn (λb ln hk=>(kp b ln hk).dev gd rfl (K:=K) (n:=(spn f.cls).toNat) hb (by rw[hc];exact(kp b ln hk).apart g' hh λe=>hn (by rw[<-e];exact hk.has))) ⟨hF.key,hF.value,hF.code,hF.found,hF.ans,hF.ep,hF.aep⟩ hw htk (by rw[show x.M+20*(p+1)=x.M+20*p+20 by omega];exact gd) hh' hd' hl rfl hc (by omega);rw[show 4+x.far+p+1=4+x.far+(p+1) by omega];exact .inr ⟨this,λ_=>e⟩
  ·have heq:(p:Int)+1=spn f.cls:=heq
   have hh':nJ (x.ap i j d') K f.cls:=hh';have hd':aeX d' K f.key f.value (spn f.cls).toNat:=hd';rw[hc]at heq hh' hd';rw[hF.key,hF.value]at hd';have:=TP.pub (x:=x) (f:={f with piece:=0}) (i:=i) (j:=j) (K:=K) (d:=d') hn (λb ln hk=>(kp b ln hk).dev gd rfl (K:=K) (n:=(spn f.cls).toNat) hb (by rw[hc];exact(kp b ln hk).apart g' hh λe=>hn (by rw[<-e];exact hk.has))) ⟨hF.key,hF.value,hF.code,hF.found,hF.ans,hF.ep,hF.aep⟩ hw htk (eH.up gd (by omega) (aY _)) hh' hd' hl hc;rw[show 4+x.far+p+1=4+x.far+x.sp by omega];exact .inr ⟨this,λ_=>e⟩
 | @pub f i j K d hn kp hF hw htk g' hh hd hl hc=>
  have e:=hg (by show¬(5:Int)=0;decide);obtain⟨k0,k1,k2⟩:=y8 e;refine⟨by omega,by show¬(5:Int)=7;decide,wp5p (k:=2) g' (by omega) (by omega) rfl rfl (K:=K) ht hl (by show nJ _ K f.cls;rw[hc];exact hh) (by rw[hF.key];exact k0) (by rw[hF.key];exact k1) (by rw[hF.value];exact k2 rfl) (by show f.cls=_;rw[hc,hF.key,hF.value];rfl) hF.ep (by show gY x.a.L f.key=_;rw[hF.key];exact hw) (by show aeX d K f.key f.value (spn f.cls).toNat;rw[hF.key,hF.value,hc];exact hd) λgr=> ?_⟩;have wh:=as3 hw;rw[show 4+x.far+x.sp+1=5+x.far+x.sp by omega];refine .inr ⟨.leave (B':=updB x.B f.key (atv ⟨x.ap i j d,f,5⟩ x.t K)) hF.code (by show f.had=_;exact wh) hF.ans (by show f.epoch=_;exact hF.ep) ?_,λ_=>e⟩
  exact{base:=eH.up gr (by omega) (aY _)
        bk:=⟨_,by rw[hF.key],hF.value,hF.key,by
         obtain⟨ln,_,q2,_,_,_,q6,_⟩:=gr.q ((((ZPp.mk (x.ap i j d) f x.t K).pt 2).cg).lnk 2 f.had) ((gZ g'.srt).2 (.inl rfl));have e0:updB x.B f.key (atv ⟨x.ap i j d,f,5⟩ x.t K) ((((ZPp.mk (x.ap i j d) f x.t K).pt 2).cg).lnk 2 f.had).key=atv ⟨x.ap i j d,f,5⟩ x.t K:=if_pos rfl;rw[e0]at q6
         exact q6.1⟩
        L:=⟨(((ZPp.mk (x.ap i j d) f x.t K).pt 2).cg).lnk 2 f.had,rfl,hF.key⟩
        r:=rfl
        n:=rfl
        e:=⟨(((ZPp.mk (x.ap i j d) f x.t K).pt 2).cg).eff 2 f.had,hF.ep,λi=>rfl⟩
        now:=rM _ _ _ _
        pool:=⟨i,j,htk,rfl⟩
        keep:=λb ln hk=>(kp b ln hk).dev gr rfl (K:=K) (n:=(spn x.c).toNat) (λm r hr hm=>by
         show(d.store K 0 64 _).b (m*193+r)=d.b (m*193+r)
         rw[zS _ _ _ _ _ hr,if_neg λe=>hm ⟨by omega,by have s:=dU x.c;have f:=hh.fits g';omega⟩]) ((kp b ln hk).apart g' hh λe=>hn (by rw[<-e];exact hk.has))
        bag:=⟨(((ZPp.mk (x.ap i j d) f x.t K).pt 2).cg).ent 2,rfl,by
         rw[<-wh];show(if f.had=true/\(2:Int)≠4 then x.a.b.put _ else x.a.b)=_
         cases f.had<;>rfl⟩
        note:=⟨K,by
         show x.a.c.notes x.t (K:Int) (atv ⟨x.ap i j d,f,5⟩ x.t K).dL=_;have:(atv ⟨x.ap i j d,f,5⟩ x.t K).dL=x.sp:=by show(spn f.cls).toNat=_;rw[hc];rfl
         rw[this]⟩}
 | @leave f a' B' hc hf ha he gp=>
  have e:=hg (by show¬(6:Int)=0;decide);refine⟨by omega,by show¬(6:Int)=7;decide,wp6 gp.base rfl ht λgr=> .inl ⟨rfl,rfl,.done (B':=B') e hc hf ha he ?_⟩⟩;exact{base:=gr,bk:=gp.bk,L:=gp.L,r:=by show a'.r.put x.t 0=_;rw[gp.r],n:=gp.n,e:=gp.e,now:=gp.now,pool:=gp.pool,bag:=gp.bag,keep:=λb ln hk=>gp.keep b ln hk,note:=gp.note}
 | @full f hc hf ha he hfu=>
  have e:=hg (by show¬(6:Int)=0;decide);exact⟨by omega,by show¬(6:Int)=7;decide,wp6 g1 rfl ht λ_=> .inl ⟨rfl,rfl,.full e hc hf ha he hfu⟩⟩
inductive aoK (x:ZWp):Nat->Nat->ZKs->Prop
 |enter:aoK x 1 0 ⟨x.a,fK x.key x.v,0⟩
 |as2 {j f} (h:FP x f) (hs:aoE f) (hj:j+(ZKs.mk x.a1 f 1).aeY=2+x.far):aoK x j 0 ⟨x.a1,f,1⟩
 |read {f m y ln} (h:FP x f) (hh:f.had=true) (hw:gY x.a.L x.key=some y) (hl:y.line=(ln:Nat)) (ho:f.old=y) (hp:f.piece=(m:Nat)) (hlt:(m:Int)<spn (x.B x.key).cls):aoK x (3+x.far+m) m ⟨x.a1,f,2⟩
 |leave {j f} (hj:j<=200) (hc:f.code=0) (he:f.aep=0) (h:f.found=false/\f.ans=⟨#[]⟩/\gY x.a.L x.key=none\/f.found=true/\f.ans=(x.B x.key).value/\ ∃y,gY x.a.L x.key=some y):aoK x j 0 ⟨x.a1,f,6⟩
inductive aty (x:ZWp):ZKs->Prop
 |bad {s} (h:goodP 1 x.key x.v≠0) (hs:s=⟨x.a,{fK x.key x.v with code:=goodP 1 x.key x.v},7⟩):aty x s
 |miss {f} (h:goodP 1 x.key x.v=0) (hc:f.code=0) (he:f.aep=0) (hf:f.found=false) (ha:f.ans=⟨#[]⟩) (hw:gY x.a.L x.key=none):aty x ⟨x.a2,f,7⟩
 |hit {f y} (h:goodP 1 x.key x.v=0) (hc:f.code=0) (he:f.aep=0) (hf:f.found=true) (ha:f.ans=(x.B x.key).value) (hw:gY x.a.L x.key=some y):aty x ⟨x.a2,f,7⟩
theorem aoL{x:ZWp}(hx:x.ok){j m:Nat}{s:ZKs}(h:aoK x j m s)(hg:s.ph≠0->goodP 1 x.key x.v=0):j<=400/\s.ph≠7/\wP 1 x.t (x.B x.key) m s (λm' y=>(y.ph=7/\m'=0/\aty x y)\/(aoK x (j+1) m' y/\(y.ph≠0->goodP 1 x.key x.v=0))):=by
 obtain⟨g,ht,hr,hM,hN⟩:=hx;have hfar:x.far<=100:=Nat.le_trans ap4 (Nat.le_trans g.len hN);have g1:eH x.a1 x.T x.M x.N x.B:=g.vI;cases h with
 |enter=>
  refine⟨by decide,by show¬(0:Int)=7;decide,wp0 g ht hr rfl (λe=> .inl ⟨rfl,rfl,.bad e rfl⟩) λe _=> .inr ⟨.as2 ⟨rfl,rfl,rfl,rfl,rfl,rfl,rfl⟩ ⟨(y8 e).2.1,by show(0:Nat)<=16;decide,λh=>by cases h⟩ ?_,λ_=>e⟩⟩;show 1+1+(fl x.a.L (bkt x.key) ⟨#[]⟩ false x.key).length=2+x.far;unfold ZWp.far;omega
 | @as2 j f hF hs hj=>
  have e:=hg (by show¬(1:Int)=0;decide);refine⟨by omega,by show¬(1:Int)=7;decide,TL (k:=1) (t:=x.t) (b:=x.B x.key) g1 rfl hs (λh=>by cases h) (λy hy hs' hgo=> .inr ⟨.as2 ⟨hF.key,hF.value,hF.code,hF.found,hF.ans,hF.ep,hF.aep⟩ hs' (by have hgo:(ZKs.mk x.a1 f 1).aeY=(ZKs.mk x.a1 {f with pos:=y.key,past:=true} 1).aeY+1:=hgo;show j+1+(ZKs.mk x.a1 {f with pos:=y.key,past:=true} 1).aeY=2+x.far;omega),λ_=>e⟩) (λy hy h0=> ?_) λhy h0=> ?_⟩
  ·have hy:gY x.a.L f.key=some y:=hy
   rw[hF.key]at hy;have hm:=og hy;obtain⟨ln,q1,k1,k2,k3,k4,q2,_⟩:=g.q y hm.1;have hsp:(0:Int)<spn (x.B x.key).cls:=by
    have h1:=q2.1.1;rw[hm.2]at h1;have:=dU (x.B x.key).cls;omega
   have:=aoK.read (x:=x) (f:={f with had:=true,old:=y,piece:=0}) (m:=0) (y:=y) (ln:=ln) ⟨hF.key,hF.value,hF.code,hF.found,hF.ans,hF.ep,hF.aep⟩ rfl hy q1 rfl rfl hsp;rw[show j+1=3+x.far+0 by omega];exact .inr ⟨this,λ_=>e⟩
  ·have hy:gY x.a.L f.key=none:=hy
   rw[hF.key]at hy;exact .inr ⟨.leave (by omega) hF.code hF.aep (.inl ⟨hF.found,hF.ans,hy⟩),λ_=>e⟩
 | @read f m y ln hF hh hw hl ho hp hlt=>
  have e:=hg (by show¬(2:Int)=0;decide);have hm:=og hw;obtain⟨ln',q1,k1,k2,k3,k4,q2,_⟩:=g.q y hm.1;have el:ln'=ln:=by have:=q1.symm.trans hl;omega
  subst el;have hsp:=dU (x.B x.key).cls;rw[hm.2]at k1 k2 k3 k4 q2;refine⟨by omega,by show¬(2:Int)=7;decide,wp2 (k:=1) rfl rfl g1.dok (ln:=ln') q2 hh ?_ hp hlt (λhne=> ?_) λheq=> ?_⟩
  ·show f.old=_
   rw[ho,k1,k2,k3,k4,<-q1,<-hm.2]
  ·have:=aoK.read (x:=x) (f:={f with piece:=(m+1:Nat)}) (m:=m+1) (y:=y) (ln:=ln') ⟨hF.key,hF.value,hF.code,hF.found,hF.ans,hF.ep,hF.aep⟩ hh hw hl ho rfl (by omega)
   rw[show 3+x.far+m+1=3+x.far+(m+1) by omega];exact .inr ⟨this,λ_=>e⟩
  ·exact .inr ⟨.leave (by omega) hF.code hF.aep (.inr ⟨rfl,rfl,y,hw⟩),λ_=>e⟩
 | @leave j f hj hc he h=>
  have e:=hg (by show¬(6:Int)=0;decide);refine⟨by omega,by show¬(6:Int)=7;decide,wp6 g1 rfl ht λ_=> .inl ⟨rfl,rfl,?_⟩⟩;rcases h with ⟨h1,h2,h3⟩|⟨h1,h2,y,h3⟩
  ·exact .miss e hc he h1 h2 h3
  ·exact .hit e hc he h1 h2 h3
noncomputable def akJ:Ctr:={X:=ZWp,args:=λx=>[.ptr 0 0,i64 x.t,anb 2 x.key x.v],k:=1,os:=λx=>[.abs (ownM x.a.os)],pre:=λx=>Hd x.ok,outs:=[
 {Y:=Unit,post:=λx _=>Hd (goodP 2 x.key x.v≠0),ret:=λx _=> .tup [aeV (goodP 2 x.key x.v) false ⟨#[]⟩ 0,i64 1,boo true],m:=1,os:=λx _=>[.abs (ownM x.a.os)]},
 {Y:=Unit,post:=λx _=>Hd (goodP 2 x.key x.v=0/\ ∀i,i<x.a.p.n->x.a.p.cls i≠ -1/\x.a.p.full x.c i),ret:=λx _=> .tup [aeV 4 false ⟨#[]⟩ 0,i64 (4+x.far:Nat),boo true],m:=1,os:=λx _=>[.abs (ownM x.a2.os)]},
 {Y:=ZSto,post:=λx y=>Hd (goodP 2 x.key x.v=0/\ ∃B',PPut x ((x.a.r.put x.t x.a.r.now).put x.t 0) y B'),ret:=λx _=> .tup [aeV 0 x.had ⟨#[]⟩ x.a.c.now,i64 (5+x.far+x.sp:Nat),boo true],m:=1,os:=λ_ y=>[.abs (ownM y.os)]}]}
noncomputable def akK:Ctr:={X:=ZWp,args:=λx=>[.ptr 0 0,i64 x.t,anb 1 x.key x.v],k:=1,os:=λx=>[.abs (ownM x.a.os)],pre:=λx=>Hd x.ok,outs:=[
 {Y:=Nat,post:=λx _=>Hd (goodP 1 x.key x.v≠0),ret:=λx n=> .tup [aeV (goodP 1 x.key x.v) false ⟨#[]⟩ 0,i64 n,boo true],m:=1,os:=λx _=>[.abs (ownM x.a.os)]},
 {Y:=Nat,post:=λx _=>Hd (goodP 1 x.key x.v=0/\gY x.a.L x.key=none),ret:=λx n=> .tup [aeV 0 false ⟨#[]⟩ 0,i64 n,boo true],m:=1,os:=λx _=>[.abs (ownM x.a2.os)]},
 {Y:=Nat,post:=λx _=>Hd (goodP 1 x.key x.v=0/\ ∃y,gY x.a.L x.key=some y),ret:=λx n=> .tup [aeV 0 true (x.B x.key).value 0,i64 n,boo true],m:=1,os:=λx _=>[.abs (ownM x.a2.os)]}]}
theorem ap5{X:Type}{x:X}{v:AV}{h':Heap}{o p q:Out X}{r:List (Out X)}(h: ∃y,q.post x y/\v=q.ret x y/\h'=hO q.m (q.os x y)):kP x v h' (o::p::q::r):=by
 rw[dV,dV,dV];exact .inr (.inr (.inl h))
theorem Jt:cO Tryz.prog 35 akJ:=jg λx hx=>by
 have hx:=aZ.1 hx;refine⟨_,aoI,rfl,⟨x.a,x.t,x.key,x.v,zBk,λj m s=>TP x j m s/\(s.ph≠0->goodP 2 x.key x.v=0),atx x⟩,aZ.2 ⟨⟨.enter,λh=>absurd rfl h⟩,λj m s h=>aoJ hx h.1 h.2⟩,rfl,rfl,λv h' hh=> ?_⟩;obtain⟨⟨s,n,m⟩,h0,e1,e2⟩:=jh hh;have h0:atx x n s:=aZ.1 h0;cases h0 with
 |bad h hs=>
  subst hs;exact eF ⟨(),aZ.2 h,e1,e2⟩
 | @full f h hc hf ha he hfu=>
  refine ER ⟨(),aZ.2 ⟨h,hfu⟩,e1.trans ?_,e2⟩;show AV.tup [aeV f.code f.found f.ans f.aep,_,_]=_;rw[hc,hf,ha,he]
  first|done|rfl
 | @done f a' B' h hc hf ha he g=>
  refine ap5 ⟨a',aZ.2 ⟨h,B',g⟩,e1.trans ?_,e2⟩;show AV.tup [aeV f.code f.found f.ans f.aep,_,_]=_;rw[hc,hf,ha,he]
  first|done|rfl
theorem aeC:cO Tryz.prog 35 akK:=jg λx hx=>by
 have hx:=aZ.1 hx;refine⟨_,aoH,rfl,⟨x.a,x.t,x.key,x.v,x.B x.key,λj m s=>aoK x j m s/\(s.ph≠0->goodP 1 x.key x.v=0),λ_=>aty x⟩,aZ.2 ⟨⟨.enter,λh=>absurd rfl h⟩,λj m s h=>aoL hx h.1 h.2⟩,rfl,rfl,λv h' hh=> ?_⟩;obtain⟨⟨s,n,m⟩,h0,e1,e2⟩:=jh hh;have h0:aty x s:=aZ.1 h0;cases h0 with
 |bad h hs=>
  subst hs;exact eF ⟨n,aZ.2 h,e1,e2⟩
 | @miss f h hc he hf ha hw=>
  refine ER ⟨n,aZ.2 ⟨h,hw⟩,e1.trans ?_,e2⟩;show AV.tup [aeV f.code f.found f.ans f.aep,_,_]=_;rw[hc,hf,ha,he]
  first|done|rfl
 | @hit f y h hc he hf ha hw=>
  refine ap5 ⟨n,aZ.2 ⟨h,y,hw⟩,e1.trans ?_,e2⟩;show AV.tup [aeV f.code f.found f.ans f.aep,_,_]=_;rw[hc,hf,ha,he]
  first|done|rfl
noncomputable def as4:WTr:=λargs h K=>match args with
 |[a,t,.agg l]=>(bif decide (intL l 0=2)then ctrT akJ else ctrT akK) [a,t,.agg l] h K
 |_=>False
theorem aoM(args:List AV)(h:Heap)(K:AV->Heap->Prop)(hq:as4 args h K):Sp Tryz.prog 35 args h K:=by
 unfold as4 at hq;split at hq
 ·exact Jc (P:=Tryz.prog) (f:=35) _ (bP Jt) (bP aeC) _ _ _ hq
 ·exact hq.elim
noncomputable def Dt:Ctr:=det Unit (λ_=>[]) 0 (λ_=>[]) (λ_=>True) (λ_=>boo true) 0 (λ_=>[])
noncomputable def ap6:je:=[(13,ctrT ad5.ctr),(35,as4)]
theorem akL:dZ Tryz.prog ap6:= .cons (bP ajD) (.cons aoM .nil)
def ug:Prop:= ∃y_3:Unit,True/\true=false/\True
def akM:Prop:=ByteArray.mk #[]=ByteArray.mk #[]/\Value.slice none 0 0=Value.slice none 0 0/\True
def abv(a:ZWp):Prop:=0=0/\(a.t:Int)=0/\((1:Int)=1/\a.key= @ByteArray.mk (@List.toArray UInt8 [(97:UInt8)])/\a.v=ByteArray.mk #[]/\akM)/\True
def abw(a:ZWp):Prop:=Hd (goodP (1:Int) a.key a.v=0/\ ∃y_3:ZLnk,gY a.a.L a.key=some y_3)
def Og(a:ZWp):Prop:=Hd (goodP (1:Int) a.key a.v=0/\gY a.a.L a.key= @Option.none ZLnk)
def Oh(a:ZWp):Prop:=cP (BEq.beq ((4+a.far:Nat):Int) (6:Int)) ug ug
def YV(a:ZWp):Prop:=cP (BEq.beq ((5+a.far+a.sp:Nat):Int) (6:Int)) (cP (BEq.beq a.a.c.now (1:Int)) ug ug) ug
def Gp(x:Unit):Prop:=
 ∃x_1:ZNew,Hd (10<=x_1.n/\x_1.n<=258/\1<=x_1.t/\x_1.t<=4)/\((x_1.n:Int)=10/\(x_1.t:Int)=1/\True)/\True/\ ∀y:DevM,Hd (y.ok/\y.n=x_1.n/\y.st=2/\y.fl=2/\y.fe=1)-> ∃x_2:ZWp,Hd x_2.ok/\(0=0/\(x_2.t:Int)=0/\((2:Int)=2/\x_2.key= @ByteArray.mk (@List.toArray UInt8 [(97:UInt8)])/\x_2.v= @ByteArray.mk (@List.toArray UInt8 [(49:UInt8)])/\akM)/\True)/\(ownM x_2.a.os=ownM (ZSto.os (newSto x_1.n x_1.t y))/\True)/\(∀y_1:Unit,Hd (goodP (2:Int) x_2.key x_2.v≠(0:Int))-> ∃x_3:ZWp,Hd x_3.ok/\abv x_3/\(ownM x_3.a.os=ownM x_2.a.os/\True)/\(∀y_2:Nat,Hd (goodP (1:Int) x_3.key x_3.v≠(0:Int))->ug)/\(∀y_2:Nat,Og x_3->ug)/\ ∀y_2:Nat,abw x_3->ug)/\(∀y_1:Unit,Hd (goodP (2:Int) x_2.key x_2.v=0/\ ∀i:Nat,i<x_2.a.p.n->x_2.a.p.cls i≠(-(1:Int))/\x_2.a.p.full x_2.c i)-> ∃x_3:ZWp,Hd x_3.ok/\abv x_3/\(ownM x_3.a.os=ownM x_2.a2.os/\True)/\(∀y_2:Nat,Hd (goodP (1:Int) x_3.key x_3.v≠(0:Int))->Oh x_2)/\(∀y_2:Nat,Og x_3->Oh x_2)/\ ∀y_2:Nat,abw x_3->Oh x_2)/\ ∀y_1:ZSto,Hd (goodP (2:Int) x_2.key x_2.v=0/\ ∃B': ∀a:ByteArray,ZBlk,PPut x_2 (ZRd.put (x_2.a.r.put x_2.t x_2.a.r.now) x_2.t (0:Int)) y_1 B')-> ∃x_3:ZWp,Hd x_3.ok/\abv x_3/\(ownM x_3.a.os=ownM y_1.os/\True)/\(∀y_2:Nat,Hd (goodP (1:Int) x_3.key x_3.v≠(0:Int))->YV x_2)/\(∀y_2:Nat,Og x_3->YV x_2)/\ ∀y_2:Nat,abw x_3->cP (BEq.beq ((5+x_2.far+x_2.sp:Nat):Int) (6:Int)) (cP (BEq.beq x_2.a.c.now (1:Int)) (∃y_3:Unit,True/\true=BEq.beq (ByteArray.toList (ZBlk.value (x_3.B x_3.key))) (ByteArray.toList (@ByteArray.mk (@List.toArray UInt8 [(49:UInt8)])))/\
 True) ug) ug
theorem TQ(x:Unit):Gp x=wpF Tryz.prog ap6 tt (noA x) 200 6 32 (Dt.args x) (hO 0 []) (λv h'=>eX 0 x v h' Dt.outs):=by kernel_rfl
theorem Gq{n:Nat}(hn:0<n){c:Int}: ¬ ∀i,i<(gI n n).n->(gI n n).cls i≠ -1/\(gI n n).full c i:=λh=>(h 0 hn).1 (if_pos hn)
theorem eH.new{n T:Nat}{d:DevM}(h:d.ok/\d.n=n/\d.st=2/\d.fl=2/\d.fe=1)(hn:10<=n/\n<=258)(hT:1<=T/\T<=4)(B:ByteArray->ZBlk):eH (newSto n T d) T 10 0 B:={
 dok:=h.1
 dst:=by show d.st<=_;omega
 dfl:=by show d.fl<=_;omega
 dfe:=by show d.fe<=_;omega
 rok:=⟨hT.1,hT.2,show(1:Int)<=1 by decide,show(1:Int)<4611686018427387904 by decide⟩
 rt:=rfl
 cok:=⟨hT.1,hT.2,⟨show(0:Int)<=0+1 by decide,show(0:Int)+1<4611686018427387904 by decide⟩,⟨Int.le_refl 0,show(0:Int)<4611686018427387904 by decide⟩,⟨Int.le_refl 0,show(0:Int)<4611686018427387904 by decide⟩,λ_=>⟨Int.le_refl 0,show(0:Int)<1099511627776 by decide⟩⟩
 ct:=rfl
 ph:=rfl
 jr:=rfl
 pg:=by
  refine⟨⟨by show 1<=(n-2)/8;omega,by show(n-2)/8<=32;omega,λi hi=> ?_⟩,λi hi=> ?_⟩
  ·have hi:i<(n-2)/8:=hi
   show-1<=(if i<(n-2)/8 then(-1:Int)else 0)/\(if i<(n-2)/8 then(-1:Int)else 0)<=3/\(0:Int)<=0/\(0:Int)<=8;rw[if_pos hi];decide
  ·exact⟨λ_ _=>rfl,λk hk=>(nomatch hk),(congrArg Int.ofNat (RH (λ_=>rfl) 8)).symm⟩
 fit:=by show 2+(n-2)/8*8<=d.n;omega
 bok:=⟨Nat.zero_le _,λ_=>rfl⟩
 lok:=⟨show 0<1099511627776 by decide,aY 0,aY 0,λ_=>rfl,λh=>absurd rfl h⟩
 ln:=rfl
 srt:=List.Pairwise.nil
 len:=aY 0
 id0:=Int.le_refl 0
 id1:=show(0:Int)<=10 by decide
 v0:=Int.le_refl 0
 v1:=show(0:Int)<=10 by decide
 nn:=show 0<=10 by decide
 asX:=show(1:Int)<=0+1 by decide
 ap1:=show(0:Int)+1<=10 by decide
 owed:=λ_=>show(0:Int)<=10 by decide
 used:=λK _ hu=>by
  rcases hu with ⟨y,hy,_⟩|⟨i,hi,_⟩
  ·cases hy
  ·exact absurd hi (Nat.not_lt_zero i)
 q:=λy hy=>by cases hy}
theorem Hu(u:Unit):Gp u:=by
 unfold Gp;simp only[akM,abv,ug,Og,abw,Oh,YV];simp only[aZ,aV,aU,aA,aI,bU,bG,aO,aK,ay,aX,aW,bV,bH,bJ,bK,bW,bC,bM,bn,eY,aH,aN,ah,ak,aB,aF,aC,aG];refine⟨⟨10,1⟩,by decide,⟨rfl,rfl⟩,λd hd=> ?_⟩;have g0:=eH.new (n:=10) (T:=1) hd (by decide) (by decide) (λ_=>zBk);refine⟨⟨newSto 10 1 d,1,10,0,λ_=>zBk,0,⟨#[97]⟩,⟨#[49]⟩⟩,⟨g0,by show 0<1;decide,rfl,by show 10<=900000;decide,by show 0<=100;decide⟩,⟨rfl,rfl,rfl⟩,rfl,λh=>absurd (show goodP 2 ⟨#[97]⟩ ⟨#[49]⟩=0 by decide) h,λh=>absurd h.2 (Gq (n:=1) (by decide)),λa' h=> ?_⟩;obtain⟨_,B',g⟩:=h;obtain⟨l,hl,hk⟩:=g.L;obtain⟨b,hb,hv,_⟩:=g.bk;refine⟨⟨a',1,410,1,B',0,⟨#[97]⟩,⟨#[]⟩⟩,⟨g.base,by show 0<1;decide,by show a'.r.has 0=0;rw[g.r];rfl,by show 410<=900000;decide,by show 1<=100;decide⟩,⟨rfl,rfl,rfl⟩,rfl,λ_ h=>absurd (show goodP 1 ⟨#[97]⟩ ⟨#[]⟩=0 by decide) h,λ_ h=> ?_,λ_ h=> ?_⟩
 ·exfalso
  have h:gY a'.L ⟨#[97]⟩=none:=h.2;rw[hl]at h;have:=ank (l:=l) (s:=⟨#[97]⟩) (show srt (newSto 10 1 d).L from g0.srt);rw[if_pos (show(⟨#[97]⟩:ByteArray)=l.key from hk.symm)]at this;have h':=this.symm.trans h;cases h'
 ·have e0:B' ⟨#[97]⟩=b:=by rw[hb];exact if_pos rfl
  refine bf (λ_=>bf (λ_=> ?_) λh=> ?_) λh=> ?_
  ·show true=((B' ⟨#[97]⟩).value.toList==(⟨#[49]⟩:ByteArray).toList)
   rw[e0,hv];exact(beq_self_eq_true _).symm
  ·exact Bool.noConfusion (show true=false from h)
  ·exact Bool.noConfusion (show true=false from h)
theorem aeD:cO Tryz.prog 32 Dt:=dM dG mixed akL noA 200 6 (λ_=>rfl) (λ_=>rfl) λx _=>Eq.mp (TQ x) (Hu x)
namespace ZPool
end ZPool
noncomputable def Hw(r:Nat):iW:={X:=ZSto,args:=λ_=>[.ptr 0 0],k:=1,l:=λa=>[.m a.os],pre:=λ_=>Hd True,outs:=[{Y:=Unit,post:=λ_ _=>True,ret:=λ_ _=> .ptr r 0,m:=11,l:=λa _=>a.os.map PO.o}]}
def abx(a:ZSto):Prop:= ∃y:Unit,True/\0=0/\(0=0/\0=0/\0=0/\0=0/\0=0/\0=0/\0=0/\0=0/\a.id=a.id/\a.ver=a.ver/\(Nat.beq a.n 0=Nat.beq a.n 0/\a.n=a.n)/\True)/\(0=0/\(1:Int)=1/\(0:Int)=0/\(0:Int)=0/\True)/\ownM a.d.os=ownM a.d.os/\ownM a.p.os=ownM a.p.os/\ownM a.r.os=ownM a.r.os/\ownM a.ck.os=ownM a.ck.os/\ownM a.b.os=ownM a.b.os/\tabA a.L=tabA a.L/\ordA a.L=ordA a.L/\ownM a.l.os=ownM a.l.os/\(Nat.beq a.n 0=Nat.beq a.n 0/\a.n=a.n/\ ∀q:Nat,q<a.n->[Value.int .i64 (ZEff.kind (a.e q)),Value.string (ZEff.key (a.e q)),Value.string (ZEff.value (a.e q)),Value.int .u64 (ZEff.id (a.e q)),Value.int .u64 (ZEff.ver (a.e q)),Value.int .u64 (ZEff.epoch (a.e q)),Value.int .i64 (ZEff.group (a.e q))]=[Value.int .i64 (ZEff.kind (a.e q)),Value.string (ZEff.key (a.e q)),Value.string (ZEff.value (a.e q)),Value.int .u64 (ZEff.id (a.e q)),Value.int .u64 (ZEff.ver (a.e q)),Value.int .u64 (ZEff.epoch (a.e q)),Value.int .i64 (ZEff.group (a.e q))])/\True
def aby(a:ZSto):Prop:=
 abx a
def Oi(a:ZSto):Prop:=
 abx a
theorem YW(a:ZSto):Oi a=wpF Tryz.prog [] tt (noA a) 200 6 27 ((Hw 4).args a) (hO 11 (flatP 1 ((Hw 4).l a))) (λv h'=>endsPK 1 a v h' (Hw 4).outs):=by kernel_rfl
def Oj(a:ZSto):Prop:=
 abx a
theorem YX(a:ZSto):Oj a=wpF Tryz.prog [] tt (noA a) 200 6 22 ((Hw 5).args a) (hO 11 (flatP 1 ((Hw 5).l a))) (λv h'=>endsPK 1 a v h' (Hw 5).outs):=by kernel_rfl
def abz(a:ZSto):Prop:=
 abx a
theorem BQ(a:ZSto):aby a/\Oi a/\Oj a/\abz a:=by
 unfold aby Oi Oj abz;simp only[aZ,aV,aU,aA,aI,bU,bG,aO,aK,ay,aX,aW,bV,bH,bJ,bK,bW,bC,bM,bn,eY,aH,aN,ah,ak,aB,aF,aC,aG]
 repeat' (first|exact trivial|exact rfl|exactλ_ _=>rfl|refine And.intro ?_ ?_|refine⟨(),?_⟩)
theorem akN:cO Tryz.prog 27 (Hw 4).ctr:=dh dG mixed .nil 11 noA 200 6 (λ_=>⟨rfl,rfl,rfl,rfl⟩) λx _=>Eq.mp (YW x) (BQ x).2.1
theorem akO:cO Tryz.prog 22 (Hw 5).ctr:=dh dG mixed .nil 11 noA 200 6 (λ_=>⟨rfl,rfl,rfl,rfl⟩) λx _=>Eq.mp (YX x) (BQ x).2.2.1


def nD(a:Nat)(b:Nat):Prop:=0=0/\a=b/\a=b
def uh(a:DevM)(b:DevM):Prop:=a.ba=b.ba/\a.cu=b.cu/\True
def pU(a:eU)(b:eU):Prop:=a.t=b.t/\ ∀q:Nat,q<a.t->[Value.int .i64 (a.o q)]=[Value.int .i64 (b.o q)]
def TR(a:pW)(b:ZCd):Prop:=pU a.c b.c/\(nD a.d.n b.d.n/\a.d.st=b.d.st/\a.d.fl=b.d.fl/\a.d.fe=b.d.fe/\uh a.d b.d)/\(a.d.n*193=b.d.n*193/\ ∀q:Nat,q<a.d.n*193->Cs.eff (gB a.d) [] q=Cs.eff (gB b.d) [] q)/\True
def pV(a:eU)(b:eU):Prop:=a.now=b.now/\a.dur=b.dur/\a.jr=b.jr/\nD a.t b.t/\True
def nG(a:eU)(b:eU):Prop:=258=258/\ ∀q:Nat,q<258->[Value.bool (a.N q)]=[Value.bool (b.N q)]
def uj(a:eU)(b:eU):Prop:=258=258/\ ∀q:Nat,q<258->[Value.bool (a.L q)]=[Value.bool (b.L q)]
def abA(a:ZCd)(b:pW):Prop:=(nD a.d.n b.d.n/\a.d.st=b.d.st/\a.d.fl=b.d.fl/\a.d.fe+1=b.d.fe+1/\uh a.d b.d)/\pU a.c b.c/\(a.d.n*193=b.d.n*193/\ ∀q:Nat,q<a.d.n*193->Cs.eff (gB a.d.fence) [] q=Cs.eff (gB b.d.fence) [] q)/\True
def uo:Prop:=(0=0/\True)/\True
def TS:Prop:=(@Fn.func (57: @FuncId)= @Fn.func (57: @FuncId)/\uo)/\True
def abB(a:Nat)(b:eU):Prop:=Hd (a<258/\b.L a=true/\ ∀j:Nat,j<a->b.L j=false)
def abC(a:eU)(b:eU):Prop:=pV a b/\nG a b/\uj a b/\(@Fn.func (107: @FuncId)= @Fn.func (107: @FuncId)/\uo)/\True
def abD(a:eU)(b:eU):Prop:=pV a b/\nG a b/\uj a b/\(@Fn.func (165: @FuncId)= @Fn.func (165: @FuncId)/\uo)/\True
def abE(a:eU)(b:eU):Prop:=pV a b/\nG a b/\uj a b/\(@Fn.func (212: @FuncId)= @Fn.func (212: @FuncId)/\uo)/\True
def Ol(x:eU):Prop:=
 ∃x_1:eU,Hd (x_1.ok/\x_1.jr=0)/\(0=0/\True)/\((pV x_1 x/\nG x_1 x/\uj x_1 x/\Value.nilFunc=Value.nilFunc/\True)/\pU x_1 x/\True)/\ ∀y:Unit,True-> ∃y_1:Unit,True/\(0:Int)=0/\((x.now+1=x_1.now+1/\x.dur=x_1.dur/\x.now=x_1.now/\nD x.t x_1.t/\True)/\(258=258/\ ∀q:Nat,q<258->[Value.bool false]=[Value.bool false])/\nG x x_1/\TS)/\(x.t=x_1.t/\ ∀q:Nat,q<x.t->[Value.int .i64 0]=[Value.int .i64 0])/\True
theorem YZ(x:eU):Ol x=ctrT Et (TG.args x) (hO 2 (flatP 1 (TG.l x))) (λv h'=>endsPK 1 x v h' TG.outs):=by kernel_rfl
def Om(x:ZCd):Prop:=
 ∃x_1:pW,Hd x_1.ok/\(0=0/\0=0/\True)/\((pV x_1.c x.c/\nG x_1.c x.c/\uj x_1.c x.c/\TS)/\TR x_1 x)/\(∀y:Nat,abB y x_1.c->(∃y_1:Nat,abB y_1 x.c/\((1:Int)=1/\(0:Int)=0/\True)/\(pV x.c x_1.c/\nG x.c x_1.c/\(258=258/\ ∀q:Nat,q<258->[Value.bool (ite (q=y_1) false (x.c.L q))]=[Value.bool (ite (q=y) false (x_1.c.L q))])/\TS)/\(nD x.d.n x_1.d.n/\x.d.st=x_1.d.st/\ite (y_1<x.d.n) (x.d.fl+1) x.d.fl=ite (y<x_1.d.n) (x_1.d.fl+1) x_1.d.fl/\x.d.fe=x_1.d.fe/\uh x.d x_1.d)/\pU x.c x_1.c/\(x.d.n*193=x_1.d.n*193/\ ∀q:Nat,q<x.d.n*193->Cs.eff (gB (x.d.flush y_1)) [] q=Cs.eff (gB (x_1.d.flush y)) [] q)/\True)\/ ∃y_1:Unit,Hd (∀j:Nat,j<258->x.c.L j=false)/\((2:Int)=1/\(0:Int)=0/\True)/\(pV x.c x_1.c/\nG x.c x_1.c/\(258=258/\ ∀q:Nat,q<258->[Value.bool (x.c.L q)]=[Value.bool (ite (q=y) false (x_1.c.L q))])/\(@Fn.func (107: @FuncId)= @Fn.func (57: @FuncId)/\uo)/\True)/\(nD x.d.n x_1.d.n/\x.d.st=x_1.d.st/\x.d.fl=ite (y<x_1.d.n) (x_1.d.fl+1) x_1.d.fl/\x.d.fe+1=x_1.d.fe/\uh x.d x_1.d)/\pU x.c x_1.c/\(x.d.n*193=x_1.d.n*193/\ ∀q:Nat,q<x.d.n*193->Cs.eff (gB x.d.fence) [] q=Cs.eff (gB (x_1.d.flush y)) [] q)/\True)/\ ∀y:Unit,Hd (∀j:Nat,j<258->x_1.c.L j=false)->(∃y_1:Nat,abB y_1 x.c/\((1:Int)=2/\(0:Int)=0/\True)/\(pV x.c x_1.c/\nG x.c x_1.c/\(258=258/\ ∀q:Nat,q<258->[Value.bool (ite (q=y_1) false (x.c.L q))]=[Value.bool (x_1.c.L q)])/\(@Fn.func (57: @FuncId)= @Fn.func (107: @FuncId)/\uo)/\True)/\(nD x.d.n x_1.d.n/\x.d.st=x_1.d.st/\
 ite (y_1<x.d.n) (x.d.fl+1) x.d.fl=x_1.d.fl/\x.d.fe=x_1.d.fe+1/\uh x.d x_1.d)/\pU x.c x_1.c/\(x.d.n*193=x_1.d.n*193/\ ∀q:Nat,q<x.d.n*193->Cs.eff (gB (x.d.flush y_1)) [] q=Cs.eff (gB x_1.d.fence) [] q)/\True)\/ ∃y_1:Unit,Hd (∀j:Nat,j<258->x.c.L j=false)/\((2:Int)=2/\(0:Int)=0/\True)/\abC x.c x_1.c/\abA x x_1
theorem Y0(x:ZCd):Om x=ctrT Eu (abp.args x) (hO 4 (flatP 2 (abp.l x))) (λv h'=>endsPK 2 x v h' abp.outs):=by kernel_rfl
def Oo(x:ZCd):Prop:=
 ∃x_1:pW,Hd x_1.ok/\(0=0/\0=0/\True)/\(abC x_1.c x.c/\TR x_1 x)/\ ∀y:Unit,True-> ∃y_1:Unit,True/\((3:Int)=3/\(0:Int)=0/\True)/\abD x.c x_1.c/\(nD x.d.n x_1.d.n/\x.d.st+1=x_1.d.st+1/\x.d.fl=x_1.d.fl/\x.d.fe=x_1.d.fe/\uh x.d x_1.d)/\pU x.c x_1.c/\(x.d.n*193=x_1.d.n*193/\ ∀q:Nat,q<x.d.n*193->Cs.eff (gB (x.d.store 1 0 64 (iG x.c.jr))) [] q=Cs.eff (gB (x_1.d.store 1 0 64 (iG x_1.c.jr))) [] q)/\True
theorem Y1(x:ZCd):Oo x=ctrT Ew (abq.args x) (hO 4 (flatP 2 (abq.l x))) (λv h'=>endsPK 2 x v h' abq.outs):=by kernel_rfl
def Oq(x:ZCd):Prop:=
 ∃x_1:pW,Hd x_1.ok/\(0=0/\0=0/\True)/\(abD x_1.c x.c/\TR x_1 x)/\ ∀y:Unit,True-> ∃y_1:Unit,True/\((1:Int)=1/\(0:Int)=0/\True)/\abE x.c x_1.c/\(nD x.d.n x_1.d.n/\x.d.st=x_1.d.st/\ite (1<x.d.n) (x.d.fl+1) x.d.fl=ite (1<x_1.d.n) (x_1.d.fl+1) x_1.d.fl/\x.d.fe=x_1.d.fe/\uh x.d x_1.d)/\pU x.c x_1.c/\(x.d.n*193=x_1.d.n*193/\ ∀q:Nat,q<x.d.n*193->Cs.eff (gB (x.d.flush 1)) [] q=Cs.eff (gB (x_1.d.flush 1)) [] q)/\True
theorem Y2(x:ZCd):Oq x=ctrT Ey (abr.args x) (hO 4 (flatP 2 (abr.l x))) (λv h'=>endsPK 2 x v h' abr.outs):=by kernel_rfl
def Ot(x:ZCd):Prop:=
 ∃x_1:pW,Hd x_1.ok/\(0=0/\0=0/\True)/\(abE x_1.c x.c/\TR x_1 x)/\ ∀y:Unit,True-> ∃y_1:Unit,True/\((2:Int)=2/\(0:Int)=0/\True)/\((x.c.now=x_1.c.now/\x.c.jr=x_1.c.jr/\(0:Int)=0/\nD x.c.t x_1.c.t/\True)/\nG x.c x_1.c/\uj x.c x_1.c/\Value.nilFunc=Value.nilFunc/\True)/\abA x x_1
theorem Y3(x:ZCd):Ot x=ctrT Ez (abt.args x) (hO 4 (flatP 2 (abt.l x))) (λv h'=>endsPK 2 x v h' abt.outs):=by kernel_rfl
def Ou(x:ZCd):Prop:=
 cP (BEq.beq x.c.jr (0:Int)) (∃y:Unit,True/\((0:Int)=0/\(12:Int)=12/\True)/\((x.c.now=x.c.now/\x.c.dur=x.c.dur/\x.c.jr=x.c.jr/\(0=0/\x.c.t=x.c.t/\x.c.t=x.c.t)/\True)/\(258=258/\ ∀q:Nat,q<258->[Value.bool (x.c.N q)]=[Value.bool (x.c.N q)])/\(258=258/\ ∀q:Nat,q<258->[Value.bool (x.c.L q)]=[Value.bool (x.c.L q)])/\Value.nilFunc=Value.nilFunc/\True)/\((0=0/\x.d.n=x.d.n/\x.d.n=x.d.n)/\x.d.st=x.d.st/\x.d.fl=x.d.fl/\x.d.fe=x.d.fe/\x.d.ba=x.d.ba/\x.d.cu=x.d.cu/\True)/\(x.c.t=x.c.t/\ ∀q:Nat,q<x.c.t->[Value.int .i64 (x.c.o q)]=[Value.int .i64 (x.c.o q)])/\(x.d.n*193=x.d.n*193/\ ∀q:Nat,q<x.d.n*193->Cs.eff (gB x.d) [] q=Cs.eff (gB x.d) [] q)/\True) False
theorem Y4(x:ZCd):Ou x=wpF Tryz.prog nU tt (noA x) 200 5 24 (abu.args x) (hO 4 (flatP 2 (abu.l x))) (λv h'=>endsPK 2 x v h' abu.outs):=by kernel_rfl
theorem Ov(x:eU)(hx:x.ok/\x.jr=0):Ol x:=by
 unfold Ol;simp only[pV,nG,uj,pU,nD,TS,uo];simp only[aZ,aV,aU,aA,aI,bU,bG,aO,aK,ay,aX,aW,bV,bH,bJ,bK,bW,bC,bM,bn,eY,aH,aN,ah,ak,aB,aF,aC,aG];refine⟨x,hx,?_⟩
 repeat' (first|exact rfl|refine And.intro ?_ ?_|exactλ_ _=>rfl)
theorem Ox(x:ZCd)(hx:x.cd.ok):Om x:=by
 unfold Om;simp only[pV,nG,uj,TS,TR,abB,nD,uh,pU,uo,abC,abA];simp only[aZ,aV,aU,aA,aI,bU,bG,aO,aK,ay,aX,aW,bV,bH,bJ,bK,bW,bC,bM,bn,eY,aH,aN,ah,ak,aB,aF,aC,aG];refine⟨x.cd,hx,?_,λy hy=> .inl ⟨y,hy,?_⟩,λy=> .inr ⟨y,?_⟩⟩
 all_goals (repeat' (first|exact rfl|refine And.intro ?_ ?_|exactλ_ _=>rfl))
theorem Oy(x:ZCd)(hx:x.cd.ok):Oo x:=by
 unfold Oo;simp only[abC,TR,abD,nD,uh,pU,pV,nG,uj,uo];simp only[aZ,aV,aU,aA,aI,bU,bG,aO,aK,ay,aX,aW,bV,bH,bJ,bK,bW,bC,bM,bn,eY,aH,aN,ah,ak,aB,aF,aC,aG];refine⟨x.cd,hx,?_⟩
 all_goals (repeat' (first|exact rfl|refine And.intro ?_ ?_|exactλ_ _=>rfl))
theorem Oz(x:ZCd)(hx:x.cd.ok):Oq x:=by
 unfold Oq;simp only[abD,TR,abE,nD,uh,pU,pV,nG,uj,uo];simp only[aZ,aV,aU,aA,aI,bU,bG,aO,aK,ay,aX,aW,bV,bH,bJ,bK,bW,bC,bM,bn,eY,aH,aN,ah,ak,aB,aF,aC,aG];refine⟨x.cd,hx,?_⟩
 all_goals (repeat' (first|exact rfl|refine And.intro ?_ ?_|exactλ_ _=>rfl))
theorem OA(x:ZCd)(hx:x.cd.ok):Ot x:=by
 unfold Ot;simp only[abE,TR,nD,nG,uj,abA,uh,pU,pV,uo];simp only[aZ,aV,aU,aA,aI,bU,bG,aO,aK,ay,aX,aW,bV,bH,bJ,bK,bW,bC,bM,bn,eY,aH,aN,ah,ak,aB,aF,aC,aG];refine⟨x.cd,hx,?_⟩
 all_goals (repeat' (first|exact rfl|refine And.intro ?_ ?_|exactλ_ _=>rfl))
theorem OB(x:ZCd)(hx:x.c.jr=0):Ou x:=by
 unfold Ou;simp only[aZ,aV,aU,aA,aI,bU,bG,aO,aK,ay,aX,aW,bV,bH,bJ,bK,bW,bC,bM,bn,eY,aH,aN,ah,ak,aB,aF,aC,aG];exact bf (λ_=>trivial) λh=>absurd hx (by simpa using h)
theorem akP:cO Tryz.prog 23 TG.ctr:=iU (bP amo) 2 (λ_=>⟨rfl,rfl,rfl,rfl⟩) λx hx=>Eq.mp (YZ x) (Ov x (aZ.1 hx))
theorem akQ:cO Tryz.prog 24 abp.ctr:=iU (bP amq) 4 (λ_=>⟨rfl,rfl,rfl,rfl⟩) λx hx=>Eq.mp (Y0 x) (Ox x (aZ.1 hx))
theorem akR:cO Tryz.prog 24 abq.ctr:=iU (bP amr) 4 (λ_=>⟨rfl,rfl,rfl,rfl⟩) λx hx=>Eq.mp (Y1 x) (Oy x (aZ.1 hx))
theorem akS:cO Tryz.prog 24 abr.ctr:=iU (bP ams) 4 (λ_=>⟨rfl,rfl,rfl,rfl⟩) λx hx=>Eq.mp (Y2 x) (Oz x (aZ.1 hx))
theorem akT:cO Tryz.prog 24 abt.ctr:=iU (bP amu) 4 (λ_=>⟨rfl,rfl,rfl,rfl⟩) λx hx=>Eq.mp (Y3 x) (OA x (aZ.1 hx))
theorem akU:cO Tryz.prog 24 abu.ctr:=dh dG mixed dO 4 noA 200 5 (λ_=>⟨rfl,rfl,rfl,rfl⟩) λx hx=>Eq.mp (Y4 x) (OB x (aZ.1 hx))






def wK(c:eU)(d:DevM)(ph:Nat)(Q:eU->DevM->Nat->Prop):Prop:=
 (ph=0/\c.jr=0/\Q c d 0)\/
 (ph=1/\pW.ok ⟨c,d⟩/\(∀k,k<258->c.L k=true->(∀j,j<k->c.L j=false)->Q (c.aah k) (d.flush k) 1)/\((∀j,j<258->c.L j=false)->Q c d.fence 2))\/
 (ph=2/\pW.ok ⟨c,d⟩/\Q c (d.store 1 0 64 (iG c.jr)) 3)\/
 (ph=3/\pW.ok ⟨c,d⟩/\Q c (d.flush 1) 4)\/
 (ph=4/\pW.ok ⟨c,d⟩/\Q c.fin d.fence 0)
def as5(d d0:DevM)(j:Nat):Prop:=d.ok/\d.n=d0.n/\d.st<=d0.st+j/\d.fl<=d0.fl+j/\d.fe<=d0.fe+j/\ ∀m r:Nat,2<=m->r<64->d.b (m*193+r)=d0.b (m*193+r)
theorem as6{d:DevM}{k m r:Nat}(hr:r<64):(d.flush k).b (m*193+r)=d.b (m*193+r):=by
 show(if k*193+128<=m*193+r/\m*193+r<k*193+192 then _ else _)=_;exact if_neg (by omega)
theorem as7{d:DevM}{m r:Nat}(hr:r<64):d.fence.b (m*193+r)=d.b (m*193+r):=by
 show(if (m*193+r)/193<d.n/\d.s ((m*193+r)/193)=true/\64<=(m*193+r)%193/\(m*193+r)%193<128 then _ else _)=_;exact if_neg (by omega)
section
variable{a:aiG}{T M:Nat}{b:Nat->ZBlk}
end

structure ZWkc where
 c:eU
 d:DevM
 ph:Nat
 q:eU->DevM->Nat->Prop
structure avs where
 c:eU
 d:DevM
 ph:Nat
 u:Int
 v:Int
noncomputable def avt:Ctr:={X:=ZWkc,args:=λ_=>[.ptr 0 0,.ptr 1 0],k:=2,os:=λx=>[.abs (ownM (x.c.os x.ph)),.abs (ownM x.d.os)],pre:=λx=>Hd (wK x.c x.d x.ph x.q),outs:=[{Y:=avs,post:=λx y=>Hd (x.q y.c y.d y.ph),ret:=λ_ y=> .tup [i64 y.u,i64 y.v],m:=2,os:=λ_ y=>[.abs (ownM (y.c.os y.ph)),.abs (ownM y.d.os)]}]}
theorem aoN:cO Tryz.prog 24 avt:=jg λx hx=>by
 obtain⟨c,d,ph,q⟩:=x;rcases aZ.1 hx with ⟨hp,h,q1⟩|⟨hp,h,q1,q2⟩|⟨hp,h,q1⟩|⟨hp,h,q1⟩|⟨hp,h,q1⟩
 all_goals (have hp:ph=_:=hp;subst hp)
 ·refine⟨_,akU,rfl,⟨c,d,0⟩,aZ.2 h,rfl,rfl,λv h' hh=> ?_⟩
  obtain⟨y,h0,e1,e2⟩:=jh hh;exact eF ⟨⟨c,d,0,0,12⟩,aZ.2 q1,e1,e2⟩
 ·refine⟨_,akQ,rfl,⟨c,d,1⟩,aZ.2 h,rfl,rfl,λv h' hh=> ?_⟩
  rcases nZ hh with ⟨y,h0,e1,e2⟩|⟨y,h0,e1,e2⟩
  ·have h0:=aZ.1 h0
   exact eF ⟨⟨c.aah y,d.flush y,1,1,0⟩,aZ.2 (q1 y h0.1 h0.2.1 h0.2.2),e1,e2⟩
  ·have h0:=aZ.1 h0
   exact eF ⟨⟨c,d.fence,2,2,0⟩,aZ.2 (q2 h0),e1,e2⟩
 ·refine⟨_,akR,rfl,⟨c,d,2⟩,aZ.2 h,rfl,rfl,λv h' hh=> ?_⟩
  obtain⟨y,h0,e1,e2⟩:=jh hh;exact eF ⟨⟨c,d.store 1 0 64 (iG c.jr),3,3,0⟩,aZ.2 q1,e1,e2⟩
 ·refine⟨_,akS,rfl,⟨c,d,3⟩,aZ.2 h,rfl,rfl,λv h' hh=> ?_⟩
  obtain⟨y,h0,e1,e2⟩:=jh hh;exact eF ⟨⟨c,d.flush 1,4,1,0⟩,aZ.2 q1,e1,e2⟩
 ·refine⟨_,akT,rfl,⟨c,d,4⟩,aZ.2 h,rfl,rfl,λv h' hh=> ?_⟩
  obtain⟨y,h0,e1,e2⟩:=jh hh;exact eF ⟨⟨c.fin,d.fence,0,2,0⟩,aZ.2 q1,e1,e2⟩
structure ZEj where
 c:eU
 d:DevM
 ph:Nat
 j:Nat


theorem Ju{f:Nat->Bool}{k:Nat}(hf:f k=true): ∀{n},k<n->qN (λq=>if q=k then false else f q) n+1=qN f n
 |n+1,h=>by
  simp only[qN];by_cases e:k=n
  ·subst e
   rw[pK (g:=f) λq hq=>if_neg (by omega),hf];simp
  ·have:=Ju hf (n:=n) (by omega)
   rw[if_neg (show¬n=k by omega)];omega
section
variable{a:aiG}{T M:Nat}{b:Nat->ZBlk}
end
def ZSto.aoO(a:ZSto)(c:eU)(d:DevM):ZSto:={a with c:=c,d:=d}
structure CSc (c0:eU) (d0:DevM) (m j:Nat) (c:eU) (d:DevM) (ph:Nat):Prop where
 t:c.t=c0.t
 ok:c.ok
 now:c.now=c0.now+1
 N: ∀k,c.N k=false
 o: ∀k,c.o k=0
 dev:as5 d d0 j
 ph:(ph=0/\c.jr=0)\/(c.jr≠0/\((ph=1/\qN c.L 258+j<=m)\/(ph=2/\j<=m+1)\/(ph=3/\j<=m+2)\/(ph=4/\j<=m+3)))
theorem CSc.start{c0:eU}{d0:DevM}{m:Nat}(hc:c0.ok)(h1:1<=c0.now)(h2:c0.now+1<4611686018427387904)(hn:qN c0.N 258<=m)(hd:d0.ok):CSc c0 d0 m 0 c0.start d0 1:=by
 obtain⟨o1,o2,o3,o4,o5,o6⟩:=hc;have b0:U64 (c0.now+1):=⟨by omega,h2⟩;exact{t:=rfl,ok:=⟨o1,o2,b0,o4,o3,λ_=>⟨Int.le_refl 0,show(0:Int)<1099511627776 by decide⟩⟩,now:=rfl,N:=λ_=>rfl,o:=λ_=>rfl,dev:=⟨hd,rfl,by omega,by omega,by omega,λ_ _ _ _=>rfl⟩,ph:= .inr ⟨by show c0.now≠0;omega,.inl ⟨rfl,by show qN c0.N 258+0<=m;omega⟩⟩}
theorem CSc.next{c0:eU}{d0:DevM}{n j:Nat}{c:eU}{d:DevM}{ph:Nat}(h:CSc c0 d0 n j c d ph)(hb:d0.st<=1000000000/\d0.fl<=1000000000/\d0.fe<=1000000000)(hj:j<10000)(hn:1<d0.n):wK c d ph (CSc c0 d0 n (j+1)):=by
 obtain⟨k1,k2,k3,k4,k5,⟨e1,e2,e3,e4,e5,e6⟩,k7⟩:=h;have flu: ∀k,as5 (d.flush k) d0 (j+1):=λk=>⟨DevM.zO e1 _ (by omega),e2,by show d.st<=_;omega,by show(if k<d.n then d.fl+1 else d.fl)<=_;split<;>omega,by show d.fe<=_;omega,λm r hm hr=>by rw[as6 hr];exact e6 m r hm hr⟩
 have fen:as5 d.fence d0 (j+1):=⟨DevM.Jb e1 (by omega),e2,by show d.st<=_;omega,by show d.fl<=_;omega,by show d.fe+1<=_;omega,λm r hm hr=>by rw[as7 hr];exact e6 m r hm hr⟩;rcases k7 with ⟨rfl,k7⟩|⟨k8,⟨rfl,k7⟩|⟨rfl,k7⟩|⟨rfl,k7⟩|⟨rfl,k7⟩⟩
 ·exact .inl ⟨rfl,k7,k1,k2,k3,k4,k5,⟨e1,e2,by omega,by omega,by omega,e6⟩,.inl ⟨rfl,k7⟩⟩
 ·refine .inr (.inl ⟨rfl,⟨k2,e1,k8,by show 1<d.n;omega⟩,λk hk hL hmin=>⟨k1,k2,k3,k4,k5,flu k,.inr ⟨k8,.inl ⟨rfl,?_⟩⟩⟩,λhL=>⟨k1,k2,k3,k4,k5,fen,.inr ⟨k8,.inr (.inl ⟨rfl,by omega⟩)⟩⟩⟩)
  have:=Ju hL hk;show qN (λq=>if q=k then false else c.L q) 258+(j+1)<=n;omega
 ·refine .inr (.inr (.inl ⟨rfl,⟨k2,e1,k8,by show 1<d.n;omega⟩,k1,k2,k3,k4,k5,⟨DevM.pJ e1 _ _ _ (yB _) (by omega),e2,by show d.st+1<=_;omega,by show d.fl<=_;omega,by show d.fe<=_;omega,λm r hm hr=> ?_⟩,.inr ⟨k8,.inr (.inr (.inl ⟨rfl,by omega⟩))⟩⟩))
  rw[zS _ _ _ _ _ hr,if_neg (by omega)];exact e6 m r hm hr
 ·exact .inr (.inr (.inr (.inl ⟨rfl,⟨k2,e1,k8,by show 1<d.n;omega⟩,k1,k2,k3,k4,k5,flu 1,.inr ⟨k8,.inr (.inr (.inr ⟨rfl,by omega⟩))⟩⟩)))
 ·exact .inr (.inr (.inr (.inr ⟨rfl,⟨k2,e1,k8,by show 1<d.n;omega⟩,k1,⟨k2.1,k2.2.1,k2.2.2.1,k2.2.2.2.2.1,⟨Int.le_refl 0,show(0:Int)<4611686018427387904 by decide⟩,k2.2.2.2.2.2⟩,k3,k4,k5,fen,.inl ⟨rfl,rfl⟩⟩)))
theorem Gs{f:Nat->Bool}(h: ∀k,f k=false): ∀n,qN f n=0
 |0=>rfl
 |n+1=>by simp only[qN];rw[Gs h n,h n];rfl
section
variable{a:ZSto}{T M N:Nat}{B:ByteArray->ZBlk}
theorem eH.begin(g:eH a T M N B)(hM:M<=1000000){m:Nat}(hn:qN a.c.N 258<=m):CSc a.c a.d m 0 a.c.start a.d 1:=
 CSc.start g.cok g.asX (by have:=g.ap1;omega) hn g.dok
theorem eH.closing(g:eH a T M N B)(hM:M<=1000000){m j:Nat}(hj:j<10000){c:eU}{d:DevM}{ph:Nat}(h:CSc a.c a.d m j c d ph):wK c d ph (CSc a.c a.d m (j+1)):=by
 have:=g.dst;have:=g.dfl;have:=g.dfe;have:=g.fit;have:=g.pg.1.1;exact h.next ⟨by omega,by omega,by omega⟩ hj (by omega)
theorem eH.closed(g:eH a T M N B)(hM:M<=1000000){m j:Nat}(hj:m+4<=j/\j<=20){c:eU}{d:DevM}{ph:Nat}(h:CSc a.c a.d m j c d ph):ph=0/\eH (a.aoO c d) T (M+20) N B/\(∀m r:Nat,2<=m->r<64->d.b (m*193+r)=a.d.b (m*193+r))/\c.now=a.c.now+1/\ ∀k,c.N k=false:=by
 obtain⟨k1,k2,k3,k4,k5,⟨e1,e2,e3,e4,e5,e6⟩,k7⟩:=h;have hp:ph=0/\c.jr=0:=by
  rcases k7 with k7|⟨_,⟨_,k7⟩|⟨_,k7⟩|⟨_,k7⟩|⟨_,k7⟩⟩
  ·exact k7
  all_goals (exfalso;omega)
 have:=g.dst;have:=g.dfl;have:=g.dfe;have:=g.asX;have:=g.ap1;have gD:eH (a.Gx d) T (M+20) N B:=g.dev (by omega) e1 e2 (by omega) (by omega) (by omega) (L:=0) (n:=0) (λm r hm hr _=>e6 m r hm hr) (λ_ _ _ _=> .inr (Nat.zero_le _));exact⟨hp.1,{gD with cok:=k2,ct:=by show c.t=T;rw[k1];exact g.ct,jr:=hp.2,asX:=by show 1<=c.now;omega,ap1:=by show c.now<=((M+20:Nat):Int);omega,owed:=λk=>by show c.o k<=_;rw[k5];omega},e6,k3,k4⟩
end
section
variable{key v:ByteArray}{nw:Int}{n M M':Nat}{s:ZKs}{r:Nat}
end
noncomputable def akV:WTr:=λargs h K=>match args with
 |[.ptr i z]=>bif isAbs (h.get i)then ctrT (Hw 5).ctr [.ptr i z] h K else wpF Tryz.prog [] tt ar0 200 6 22 [.ptr i z] h K
 |_=>False
theorem akW(args:List AV)(h:Heap)(K:AV->Heap->Prop)(hq:akV args h K):Sp Tryz.prog 22 args h K:=by
 unfold akV at hq;split at hq
 ·rename_i i z
  cases ha:isAbs (h.get i)<;>rw[ha]at hq
  ·exact vC dG mixed .nil _ _ _ _ _ _ _ hq
  ·exact bP akO _ _ _ hq
 ·exact hq.elim
def atR(h:Heap)(a:AV)(k:IntKind)(Q:Int->Prop):Prop:=match a with
 | .nH i q m j=>match h.get i with
  |some ob=>match ob.eP with
   |some (.row m' n g wr)=>bif Nat.beq m 1&&Nat.beq m' 1&&Nat.beq j 0 then(q<n/\DL g wr q λl=>match l with
    |[.int k' x]=>bif decide (k'=k)then Q x else False
    |_=>False)else False
   |_=>False
  |none=>False
 |_=>False
theorem avu{h:Heap}{ρ:SE.Ren}{T:Nat->Prop}{w:World}(hR:Rel h ρ T w){a:AV}{u:Value}{k:IntKind}{Q:Int->Prop}(hq:atR h a k Q)(hu:bF ρ a u):
  ∃ad x,u= .pointer (some ad)/\w.cell? ad=some (.int k x)/\Q x:=by
 unfold atR at hq;split at hq
 ·rename_i i q m j
  split at hq
  ·rename_i ob hi
   split at hq
   ·rename_i m' n g wr hc
    cases hb:(Nat.beq m 1&&Nat.beq m' 1&&Nat.beq j 0)with
    |false=>rw[hb]at hq;exact hq.elim
    |true=>
     rw[hb]at hq;simp only[aP]at hq;simp only[aJ]at hb;have:=au hb.1.1;subst this;have:=au hb.1.2;subst this;have:=au hb.2;subst this;obtain⟨hqn,hq⟩:=hq;have hq:=uK hq;split at hq
     ·rename_i k' x hl
      by_cases hk:k'=k
      ·subst hk
       simp only[decide_true,aP]at hq;have hcell:cellAt h i q=some (.lit (.int k' x)):=by
        simp only[cellAt,hi,hc];have:=qh (m:=1) (g:=g) (wr:=wr) (n:=n) (k:=q) (j:=0) (v:= .int k' x) hqn (by omega) (by rw[hl];rfl);simpa using this
       obtain⟨b,hb2,y,hy,hr⟩:=hR.cell hcell;simp only[bF]at hr hu;obtain⟨b',hb',rfl⟩:=hu;obtain rfl:b'=b:=Option.some.inj (hb'.symm.trans hb2);subst hr;exact⟨_,x,rfl,by simpa using hy,hq⟩
      ·simp[hk]at hq
     ·exact hq.elim
   ·exact hq.elim
  ·exact hq.elim
 ·exact hq.elim
def U0(k:IntKind):WTr:=λargs h K=>match args with
 |[a]=>atR h a k λx=>K (.lit (.int k x)) h
 |_=>False
theorem aoP{P:Program}{f:FuncId}{k:IntKind}(args:List AV)(h:Heap)(K:AV->Heap->Prop)(hf:qM P f (Extern.Atomic.loadT (.int k)))(hq:U0 k args h K):XSp P f args h K:=by
 obtain⟨fn,h1,h2,h3,h4,h5⟩:=hf;unfold U0 at hq;split at hq
 ·intro ρ T w vs hR hl
  simp only[dQ]at hl;obtain⟨u,_,hvs,hu,rfl⟩:=hl;obtain⟨ad,x,rfl,hc,hq⟩:=avu hR hq hu;rw[vs1 hvs];exact⟨_,_,_,w,ρ,run_call_load h1 h2 h3 h4 k h5 hc,λ_ _=>rfl,SE.Ren.le_refl _,aY _,hR,by simp only[bF],Keeps.refl _ _,hq⟩
 ·exact hq.elim
def avv:je:=[(102,U0 .u64)]
structure avw where
 r:ZRd
 e:Int
def ZRd.ro(r:ZRd):List dF:=[.ro (.av [u64 r.now,.slE 1 0 1 r.t r.t]),.ro (.row 1 r.t (λk=>[.int .u64 (r.has k)]) [])]
def ZRd.quiet(r:ZRd)(e:Int):Prop:= ∀k,k<r.t->r.has k≠0->e<r.has k
def ZRd.least(r:ZRd)(i:Nat)(z:Int)(b:Bool):Prop:=(b=false-> ∀k,k<i->r.has k=0)/\(b=true->(∃k,k<i/\r.has k≠0/\r.has k=z)/\ ∀k,k<i->r.has k≠0->z<=r.has k)
def Jv:Ctr:={X:=avw,args:=λx=>[.ptr 0 0,u64 x.e],k:=2,os:=λx=>x.r.ro,pre:=λx=>Hd x.r.ok,outs:=[
 {Y:=Unit,post:=λx _=>Hd (x.r.quiet x.e),ret:=λ_ _=>boo true,m:=2,os:=λx _=>x.r.ro},
 {Y:=Unit,post:=λx _=>Hd (¬x.r.quiet x.e),ret:=λ_ _=>boo false,m:=2,os:=λx _=>x.r.ro}]}
structure as8 where
 i:Nat
 z:Int
 b:Bool
def akX(x:avw):FuncId->qL:=λf=>bif Nat.beq f 214 then(λb _ _=>bif Nat.beq b 0 then [
 {σ:=as8,fr:=λs=>[(16,i64 s.i),(4,u64 s.z),(5,boo s.b)],ob:=λ_=>[],inv:=λs=>Hd (s.i<=x.r.t/\x.r.least s.i s.z s.b),meas:=λs=>x.r.t-s.i}]else [])elseλ_ _ _=>[]
def TU(a:ZRd):Prop:=Cs.row 1 a.t (λ(k:Nat)=>[Value.int .u64 (a.has k)]) (@List.nil (Prod Nat (List Value)))=Cs.row 1 a.t (λ(k:Nat)=>[Value.int .u64 (a.has k)]) (@List.nil (Prod Nat (List Value)))/\true=true
def TV(a:ZRd):Prop:=a.now=a.now/\(0=0/\a.t=a.t/\a.t=a.t)/\True
def akY(a:as8)(b:ZRd):Prop:=Hd (a.i<=b.t/\b.least a.i a.z a.b)
def aoQ(a:as8)(b:ZRd):Prop:=I64 ((a.i:Int)+1)/\ ∃s_1:as8,akY s_1 b/\b.t-s_1.i<b.t-a.i/\((s_1.i:Int)=(a.i:Int)+1/\s_1.z=a.z/\s_1.b=a.b/\True)/\TU b/\TV b/\True
def as9(a:Nat)(b:ZRd):Prop:=I64 ((a:Int)+1)/\ ∃s_1:as8,akY s_1 b/\b.t-s_1.i<b.t-a/\((s_1.i:Int)=(a:Int)+1/\s_1.z=b.has (0+a)/\s_1.b=true/\True)/\TU b/\TV b/\True
def Y5(x:avw):Prop:=
 (∃s:as8,akY s x.r/\True/\((s.i:Int)=0/\s.z=0/\s.b=false/\True)/\TU x.r/\TV x.r/\True)/\(∀s:as8,akY s x.r->cP (decide ((s.i:Int)<(x.r.t:Int))) (cP (decide ((s.i:Int)>=(x.r.t:Int))) (aoQ s x.r) ((0<=(s.i:Int)/\(s.i:Int)<(x.r.t:Int))/\0+s.i<x.r.t/\cP (bne (x.r.has (0+s.i)) (0:Int)) (cP (Bool.not s.b) (as9 s.i x.r) (cP (decide (x.r.has (0+s.i)<s.z)) (as9 s.i x.r) (aoQ s x.r))) (aoQ s x.r))) (cP (Bool.not s.b) ((∃y:Unit,Hd (x.r.quiet x.e)/\true=true/\TV x.r/\TU x.r/\True)\/ ∃y:Unit,Hd (Not (x.r.quiet x.e))/\false=true/\TV x.r/\TU x.r/\True) ((∃y:Unit,Hd (x.r.quiet x.e)/\true=decide (s.z>x.e)/\TV x.r/\TU x.r/\True)\/ ∃y:Unit,Hd (Not (x.r.quiet x.e))/\false=decide (s.z>x.e)/\TV x.r/\TU x.r/\True)))/\True
theorem aeE(x:avw):Y5 x=wpF Tryz.prog avv tt (akX x) 200 5 167 (Jv.args x) (hO Jv.k (Jv.os x)) (λv h'=>eX Jv.k x v h' Jv.outs):=by kernel_rfl
theorem aeF{r:ZRd}{i:Nat}{z:Int}{b:Bool}(h:r.least i z b)(hi:r.has i=0):r.least (i+1) z b:=by
 refine⟨λhb k hk=> ?_,λhb=>⟨?_,λk hk hne=> ?_⟩⟩
 ·by_cases e:k=i
  ·rw[e];exact hi
  ·exact h.1 hb k (by omega)
 ·obtain⟨k,h1,h2⟩:=(h.2 hb).1
  exact⟨k,by omega,h2⟩
 ·by_cases e:k=i
  ·rw[e]at hne;exact absurd hi hne
  ·exact(h.2 hb).2 k (by omega) hne
theorem TW{r:ZRd}{i:Nat}{z:Int}{b:Bool}(h:r.least i z b)(hi:r.has i≠0)(hz:b=true->r.has i<=z):r.least (i+1) (r.has i) true:=by
 refine⟨λhb=>Bool.noConfusion hb,λ_=>⟨⟨i,Nat.lt_succ_self i,hi,rfl⟩,λk hk hne=> ?_⟩⟩;by_cases e:k=i
 ·rw[e];exact Int.le_refl _
 ·cases b with
  |false=>exact absurd (h.1 rfl k (by omega)) hne
  |true=>exact Int.le_trans (hz rfl) ((h.2 rfl).2 k (by omega) hne)
theorem akZ{r:ZRd}{i:Nat}{z:Int}{b:Bool}(h:r.least i z b)(hb:b=true)(hz:z<=r.has i):r.least (i+1) z b:=by
 subst hb;obtain⟨⟨k0,h1,h2⟩,h3⟩:=h.2 rfl;refine⟨λhb=>Bool.noConfusion hb,λ_=>⟨⟨k0,by omega,h2⟩,λk hk hne=> ?_⟩⟩;by_cases e:k=i
 ·rw[e];exact hz
 ·exact h3 k (by omega) hne
theorem Jw{r:ZRd}{z e:Int}(h:r.least r.t z true):r.quiet e↔e<z:=by
 obtain⟨⟨k0,h1,h2,h2'⟩,h3⟩:=h.2 rfl;exact⟨λhq=>by rw[<-h2'];exact hq k0 h1 h2,λhz k hk hne=>Int.lt_of_lt_of_le hz (h3 k hk hne)⟩
theorem aeG{r:ZRd}{z e:Int}(h:r.least r.t z false):r.quiet e:=λk hk hne=>absurd (h.1 rfl k hk) hne
theorem TY(x:avw)(hx:x.r.ok):Y5 x:=by
 have ht:=hx.2.1;unfold Y5;simp only[akY,TU,TV,aoQ,as9];simp only[aZ,aV,aU,aA,aI,bU,bG,aO,aK,ay,aX,aW,bV,bH,bJ,bK,bW,bC,bM,bn,eY,aH,aN,ah,ak,aB,aF,aC,aG];refine⟨⟨⟨0,0,false⟩,⟨Nat.zero_le _,λ_ k hk=>absurd hk (Nat.not_lt_zero k),λh=>Bool.noConfusion h⟩,rfl,rfl,rfl⟩,λs hs=> ?_⟩;obtain⟨h1,h2⟩:=hs;refine bf (λh=> ?_) λh=> ?_
 ·have h:=aS h
  have hi:I64 ((s.i:Int)+1):=by unfold I64;omega
  refine bf (λh'=>absurd (aS h') (by omega)) λ_=>⟨⟨by omega,by omega⟩,by omega,bf (λhn=> ?_) λhn=> ?_⟩
  ·have hn:=bne_iff_ne.1 hn
   refine bf (λhb=> ?_) λhb=>bf (λhl=> ?_) λhl=> ?_
   ·exact⟨hi,⟨s.i+1,x.r.has s.i,true⟩,⟨by show s.i+1<=_;omega,TW h2 hn λe=>by rw[e]at hb;cases hb⟩,by show _-(s.i+1)<_;omega,by show((s.i+1:Nat):Int)=_;omega,rfl,rfl⟩
   ·have hl:=aS hl
    exact⟨hi,⟨s.i+1,x.r.has s.i,true⟩,⟨by show s.i+1<=_;omega,TW h2 hn λ_=>by omega⟩,by show _-(s.i+1)<_;omega,by show((s.i+1:Nat):Int)=_;omega,rfl,rfl⟩
   ·have hl:=aT hl
    exact⟨hi,⟨s.i+1,s.z,s.b⟩,⟨by show s.i+1<=_;omega,akZ h2 (by cases hsb:s.b with|true=>rfl|false=>rw[hsb]at hb;cases hb) (by show s.z<=_;omega)⟩,by show _-(s.i+1)<_;omega,by show((s.i+1:Nat):Int)=_;omega,rfl,rfl⟩
  ·have hn:x.r.has s.i=0:=by simpa using hn
   exact⟨hi,⟨s.i+1,s.z,s.b⟩,⟨by show s.i+1<=_;omega,aeF h2 hn⟩,by show _-(s.i+1)<_;omega,by show((s.i+1:Nat):Int)=_;omega,rfl,rfl⟩
 ·have h:=aT h
  have e:s.i=x.r.t:=by omega
  rw[e]at h2;refine bf (λhb=> .inl ?_) λhb=> ?_
  ·cases hsb:s.b with
   |true=>rw[hsb]at hb;cases hb
   |false=>rw[hsb]at h2;exact aeG h2
  ·cases hsb:s.b with
   |false=>rw[hsb]at hb;cases hb
   |true=>
    rw[hsb]at h2;by_cases hz:x.e<s.z
    ·exact .inl ⟨(Jw h2).2 hz,(decide_eq_true hz).symm⟩
    ·exact .inr ⟨λhq=>hz ((Jw h2).1 hq),(decide_eq_false hz).symm⟩
theorem aoR:dZ Tryz.prog avv:= .Ej (λ_ _ _ hq=>aoP _ _ _ IJ hq) .nil
theorem aoS:cO Tryz.prog 167 Jv:=iP dG mixed aoR akX 200 5 (λ_=>rfl) (λ_=>⟨λ_=>rfl,λ_=>rfl,trivial⟩) λx hx=>Eq.mp (aeE x) (TY x (aZ.1 hx))
end Go.Proofs.YtenfleoejgjklaaGreat
end
section
namespace Go.Proofs.YtenfleoejgjklaaGreat
open Go Go.RowKit Go.Shelf
attribute [local go_sem] Oper.semAt_some
def gG.val(e:gG):Value:= .agg #[.int .i64 e.line,.int .i64 e.cls,.int .u64 e.r,.int .u64 e.d,.int .i64 e.anti]
structure Gt (n₀:Nat) (W:World) (bb:Nat) (a:Option Addr) (m cap:Nat) (e:Nat->gG):Prop where
 b:bb<n₀
 head:W.cell? ⟨bb,0,none⟩=some (.slice a m cap)
 cells: ∀k,k<m-> ∃be p,a=some ⟨be,p,none⟩/\be<n₀/\W.cell? ⟨be,p+k*5,none⟩=some (.int .i64 (e k).line)/\W.cell? ⟨be,p+k*5+1,none⟩=some (.int .i64 (e k).cls)/\
  W.cell? ⟨be,p+k*5+2,none⟩=some (.int .u64 (e k).r)/\W.cell? ⟨be,p+k*5+3,none⟩=some (.int .u64 (e k).d)/\W.cell? ⟨be,p+k*5+4,none⟩=some (.int .i64 (e k).anti)
theorem Gt.below{n₀:Nat}{A B:World}(h:Below n₀ A B){bb:Nat}{a:Option Addr}{m cap:Nat}{e:Nat->gG}(hb:Gt n₀ A bb a m cap e):Gt n₀ B bb a m cap e:=
 ⟨hb.b,(h.cell (p:=⟨bb,0,none⟩) hb.b).trans hb.head,λk hk=>by
  obtain⟨be,p,h1,h2,c0,c1,c2,c3,c4⟩:=hb.cells k hk
  exact⟨be,p,h1,h2,(h.cell (p:=⟨be,_,none⟩) h2).trans c0,(h.cell (p:=⟨be,_,none⟩) h2).trans c1,(h.cell (p:=⟨be,_,none⟩) h2).trans c2,(h.cell (p:=⟨be,_,none⟩) h2).trans c3,(h.cell (p:=⟨be,_,none⟩) h2).trans c4⟩⟩
theorem Gt.grow{n₀ n₁:Nat}{W:World}{bb:Nat}{a:Option Addr}{m cap:Nat}{e:Nat->gG}(h:Gt n₀ W bb a m cap e)(hn:n₀<=n₁):Gt n₁ W bb a m cap e:=
 ⟨Nat.lt_of_lt_of_le h.b hn,h.head,λk hk=>by
  obtain⟨be,p,h1,h2,hc⟩:=h.cells k hk
  exact⟨be,p,h1,Nat.lt_of_lt_of_le h2 hn,hc⟩⟩
set_option maxRecDepth 100000 in
set_option maxHeartbeats 1000000 in
theorem ak0(F:Fence)(n:Nat)(hf:F.fn 42)(hro:F.round=none)(bb m cap:Nat)(a:Option Addr)(W:World)(hc:W.cell? ⟨bb,0,none⟩=some (.slice a m cap)):
  CallsIn F n Tryz.prog 42 #[.pointer (some ⟨bb,0,none⟩)] W λe W'=>e= .returned (.int .i64 m)/\W'=W:=by
 refine callsIn_of_wp Tryz.func42 rfl hf ?_ hro;simp only[Tryz.ntmps42,List.size_toArray,List.length_cons,List.length_nil,Nat.reduceAdd,Nat.reduceSub,Array.replicate_succ,Array.replicate_zero,List.push_toArray,List.append_toArray,List.nil_append,List.cons_append]
 gi_wp2
 go_ret
 exact⟨rfl,rfl⟩
set_option maxRecDepth 100000 in
set_option maxHeartbeats 1000000 in
theorem OC(F:Fence)(n:Nat)(hf:F.fn 166)(hro:F.round=none)(v:Value)(hv:v.oneCell'=true)(W:World):
  CallsIn F n Tryz.prog 166 #[v] W λe W'=>e= .returned (.func (.func 213) #[] #[.pointer (some ⟨W.heap.size,0,none⟩)])/\W'=W.alloc (.cells #[v] 87):=by
 refine callsIn_of_wp Tryz.func166 rfl hf ?_ hro;simp only[Tryz.ntmps166,List.size_toArray,List.length_cons,List.length_nil,Nat.reduceAdd,Nat.reduceSub,Array.replicate_succ,Array.replicate_zero,List.push_toArray,List.append_toArray,List.nil_append,List.cons_append]
 gi_wp2
 go_ret
 exact⟨rfl,rfl⟩
def upto(k:Nat):List Nat:=List.range k
theorem upto_succ(k:Nat):upto (k+1)=upto k++[k]:=by simp[upto,List.range_succ]
theorem upto_length(k:Nat):(upto k).length=k:=by simp[upto]
set_option maxRecDepth 100000 in
set_option maxHeartbeats 4000000 in
theorem aoT(F:Fence)(n:Nat)(hf:F.fn 213)(hL:F.fn 42)(hro:F.round=none)(hn:1<=n)(l Bn n₀ bb:Nat)(a:Option Addr)(m cap:Nat)(e:Nat->gG)(hm:m<=258)(J Jx:List Nat->World->Prop)
  (hY: ∀pre x W,J pre W->pre.length<m->YieldAt F (n-1) Tryz.prog l #[.int .i64 (x:Nat),(e x).val] W λen W'=>
   (en= .returned (.bool true)/\J (pre++[x]) W'/\Below n₀ W W')\/(en= .returned (.bool false)/\Jx (pre++[x]) W'))
  (W:World) (hBl:Bn<n₀) (hBn:W.cell? ⟨Bn,0,none⟩=some (.pointer (some ⟨bb,0,none⟩))) (hb:Gt n₀ W bb a m cap e) (h0:J [] W):
  CallsIn F n Tryz.prog 213 #[.func (.yield l) #[] #[],.pointer (some ⟨Bn,0,none⟩)] W λen W'=>(∃v,en= .returned v)/\
   ((∃ys,ys=upto m/\J ys W')\/(∃pre,(∃k,k<=m/\pre=upto k)/\Jx pre W')):=by
 have hhead:=hb.head;refine callsIn_of_wp Tryz.func213 rfl hf ?_ hro;simp only[Tryz.ntmps213,List.size_toArray,List.length_cons,List.length_nil,Nat.reduceAdd,Nat.reduceSub,Array.replicate_succ,Array.replicate_zero,List.push_toArray,List.append_toArray,List.nil_append,List.cons_append]
 gi_wp2_with (gi_at_call 42;refine(ak0 F (n-1) hL hro bb m cap a W hhead).mono ?_;rintro en w' ⟨rfl,hw⟩;replace hw:=hw.symm;subst hw)
 gi_loopw [6] (λi wr=> ∃k:Nat,k<=m/\i= .int .i64 k/\J (upto k) wr/\Below n₀ W wr)
  (λi _=>m-(intOf i).toNat)
 case atStart=>exact⟨0,Nat.zero_le _,rfl,h0,Below.refl _ _⟩
 case round=>
  obtain⟨k,hk,rfl,hJs,hnx⟩:=hrel;have hbx:=hb.below hnx;have hBx:wr.cell? ⟨Bn,0,none⟩=some (.pointer (some ⟨bb,0,none⟩)):=(hnx.cell (p:=⟨Bn,0,none⟩) hBl).trans hBn;have hhx:=hbx.head;by_cases hlt:k<m
  ·obtain⟨fn,tmps,assign,body,hy,hR⟩:=hY _ k wr hJs (by rw[upto_length];exact hlt)
   obtain⟨be,p,rfl,hbl,c0,c1,c2,c3,c4⟩:=hbx.cells k hlt;unfold gG.val at hy
   gi_wp2
   refine hR.mono ?_
   rintro en W3 (⟨rfl,hJ3,hk3⟩|⟨rfl,hJx3⟩)
   ·gi_wp2
    go_roundw
    case rel=>exact⟨k+1,by omega,by simp,by rw[upto_succ];exact hJ3,hnx.trans hk3⟩
    case measure=>simp[intOf];omega
   ·gi_wp2
    refine bodyPost_ret (results_none rfl _ _ _) rfl ?_;exact⟨⟨_,rfl⟩,.inr ⟨_,⟨k+1,by omega,(upto_succ _).symm⟩,hJx3⟩⟩
  ·obtain rfl:k=m:=by omega
   gi_wp2
   go_end0
   exact⟨⟨_,rfl⟩,.inl ⟨_,rfl,hJs⟩⟩
theorem aeH(F:Fence)(n:Nat)(hf:F.fn 213)(hL:F.fn 42)(hro:F.round=none)(hn:1<=n)(Bn n₀ bb:Nat)(a:Option Addr)(m cap:Nat)(e:Nat->gG)(hm:m<=258)(w:World)(hBl:Bn<n₀)(hn₀:n₀<=w.heap.size)
  (hBn:w.cell? ⟨Bn,0,none⟩=some (.pointer (some ⟨bb,0,none⟩))) (hb:Gt n₀ w bb a m cap e):
  SeqStopsK F n Tryz.prog 213 #[.pointer (some ⟨Bn,0,none⟩)] (λx:Nat=> #[.int .i64 (x:Nat),(e x).val]) (Below n₀) (λys=>ys=upto m) (λpre=> ∃k,k<=m/\pre=upto k) m w:=λl J Jx W hW _ _ hY h0=>
 aoT F n hf hL hro hn l Bn n₀ bb a m cap e hm J Jx hY W hBl ((hW.cell (p:=⟨Bn,0,none⟩) (Nat.lt_of_lt_of_le hBl hn₀)).trans hBn) (hb.below (hW.mono hn₀)) h0
attribute [local go_sem] Oper.semAt_some
def ap7(m:Nat)(rd:Nat->Prop)(v:Int):Prop:=(v= -1/\ ∀k,k<m-> ¬rd k)\/ ∃k,k<m/\v=(k:Int)/\rd k/\ ∀j,j<k-> ¬rd j
def Y6(ra:Addr)(q:Int->Prop)(w:World):Prop:= ∀(x:Int) (W:World),Below w.heap.size w W->Calls Tryz.prog 167 #[.pointer (some ra),.int .u64 x] W λen W'=>(∃b,en= .returned (.bool b)/\(b=true↔q x))/\Below W.heap.size W W'
theorem ou{B:Nat}{W W':World}(h:Below W.heap.size W W'):KeepsFrom B W W':=⟨h.size,λk o _ hk _=>(h.block k (Array.getElem?_eq_some_iff.1 hk).1).trans hk⟩
set_option maxRecDepth 100000 in
set_option maxHeartbeats 8000000 in
theorem ak1(w:World)(bb:Nat)(ra:Addr)(a:Option Addr)(m cap:Nat)(e:Nat->gG)(d:Int)(q:Int->Prop)(hb:Gt w.heap.size w bb a m cap e)(hm:m<=258)(hq:Y6 ra q w):
  CallsIn Fence.wide 7 Tryz.prog 109 #[.pointer (some ⟨bb,0,none⟩),.pointer (some ra),.int .u64 d] w λen W'=>
   (∃v,en= .returned (.int .i64 v)/\ap7 m (λk=>(e k).d<=d/\q (e k).r) v)/\Below w.heap.size w W':=by
 refine callsIn_of_wp_marks Tryz.func109 rfl trivial ?_ rfl;simp only[Tryz.ntmps109,List.size_toArray,List.length_cons,List.length_nil,Nat.reduceAdd,Nat.reduceSub,Array.replicate_succ,Array.replicate_zero,List.push_toArray,List.append_toArray,List.nil_append,List.cons_append]
 gi_wp2_with (refine⟨trivial,?_⟩;gi_at_call 166;refine(OC Fence.wide _ trivial rfl _ rfl _).mono ?_;rintro en w' ⟨rfl,rfl⟩)
 have bR:=(((Boxed.new w 66 (.pointer (some ra))).alloc (.cells #[.int .u64 d] 31)).alloc (.cells #[.int .i64 0] 3)).alloc (.cells #[.pointer (some ⟨bb,0,none⟩)] 87);have bD:=((Boxed.new (w.alloc (.cells #[.pointer (some ra)] 66)) 31 (.int .u64 d)).alloc (.cells #[.int .i64 0] 3)).alloc (.cells #[.pointer (some ⟨bb,0,none⟩)] 87);have bI:=(Boxed.new ((w.alloc (.cells #[.pointer (some ra)] 66)).alloc (.cells #[.int .u64 d] 31)) 3 (.int .i64 0)).alloc (.cells #[.pointer (some ⟨bb,0,none⟩)] 87);have bB:=Boxed.new (((w.alloc (.cells #[.pointer (some ra)] 66)).alloc (.cells #[.int .u64 d] 31)).alloc (.cells #[.int .i64 0] 3)) 87 (.pointer (some ⟨bb,0,none⟩));simp only[World.size_alloc]at bR bD bI bB;have hB0:Below w.heap.size w ((((w.alloc (.cells #[.pointer (some ra)] 66)).alloc (.cells #[.int .u64 d] 31)).alloc (.cells #[.int .i64 0] 3)).alloc (.cells #[.pointer (some ⟨bb,0,none⟩)] 87)):=
  ((((Below.refl _ w).alloc (aY _) _).alloc (by simp) _).alloc (by simp;omega) _).alloc (by simp;omega) _
 have hsz:((((w.alloc (.cells #[.pointer (some ra)] 66)).alloc (.cells #[.int .u64 d] 31)).alloc (.cells #[.int .i64 0] 3)).alloc (.cells #[.pointer (some ⟨bb,0,none⟩)] 87)).heap.size=w.heap.size+4:=by simp
 obtain⟨W0,hW0⟩: ∃W0,(((w.alloc (.cells #[.pointer (some ra)] 66)).alloc (.cells #[.int .u64 d] 31)).alloc (.cells #[.int .i64 0] 3)).alloc (.cells #[.pointer (some ⟨bb,0,none⟩)] 87)=W0:=⟨_,rfl⟩;rw[hW0]at bR bD bI bB hB0 hsz ⊢;clear hW0;refine wpIn_rangeFunc_ownH rfl (by omega) (gf:=213) (lb:= #[.pointer (some ⟨w.heap.size+1+1+1,0,none⟩)]) rfl trivial (enters_of Tryz.func213 (by kernel_rfl) rfl)
  (aeH Fence.wide _ trivial trivial rfl (by omega) (w.heap.size+1+1+1) W0.heap.size bb a m cap e hm W0 (by omega) (aY _) bB.cell ((hb.below hB0).grow (by omega))) belowK_t (belowK_b (aY _)) (Below.refl _ _) (λ_=>rfl)
  (λpre W=>((Boxed W w.heap.size 66 (.pointer (some ra))/\Boxed W (w.heap.size+1) 31 (.int .u64 d))/\(Boxed W (w.heap.size+1+1) 3 (.int .i64 0)/\Boxed W (w.heap.size+1+1+1) 87 (.pointer (some ⟨bb,0,none⟩))))/\(Below w.heap.size w W/\ ∀x,x∈pre-> ¬((e x).d<=d/\q (e x).r)))
  (λc pre W=>(c= .ret/\ ∃ini x,pre=ini++[x]/\(∀y,y∈ini-> ¬((e y).d<=d/\q (e y).r))/\((e x).d<=d/\q (e x).r)/\Boxed W (w.heap.size+1+1) 3 (.int .i64 (x:Nat)))/\Below w.heap.size w W)
  (OwnFrom.and (OwnFrom.and (OwnFrom.and (Own.from (boxed_own _ _ _) _) (Own.from (boxed_own _ _ _) _)) (OwnFrom.and (Own.from (boxed_own _ _ _) _) (Own.from (boxed_own _ _ _) _))) (OwnFrom.and (ownFrom_below (aY _) (by omega)) (ownFrom_pure _ _)))
  (λc=>OwnFrom.and (Own.from (λs A B row hs hg hr=>by obtain⟨hc,ini,x,e1,e2,e3,e4⟩:=hs;exact⟨hc,ini,x,e1,e2,e3,boxed_own _ 3 (λ(_:Unit)=>Value.int .i64 (x:Nat)) () A B row e4 hg hr⟩) _) (ownFrom_below (aY _) (by omega)))
  ⟨⟨⟨bR,bD⟩,bI,bB⟩,hB0,λx hx=>by cases hx⟩
  (λx a' W=> ∃Bx,W0.heap.size<=Bx/\W.heap[Bx]? =some (.cells #[.int .i64 (e x).line,.int .i64 (e x).cls,.int .u64 (e x).r,.int .u64 (e x).d,.int .i64 (e x).anti] 70 (0,0))/\
   a'={tmps:= #[.pointer (some ⟨bb,0,none⟩),.pointer (some ra),.int .u64 d,undef,.pointer (some ⟨w.heap.size,0,none⟩),.pointer (some ⟨w.heap.size+1,0,none⟩),.pointer (some ⟨w.heap.size+1+1,0,none⟩),.int .i64 (x:Nat),.pointer (some ⟨Bx,0,none⟩),.pointer (some ra),.bool false,.pointer (some ⟨bb,0,none⟩),.func (.func 213) #[] #[.pointer (some ⟨w.heap.size+1+1+1,0,none⟩)],.int .i64 (x:Nat),(e x).val,undef,undef,undef,undef,undef,undef,undef,undef,undef,undef,undef],defers:=[]})
  (λx a' _ X Y row hs hg hr=>by obtain⟨Bx,h1,h2,h3⟩:=hs;exact⟨Bx,h1,(grownBy_keeps_cells hg (λr e=>(hr r e).2) h2 rfl).trans h2,h3⟩)
  ?assign ?body ?done ?stop
 case assign=>
  rintro l pre x W K ⟨⟨⟨bR1,bD1⟩,bI1,bB1⟩,hB1,hP⟩ hK
  unfold gG.val
  gi_wp2
  have hWs:W0.heap.size<=W.heap.size:=by have:=bB1.lt;omega
  exact hK _ _ ((KeepsOthers.alloc _ _).from _) ((Below.refl _ W).alloc hWs _) ⟨⟨⟨bR1.alloc _,bD1.alloc _⟩,bI1.alloc _,bB1.alloc _⟩,hB1.alloc hB1.size _,hP⟩ ⟨W.heap.size,hWs,World.alloc_heap_new _ _,rfl⟩
 case body=>
  rintro l pre x a' W hl ⟨r,hr⟩ ⟨⟨⟨bR1,bD1⟩,bI1,bB1⟩,hB1,hP⟩ ⟨Bx,hBx,bX,rfl⟩ hlt
  have cR:=bR1.cell;have cD:=bD1.cell;have cI:=bI1.cell;have fI:=bI1.frozen;have hmx:Tryz.prog.follows .mixedOrders=true:=by kernel_rfl
  have x2:W.cell? ⟨Bx,2,none⟩=some (.int .u64 (e x).r):=by simp[World.cell?,bX]
  have x3:W.cell? ⟨Bx,3,none⟩=some (.int .u64 (e x).d):=by simp[World.cell?,bX]
  have hWs:W0.heap.size<=W.heap.size:=by have:=bB1.lt;omega
  gi_wp2
  ·have hle:(e x).d<=d:=by assumption
   refine⟨trivial,?_⟩;refine(CallsIn.inRound l (callsIn_wide.2 (hq (e x).r W hB1))).mono ?_
   rintro en w' ⟨⟨b,rfl,hb'⟩,hk⟩
   have cI':=(hk.cell (p:=⟨w.heap.size+1+1,0,none⟩) bI1.lt).trans cI;have fI':=(World.frozen?_of_block (a:=⟨w.heap.size+1+1,0,none⟩) (hk.block _ bI1.lt)).trans fI;have bI2:Boxed w' (w.heap.size+1+1) 3 (.int .i64 0):=(hk.block _ bI1.lt).trans bI1;have bR2:Boxed w' w.heap.size 66 (.pointer (some ra)):=(hk.block _ bR1.lt).trans bR1;have bD2:Boxed w' (w.heap.size+1) 31 (.int .u64 d):=(hk.block _ bD1.lt).trans bD1;have bB2:Boxed w' (w.heap.size+1+1+1) 87 (.pointer (some ⟨bb,0,none⟩)):=(hk.block _ bB1.lt).trans bB1;have hk0:Below W0.heap.size W w':=hk.mono hWs;have hk1:Below w.heap.size w w':=hB1.trans (hk.mono hB1.size);cases b with
   |true=>
    have hqx:q (e x).r:=hb'.1 rfl;clear hb'
    gi_wp2
    exact⟨(ou hk).trans ((KeepsOthers.setCell _ _ _).from _),⟨rfl,pre,x,rfl,hP,⟨hle,hqx⟩,bI2.set _⟩,hk1.setCell (p:=⟨w.heap.size+1+1,0,none⟩) (by show w.heap.size<=w.heap.size+1+1;omega) _⟩
   |false=>
    have hqx: ¬q (e x).r:=λh=>Bool.noConfusion (hb'.2 h)
    clear hb'
    gi_wp2
    refine⟨ou hk,hk0,⟨⟨bR2,bD2⟩,bI2,bB2⟩,hk1,λy hy=> ?_⟩;rcases List.mem_append.1 hy with hy|hy
    ·first|exact hP y hy|exactλh1 h2=>hP y hy ⟨h1,h2⟩
    ·rw[List.mem_singleton.1 hy]
     first|exactλh=>hqx h.2|exactλ_ h=>hqx h
  ·refine⟨trivial,?_⟩
   have hle:d<(e x).d:=by omega
   gi_wp2
   refine⟨KeepsFrom.refl _ _,Below.refl _ _,⟨⟨bR1,bD1⟩,bI1,bB1⟩,hB1,λy hy=> ?_⟩;rcases List.mem_append.1 hy with hy|hy
   ·first|exact hP y hy|exactλh1 h2=>hP y hy ⟨h1,h2⟩
   ·rw[List.mem_singleton.1 hy]
    first|exactλh=>absurd h.1 (by omega)|exactλh _=>absurd h (by omega)
 case done=>
  rintro D ys W hD rfl ⟨⟨⟨bR1,bD1⟩,bI1,bB1⟩,hB1,hP⟩ hK
  have cI:=bI1.cell;have fI:=bI1.frozen
  gi_wp2
  have hK':=(KeepsOthers.setCell W ⟨w.heap.size+1+1,0,none⟩ (.int .i64 (-1))).same D _ hK rfl;refine⟨by simp,.inl ⟨_,_,rfl,run_takeDeferred hK',?_⟩⟩;have hc5:=cell_kept (World.cell?_setCell_same' W ⟨w.heap.size+1+1,0,none⟩ (.int .i64 (-1)) (by rw[cI];rfl)) (grownBy_putObj' _ D (.deferred none)) (λr e=>by cases e;exact⟨_,hK',rfl⟩);refine⟨.int .i64 (-1),?_,⟨_,rfl,.inl ⟨rfl,λk hk=>hP k (by simp[upto,hk])⟩⟩,(hB1.setCell (p:=⟨w.heap.size+1+1,0,none⟩) (by show w.heap.size<=w.heap.size+1+1;omega) _).trans (belowK_b (w:=w) (aY _) _ D _ _ (by omega) hK' rfl rfl)⟩;simp[results,Tryz.f109,go_sem,hc5]
 case stop=>
  rintro D c pre W hD ⟨k,hk,rfl⟩ ⟨⟨rfl,ini,x,e1,e2,e3,bI1⟩,hB⟩ hK
  have cI:=bI1.cell
  gi_wp2
  refine⟨by simp,.inl ⟨_,_,rfl,run_takeDeferred hK,?_⟩⟩;have hc5:=cell_kept cI (grownBy_putObj' _ D (.deferred none)) (λr e=>by cases e;exact⟨_,hK,rfl⟩);obtain⟨k',rfl⟩: ∃k',k=k'+1:=by
   cases k with
   |zero=>simp[upto]at e1
   |succ k'=>exact⟨k',rfl⟩
  rw[upto_succ]at e1;obtain⟨rfl,e5⟩:=List.append_inj' e1 rfl;obtain rfl:k'=x:=by simpa using e5
  refine⟨.int .i64 (k':Int),?_,⟨_,rfl,.inr ⟨k',by omega,rfl,e3,λj hj=>e2 j (by simp[upto,hj])⟩⟩,hB.trans (belowK_b (w:=w) (aY _) W D _ _ (by omega) hK rfl rfl)⟩;simp[results,Tryz.f109,go_sem,hc5]
end Go.Proofs.YtenfleoejgjklaaGreat
end
section
namespace Go.Proofs.YtenfleoejgjklaaGreat
open Go SE
theorem ak2{h:Heap}{ρ:SE.Ren}{T:Nat->Prop}{w w':World}(hR:Rel h ρ T w)(hb:Go.RowKit.Below w.heap.size w w'):Rel h ρ T w'/\Keeps T w w':=by
 obtain⟨S,h1,h2,h3,h4,h5⟩:=hR;have hlt: ∀b,¬T b->b<w.heap.size:=λb hbT=>by
  rcases Nat.lt_or_ge b w.heap.size with h'|h'
  ·exact h'
  ·exact(hbT (h5 b h')).elim
 refine⟨⟨S,λi o hi=> ?_,h2,λi o b hi hS=>⟨(h3 i o b hi hS).1,Nat.lt_of_lt_of_le (h3 i o b hi hS).2 hb.size⟩,h4,λb h=>h5 b (Nat.le_trans hb.size h)⟩,⟨hb.size,hb.os,hb.tape,hb.output,λb hbT=>hb.block b (hlt b hbT)⟩⟩;obtain⟨a,ha,hh⟩:=h1 i o hi;refine⟨a,ha,hh.stays λb hbS=>hb.block b ?_⟩;rcases hbS with hbS|hbS
 ·exact(h3 i o b hi hbS).2
 ·exact hlt b hbS
structure Gy where
 b:iw
 r:ZRd
 d:Int
def Gy.rd(x:Gy)(k:Nat):Prop:=(x.b.e k).d<=x.d/\x.r.quiet (x.b.e k).r
def Gy.l(x:Gy):List PO:=[.m x.b.os,.m x.r.os]
noncomputable def Gy.os(x:Gy):List dF:=[.abs (ownM x.b.os),.abs (ownM x.r.os)]
noncomputable def Ua:Ctr:={X:=Gy,args:=λx=>[.ptr 0 0,.ptr 1 0,u64 x.d],k:=2,os:=Gy.os,pre:=λx=>Hd (x.b.ok/\x.r.ok),outs:=[
 {Y:=Unit,post:=λx _=>Hd (∀k,k<x.b.n-> ¬x.rd k),ret:=λ_ _=>i64 (-1),m:=2,os:=λx _=>x.os},
 {Y:=Nat,post:=λx k=>Hd (k<x.b.n/\x.rd k/\ ∀j,j<k-> ¬x.rd j),ret:=λ_ k=>i64 k,m:=2,os:=λx _=>x.os}]}
structure aoU (w:World) (a:SE.Loc) (r:ZRd):Prop where
 base:a.base=0
 lt:a.blk<w.heap.size
 ar: ∃arr ty bh p cap,w.heap[a.blk]? =some (.cells arr ty (0,0))/\arr[0]? =some (.int .u64 r.now)/\arr[1]? =some (.slice (some ⟨bh,p,none⟩) r.t cap)/\cap=r.t/\p=0/\bh<w.heap.size/\
  ∃ar2 ty2,w.heap[bh]? =some (.cells ar2 ty2 (0,0))/\ ∀k,k<r.t->ar2[k]? =some (.int .u64 (r.has k))
theorem aoU.quiet{w:World}{a:SE.Loc}{r:ZRd}(h:aoU w a r)(hr:r.ok):Y6 ⟨a.blk,0,none⟩ r.quiet w:=λx W hW=>by
 obtain⟨h0,hlt,arr,ty,bh,p,cap,q1,q2,q3,rfl,rfl,q4,ar2,ty2,q5,q6⟩:=h;have q1:=(hW.block _ hlt).trans q1;have q5:=(hW.block _ q4).trans q5;have hlt:=Nat.lt_of_lt_of_le hlt hW.size;have q4:=Nat.lt_of_lt_of_le q4 hW.size;let ρ:SE.Ren:=λi=>if i=0 then some a else if i=1 then some ⟨bh,0,0⟩else none
 let T:Nat->Prop:=λb=>W.heap.size<=b
 have hR:Rel (hO 2 r.ro) ρ T W:=by
  refine⟨λ_ _=>False,λi o hi=> ?_,λ_ _ _ _ _ _ _ _ h _=>h.elim,λ_ _ _ _ h=>h.elim,λi hi=> ?_,λb hb=>hb⟩
  ·rw[jq (n:=2) (os:=r.ro) rfl]at hi
   match i,hi with
   |0,hi=>
    cases hi;refine⟨a,rfl,.inr ⟨λhT=>by have hT:W.heap.size<=a.blk:=hT;omega,arr,ty,(0,0),q1,λk v hk=> ?_⟩⟩;rw[h0,aA]
    match k,hk with
    |0,hk=>cases hk;exact⟨_,q2,by show bF ρ (.lit _) _;simp only[bF]⟩
    |1,hk=>cases hk;exact⟨_,q3,by simp only[bF];exact⟨⟨bh,0,0⟩,0,rfl,rfl,aY _,λ_=>rfl⟩⟩
    |k+2,hk=>cases hk
   |1,hi=>
    cases hi;refine⟨⟨bh,0,0⟩,rfl,.inr ⟨λhT=>by have hT:W.heap.size<=bh:=hT;omega,ar2,ty2,(0,0),q5,λk v hk=> ?_⟩⟩;have hk2:=Cs.dW hk;have hk2:k<r.t:=by simpa[Cs.size]using hk2
    have:=qh (m:=1) (g:=λk=>[Value.int .u64 (r.has k)]) (wr:=[]) (n:=r.t) (k:=k) (j:=0) (v:= .int .u64 (r.has k)) hk2 (by omega) rfl;rw[Nat.mul_one,aI]at this;rw[this]at hk;cases hk;exact⟨_,by show ar2[0+k]? =_;rw[aA];exact q6 k hk2,by simp only[bF]⟩
   |i+2,hi=>cases hi
  ·have hi:2<=i:=hi
   show(if i=0 then some a else if i=1 then _ else none)=none;rw[if_neg (by omega),if_neg (by omega)]
 have hs:=(aoS ⟨r,x⟩ (aZ.2 hr)).2
 refine(hs.2 ρ T W #[.pointer (some ⟨a.blk,0,none⟩),.int .u64 x] hR (by
  show dQ ρ [.ptr 0 0,u64 x] _;simp only[dQ,bF,u64]
  exact⟨_,_,rfl,⟨a,rfl,by rw[h0]⟩,_,_,rfl,rfl,rfl⟩)).mono ?_
 rintro en w' ⟨ρ2,v,u,h',_,_,_,hv,rfl,hk,ho⟩
 refine⟨?_,hk.os,hk.tape,hk.output,hk.size,λk hk'=>hk.block k (λhT=>by have hT:W.heap.size<=k:=hT;omega)⟩;rcases nZ ho with ⟨_,hp,rfl,_⟩|⟨_,hp,rfl,_⟩
 ·simp only[bF,boo]at hv
  exact⟨true,by rw[hv],λ_=>aZ.1 hp,λ_=>rfl⟩
 ·simp only[bF,boo]at hv
  exact⟨false,by rw[hv],λh=>Bool.noConfusion h,λh=>absurd h (aZ.1 hp)⟩
theorem aeI(w:World)(bb:Nat)(ra:Addr)(a:Option Addr)(m cap:Nat)(e:Nat->gG)(d:Int)(q:Int->Prop)(hb:Gt w.heap.size w bb a m cap e)(hm:m<=258)(hq:Y6 ra q w):
  Calls Tryz.prog 109 #[.pointer (some ⟨bb,0,none⟩),.pointer (some ra),.int .u64 d] w λen W'=>
   (∃v,en= .returned (.int .i64 v)/\ap7 m (λk=>(e k).d<=d/\q (e k).r) v)/\Go.RowKit.Below w.heap.size w W':=callsIn_wide.1 (ak1 w bb ra a m cap e d q hb hm hq)
theorem Ub{x:Gy}{ρ:SE.Ren}{T:Nat->Prop}{w:World}{vs:Array Value}(hR:Rel (hO 2 x.os) ρ T w)(hl:dQ ρ [.ptr 0 0,.ptr 1 0,u64 x.d] vs.toList)(hx:x.b.ok/\x.r.ok)
  {ρ':SE.Ren} (hle:ρ.le ρ') {a0 a1:SE.Loc} (h0:ρ' 0=some a0) (h1:ρ' 1=some a1) (hz0:a0.base=0) {a:Option Addr} {cap:Nat} (hb:Gt w.heap.size w a0.blk a x.b.n cap x.b.e) (hr:aoU w a1 x.r):
  Calls Tryz.prog 109 vs w (λe w'=> ∃ρ' v u h',(∀i,i<(hO 2 x.os).next->ρ' i=ρ i)/\(hO 2 x.os).next<=h'.next/\Rel h' ρ' T w'/\bF ρ' v u/\e= .returned u/\Keeps T w w'/\kP x v h' Ua.outs):=by
 have hl:=dQ.mono hle _ _ hl;simp only[dQ,bF,u64]at hl;obtain⟨u0,_,hvs,⟨b0,hb0,rfl⟩,u1,_,rfl,⟨b1,hb1,rfl⟩,u2,_,rfl,rfl,rfl⟩:=hl;obtain rfl:b0=a0:=Option.some.inj (hb0.symm.trans h0);obtain rfl:b1=a1:=Option.some.inj (hb1.symm.trans h1);rw[hz0,hr.base]at hvs;obtain rfl:vs= #[.pointer (some ⟨b0.blk,0,none⟩),.pointer (some ⟨b1.blk,0,none⟩),.int .u64 x.d]:=vs3 hvs;refine(aeI w b0.blk ⟨b1.blk,0,none⟩ a x.b.n cap x.b.e x.d x.r.quiet hb hx.1.1 (hr.quiet hx.2)).mono ?_
 rintro en w' ⟨⟨v,rfl,hv⟩,hB⟩
 obtain⟨R',K'⟩:=ak2 hR hB;refine⟨ρ,i64 v,.int .i64 v,_,λ_ _=>rfl,aY _,R',by simp only[bF,i64],rfl,K',?_⟩;rcases hv with ⟨rfl,hv⟩|⟨k,hk,rfl,hv,hj⟩
 ·unfold Ua
  rw[dV];exact .inl ⟨(),aZ.2 hv,rfl,rfl⟩
 ·unfold Ua
  rw[dV,dV];exact .inr (.inl ⟨k,aZ.2 ⟨hk,hv,hj⟩,rfl,rfl⟩)
theorem ak3{w:World}{be:Nat}{arr:Array Value}{ty:TypeId}(hb:w.heap[be]? =some (.cells arr ty (0,0))){ρ:SE.Ren}{n:Nat}{e:Nat->gG}(hr:fF ρ (.row 5 n (λi=>(e i).cs) []) arr 0){k:Nat}(hk:k<n):
  w.cell? ⟨be,0+k*5,none⟩=some (.int .i64 (e k).line)/\w.cell? ⟨be,0+k*5+1,none⟩=some (.int .i64 (e k).cls)/\w.cell? ⟨be,0+k*5+2,none⟩=some (.int .u64 (e k).r)/\w.cell? ⟨be,0+k*5+3,none⟩=some (.int .u64 (e k).d)/\w.cell? ⟨be,0+k*5+4,none⟩=some (.int .i64 (e k).anti):=by
 have key: ∀j v,(e k).cs[j]? =some v->w.cell? ⟨be,0+k*5+j,none⟩=some v:=λj v hv=>by
  have hj:j<5:=by
   have:=(List.getElem?_eq_some_iff.1 hv).1;exact this
  obtain⟨u,hu,hv2⟩:=hr (k*5+j) (.lit v) (qh (g:=λi=>(e i).cs) (wr:=[]) hk hj hv);simp only[bF]at hv2;subst hv2;simp only[World.cell?,hb,aA]at hu ⊢;exact hu
 exact⟨key 0 _ rfl,key 1 _ rfl,key 2 _ rfl,key 3 _ rfl,key 4 _ rfl⟩
theorem OD:lN Tryz.prog 109:=⟨_,Tryz.func109,by kernel_rfl,by kernel_rfl⟩
theorem ap8{ρ:SE.Ren}{w:World}{T S2 S3:Nat->Prop}{r:ZRd}{i:Nat}{a1 a3:SE.Loc}(ht:1<=r.t)(h3:ρ i=some a3)(o1:dI ρ w T a1 S2 (.cells 149 (.av [u64 r.now,.slE i 0 1 r.t r.t])))(o3:dI ρ w T a3 S3 (.cells 111 (.row 1 r.t (λk=>[.int .u64 (r.has k)]) [])))
  (l1:a1.blk<w.heap.size) (l3:a3.blk<w.heap.size):aoU w a1 r:=by
 obtain⟨z1,_,arr,q1,_,_,c1⟩:=o1;obtain⟨z3,_,ar2,q3,_,_,c3⟩:=o3;obtain⟨u,hu,hv⟩:=c1 0 (u64 r.now) rfl;simp only[bF,u64]at hv;subst hv;obtain⟨u2,hu2,hv2⟩:=c1 1 (.slE i 0 1 r.t r.t) rfl;simp only[bF]at hv2;obtain⟨a',p,ha',rfl,_,hp⟩:=hv2;obtain rfl:a'=a3:=Option.some.inj (ha'.symm.trans h3);have hp:=hp (by omega);rw[z3]at hp;refine⟨z1,l1,arr,_,a'.blk,p,r.t,q1,by simpa using hu,by simpa using hu2,rfl,by simpa using hp,l3,ar2,_,q3,λk hk=> ?_⟩
 obtain⟨u,hu,hv⟩:=c3 k (.lit (.int .u64 (r.has k))) (by
  have:=qh (m:=1) (g:=λk=>[Value.int .u64 (r.has k)]) (wr:=[]) (n:=r.t) (k:=k) (j:=0) (v:= .int .u64 (r.has k)) hk (by omega) rfl;rw[Nat.mul_one,aI]at this
  exact this)
 simp only[bF]at hv;subst hv;simpa using hu
theorem aoV:cO Tryz.prog 109 Ua:=λx hp=>⟨rfl,OD,λρ T w vs hR hl=>by
 have hx:=aZ.1 hp;cases hz:x.b.z with
 |true=>
  have hg:x.l.all (PO.good x.l.length)=true:=by
   show(PO.good 2 (.m x.b.os)&&(PO.good 2 (.m x.r.os)&&true))=true;unfold iw.os;rw[hz];rfl
  have hn:x.b.n=0:=hx.1.2 hz;obtain⟨ρ',r1,r2,r3⟩:=Rel.Ku (l:=x.l) hg (ρ:=ρ) (T:=T) (w:=w) hR;have hfl:flatP x.l.length x.l=[.cells 183 (.av [gQ]),.cells 149 (.av [u64 x.r.now,.slE 2 0 1 x.r.t x.r.t]),.cells 111 (.row 1 x.r.t (λk=>[.int .u64 (x.r.has k)]) [])]:=by
   show flatP 2 [.m x.b.os,.m x.r.os]=_;unfold iw.os;rw[hz];rfl
  rw[hfl]at r3;obtain⟨S,h1,h2,h3,h4,h5⟩:=r3;obtain⟨a0,e0,o0⟩:=h1 0 _ (by rw[dX];rfl);obtain⟨a1,e1,o1⟩:=h1 1 _ (by rw[dX];rfl);obtain⟨a2,e2,o2⟩:=h1 2 _ (by rw[dX];rfl);have l0:=(h3 0 _ _ (by rw[dX];rfl) o0.2.1).2;have l1:=(h3 1 _ _ (by rw[dX];rfl) o1.2.1).2;have l2:=(h3 2 _ _ (by rw[dX];rfl) o2.2.1).2;obtain⟨z0,_,arr,q0,_,_,c0⟩:=o0;obtain⟨u,hu,hv⟩:=c0 0 gQ rfl;simp only[bF,gQ]at hv;subst hv;refine Ub (a:=none) (cap:=0) hR hl hx r2 e0 e1 z0 ⟨l0,?_,λk hk=>by omega⟩ (ap8 hx.2.1 e2 o1 o2 l1 l2);rw[hn];simp only[World.cell?,q0];simpa using hu
 |false=>
  have hg:x.l.all (PO.good x.l.length)=true:=by
   show(PO.good 2 (.m x.b.os)&&(PO.good 2 (.m x.r.os)&&true))=true;unfold iw.os;rw[hz];rfl
  obtain⟨ρ',r1,r2,r3⟩:=Rel.Ku (l:=x.l) hg (ρ:=ρ) (T:=T) (w:=w) hR;have hfl:flatP x.l.length x.l=[.cells 183 (.av [.slW 2 0 5 x.b.n]),.cells 149 (.av [u64 x.r.now,.slE 3 0 1 x.r.t x.r.t]),.room 70 x.b.row,.cells 111 (.row 1 x.r.t (λk=>[.int .u64 (x.r.has k)]) [])]:=by
   show flatP 2 [.m x.b.os,.m x.r.os]=_;unfold iw.os;rw[hz];rfl
  rw[hfl]at r3;obtain⟨S,h1,h2,h3,h4,h5⟩:=r3;obtain⟨a0,e0,o0⟩:=h1 0 _ (by rw[dX];rfl);obtain⟨a1,e1,o1⟩:=h1 1 _ (by rw[dX];rfl);obtain⟨a2,e2,o2⟩:=h1 2 _ (by rw[dX];rfl);obtain⟨a3,e3,o3⟩:=h1 3 _ (by rw[dX];rfl);have l0:=(h3 0 _ _ (by rw[dX];rfl) o0.2.1).2;have l1:=(h3 1 _ _ (by rw[dX];rfl) o1.2.1).2;have l2:=(h3 2 _ _ (by rw[dX];rfl) o2.2.1).2;have l3:=(h3 3 _ _ (by rw[dX];rfl) o3.2.1).2;obtain⟨z0,_,arr,q0,_,_,c0⟩:=o0;obtain⟨u,hu,hv⟩:=c0 0 (.slW 2 0 5 x.b.n) rfl;simp only[bF]at hv;obtain⟨a',p,cap,ha',rfl,hcap,hp⟩:=hv;obtain rfl:a'=a2:=Option.some.inj (ha'.symm.trans e2);obtain⟨z2,_,ar2,q2,_,_,c2⟩:=o2;refine Ub (a:=some ⟨a'.blk,p,none⟩) (cap:=cap) hR hl hx r2 e0 e1 z0 ⟨l0,?_,λk hk=>⟨a'.blk,p,rfl,l2,?_⟩⟩ (ap8 hx.2.1 e3 o1 o3 l1 l3)
  ·simp only[World.cell?,q0]
   simpa using hu
  ·have hp:=(hp (by omega)).1
   rw[z2]at hp;obtain rfl:p=0:=by simpa using hp
   exact ak3 q2 c2 hk⟩
def zEnt:gG:=⟨0,0,0,0,0⟩
noncomputable def avx:Ctr:=det Gy (λx=>[.ptr 0 0,.ptr 1 0,u64 x.d]) 2 Gy.os (λx=>Hd (x.b.ok/\x.r.ok/\ ∀k,k<x.b.n-> ¬x.rd k)) (λ_=> .tup [zEnt.av,boo false]) 2 Gy.os
noncomputable def ap9:je:=[(109,ctrT Ua)]
def avy(ph:Nat):iW:=oJ eU (λ_=>[.ptr 0 0]) 1 (λc=>[.m (c.os ph)]) (λc=>Hd c.ok) (λc=>u64 c.dur) 1 (λc=>[.m (c.os ph)])
def avz:iW:=oJ ZRd (λ_=>[.ptr 0 0]) 1 (λr=>[.m r.os]) (λr=>Hd r.ok) (λr=>u64 (r.now+1)) 1 (λr=>[.m (ZRd.os {r with now:=r.now+1})])
structure aoW where
 b:iw
 r:ZRd
 c:eU
noncomputable def aoW.os(x:aoW):List dF:=[arnR .any (.ptr 2 0) (.ptr 3 0) (.ptr 1 0) .any .any .any,.abs (ownM x.b.os),.abs (ownM x.r.os),.abs (ownM (x.c.os 0))]
noncomputable def avA:Ctr:=det aoW (λ_=>[.ptr 0 0]) 4 aoW.os (λx=>Hd (x.b.ok/\x.r.ok/\x.c.ok/\ ∀k,k<x.b.n-> ¬Gy.rd ⟨x.b,x.r,x.c.dur⟩ k)) (λ_=> .tup [zEnt.av,i64 12]) 4 aoW.os
noncomputable def aqa:je:=[(60,ctrT avx),(61,ctrT (avy 0).ctr)]
def aoX:Prop:=(0:Int)=0/\(0:Int)=0/\(0:Int)=0/\(0:Int)=0/\(0:Int)=0/\True
def ata(x:Gy):Prop:=
 ∃x_1:Gy,Hd (x_1.b.ok/\x_1.r.ok)/\(0=0/\0=0/\x_1.d=x.d/\True)/\(ownM x_1.b.os=ownM x.b.os/\ownM x_1.r.os=ownM x.r.os/\True)/\(∀y:Unit,Hd (∀k:Nat,k<x_1.b.n->Not (x_1.rd k))-> ∃y_1:Unit,True/\(aoX/\false=false/\True)/\ownM x.b.os=ownM x_1.b.os/\ownM x.r.os=ownM x_1.r.os/\True)/\ ∀y:Nat,Hd (y<x_1.b.n/\x_1.rd y/\ ∀j:Nat,j<y->Not (x_1.rd j))->False
theorem aoY(x:Gy):ata x=wpF Tryz.prog ap9 tt (noA x) 200 5 60 (avx.args x) (hO 2 (avx.os x)) (λv h'=>eX 2 x v h' avx.outs):=by kernel_rfl
def atb(x:eU):Prop:=
 ∃y:Unit,True/\x.dur=x.dur/\((x.now=x.now/\x.dur=x.dur/\x.jr=x.jr/\(0=0/\x.t=x.t/\x.t=x.t)/\True)/\(258=258/\ ∀q:Nat,q<258->[Value.bool (x.N q)]=[Value.bool (x.N q)])/\(258=258/\ ∀q:Nat,q<258->[Value.bool (x.L q)]=[Value.bool (x.L q)])/\Value.nilFunc=Value.nilFunc/\True)/\(x.t=x.t/\ ∀q:Nat,q<x.t->[Value.int .i64 (x.o q)]=[Value.int .i64 (x.o q)])/\True
theorem aoZ(x:eU):atb x=wpF Tryz.prog nU tt (noA x) 200 5 61 ((avy 0).args x) (hO 2 (flatP 1 ((avy 0).l x))) (λv h'=>endsPK 1 x v h' (avy 0).outs):=by kernel_rfl
def atc(x:ZRd):Prop:=
 ∃y:Unit,True/\x.now+1=IntKind.wrap .u64 (x.now+1)/\(x.now+1=IntKind.wrap .u64 (x.now+1)/\(0=0/\x.t=x.t/\x.t=x.t)/\True)/\(x.t=x.t/\ ∀q:Nat,q<x.t->[Value.int .u64 (x.has q)]=[Value.int .u64 (x.has q)])/\True
theorem ao0(x:ZRd):atc x=wpF Tryz.prog nU tt (noA x) 200 5 28 (avz.args x) (hO 2 (flatP 1 (avz.l x))) (λv h'=>endsPK 1 x v h' avz.outs):=by kernel_rfl
def atd(x:aoW):Prop:=
 ∃x_1:eU,Hd x_1.ok/\(0=0/\True)/\(ownM (x_1.os 0)=ownM (x.c.os 0)/\True)/\ ∀y:Unit,True-> ∃x_2:Gy,Hd (x_2.b.ok/\x_2.r.ok/\ ∀k:Nat,k<x_2.b.n->Not (x_2.rd k))/\(0=0/\0=0/\x_2.d=x_1.dur/\True)/\(ownM x_2.b.os=ownM x.b.os/\ownM x_2.r.os=ownM x.r.os/\True)/\ ∀y_1:Unit,True-> ∃y_2:Unit,True/\(aoX/\(12:Int)=12/\True)/\(True/\True/\0=0/\0=0/\0=0/\True/\True/\True/\True/\True/\True/\True)/\ownM x.b.os=ownM x_2.b.os/\ownM x.r.os=ownM x_2.r.os/\ownM (x.c.os 0)=ownM (x_1.os 0)/\True
theorem ao1(x:aoW):atd x=wpF Tryz.prog aqa tt (noA x) 200 5 29 (avA.args x) (hO 4 (avA.os x)) (λv h'=>eX 4 x v h' avA.outs):=by kernel_rfl
theorem aeJ(x:Gy)(hx:x.b.ok/\x.r.ok/\ ∀k,k<x.b.n-> ¬x.rd k):ata x:=by
 unfold ata;simp only[aoX];simp only[aZ,aV,aU,aA,aI,bU,bG,aO,aK,ay,aX,aW,bV,bH,bJ,bK,bW,bC,bM,bn,eY,aH,aN,ah,ak,aB,aF,aC,aG];exact⟨x,⟨hx.1,hx.2.1⟩,rfl,⟨rfl,rfl⟩,λ_=>⟨rfl,rfl⟩,λy hy=>hx.2.2 y hy.1 hy.2.1⟩
theorem aeK(x:eU)(hx:x.ok):atb x:=by
 unfold atb;simp only[aZ,aV,aU,aA,aI,bU,bG,aO,aK,ay,aX,aW,bV,bH,bJ,bK,bW,bC,bM,bn,eY,aH,aN,ah,ak,aB,aF,aC,aG]
theorem aeL(x:ZRd)(hx:x.ok):atc x:=by
 obtain⟨_,_,h1,h2⟩:=hx;unfold atc;simp only[aZ,aV,aU,aA,aI,bU,bG,aO,aK,ay,aX,aW,bV,bH,bJ,bK,bW,bC,bM,bn,eY,aH,aN,ah,ak,aB,aF,aC,aG];show x.now+1=(x.now+1)%18446744073709551616;omega
theorem aeM(x:aoW)(hx:x.b.ok/\x.r.ok/\x.c.ok/\ ∀k,k<x.b.n-> ¬Gy.rd ⟨x.b,x.r,x.c.dur⟩ k):atd x:=by
 unfold atd;simp only[aoX];simp only[aZ,aV,aU,aA,aI,bU,bG,aO,aK,ay,aX,aW,bV,bH,bJ,bK,bW,bC,bM,bn,eY,aH,aN,ah,ak,aB,aF,aC,aG];exact⟨x.c,hx.2.2.1,rfl,⟨x.b,x.r,x.c.dur⟩,⟨hx.1,hx.2.1,hx.2.2.2⟩,rfl,⟨rfl,rfl⟩,rfl,rfl,rfl⟩
theorem ak4:dZ Tryz.prog ap9:= .cons (bP aoV) .nil
theorem Y7:cO Tryz.prog 60 avx:=dM dG mixed ak4 noA 200 5 (λ_=>rfl) (λ_=>rfl) λx hx=>Eq.mp (aoY x) (aeJ x (aZ.1 hx))
theorem avC:cO Tryz.prog 61 (avy 0).ctr:=dh dG mixed dO 2 noA 200 5 (λ_=>⟨rfl,rfl,rfl,rfl⟩) λx hx=>Eq.mp (aoZ x) (aeK x (aZ.1 hx))
theorem avD:cO Tryz.prog 28 avz.ctr:=dh dG mixed dO 2 noA 200 5 (λ_=>⟨rfl,rfl,rfl,rfl⟩) λx hx=>Eq.mp (ao0 x) (aeL x (aZ.1 hx))
theorem ak5:dZ Tryz.prog aqa:= .cons (bP Y7) (.cons (bP avC) .nil)
theorem Y8:cO Tryz.prog 29 avA:=dM dG mixed ak5 noA 200 5 (λ_=>rfl) (λ_=>rfl) λx hx=>Eq.mp (ao1 x) (aeM x (aZ.1 hx))
structure ZPe where
 a:ZSto
 code:Int
 found:Bool
 aep:Int
 n:Int
def Uc(x:ZWp)(a':ZSto):Prop:=(goodP 2 x.key x.v≠0/\a'=x.a)\/((∀i,i<x.a.p.n->x.a.p.cls i≠ -1/\x.a.p.full x.c i)/\a'=x.a2)\/ ∃B',PPut x ((x.a.r.put x.t x.a.r.now).put x.t 0) a' B'
noncomputable def ak6:Ctr:={X:=ZWp,args:=λx=>[.ptr 0 0,i64 x.t,anb 2 x.key x.v],k:=1,os:=λx=>[.abs (ownM x.a.os)],pre:=λx=>Hd x.ok,outs:=[
 {Y:=ZPe,post:=λx y=>Hd (Uc x y.a),ret:=λ_ y=> .tup [aeV y.code y.found ⟨#[]⟩ y.aep,i64 y.n,boo true],m:=1,os:=λ_ y=>[.abs (ownM y.a.os)]}]}
theorem aeN:cO Tryz.prog 35 ak6:=jg λx hx=>by
 refine⟨_,Jt,rfl,x,hx,rfl,rfl,λv h' hh=> ?_⟩;rcases akE hh with ⟨y,q,e1,e2⟩|⟨y,q,e1,e2⟩|⟨y,q,e1,e2⟩
 ·exact eF ⟨⟨x.a,goodP 2 x.key x.v,false,0,1⟩,aZ.2 (.inl ⟨aZ.1 q,rfl⟩),e1,e2⟩
 ·exact eF ⟨⟨x.a2,4,false,0,(4+x.far:Nat)⟩,aZ.2 (.inr (.inl ⟨(aZ.1 q).2,rfl⟩)),e1,e2⟩
 ·exact eF ⟨⟨y,0,x.had,x.a.c.now,(5+x.far+x.sp:Nat)⟩,aZ.2 (.inr (.inr (aZ.1 q).2)),e1,e2⟩
def wQ(a:ZSto):Prop:=a.b.ok/\a.r.ok/\a.c.ok/\ ∀k,k<a.b.n-> ¬Gy.rd ⟨a.b,a.r,a.c.dur⟩ k
noncomputable def aqw:iW:=oJ ZSto (λ_=>[.ptr 0 0]) 1 (λa=>[.m a.os]) (λa=>Hd (a.ph=0/\wQ a)) (λ_=> .tup [zEnt.av,i64 12]) 1 (λa=>[.m a.os])
structure HWp (M N m:Nat) (B:ByteArray->ZBlk) (b:ZBlk) (ln:Nat) (a:ZSto):Prop where
 base:eH a 2 M N B
 h0:a.r.has 0=0
 h1:a.r.has 1=1
 now:1<=a.r.now
 aeO:a.r.now<=M
 bag: ∀k,k<a.b.n->1<=(a.b.e k).r
 keep:zf a b ln
 note:qN a.c.N 258<=m
section
variable{M N m:Nat}{B:ByteArray->ZBlk}{b:ZBlk}{ln:Nat}{a:ZSto}
theorem HWp.wQ(w:HWp M N m B b ln a):wQ a:=⟨w.base.bok,w.base.rok,w.base.cok,λk hk h=>by
 have h1:=h.2 1 (by show 1<a.r.t;rw[w.base.rt];decide) (by show a.r.has 1≠0;rw[w.h1];decide);have h1:(a.b.e k).r<a.r.has 1:=h1;have:=w.bag k hk;rw[w.h1]at h1
 omega⟩
theorem abG{f g:Nat->Bool}{lo n:Nat}(h: ∀k,f k=true->g k=true\/(lo<=k/\k<lo+n)): ∀q,qN f q<=qN g q+min (q-lo) n
 |0=>Nat.zero_le _
 |q+1=>by
  have ih:=abG h q;simp only[qN];cases hf:f q with
  |false=>simp only[aQ];omega
  |true=>
   rcases h q hf with h1|h1
   ·rw[h1];simp only[aP];omega
   ·simp only[aP];omega
theorem abH{c:eU}{t L k:Nat}: ∀n,(c.notes t (L:Int) n).N k=true->c.N k=true\/(L<=k/\k<L+n)
 |0,h=> .inl h
 |n+1,h=>by
  have h:((c.notes t (L:Int) n).N k||decide ((L:Int)+n=(k:Nat)))=true:=h;rw[Bool.or_eq_true]at h;rcases h with h|h
  ·rcases abH n h with h|h
   ·exact .inl h
   ·exact .inr (by omega)
  ·have:=aS h;exact .inr (by omega)
theorem Ud{c:eU}{t L n m:Nat}(h:qN c.N 258<=m):qN (c.notes t (L:Int) n).N 258<=m+n:=by
 have:=abG (f:=(c.notes t (L:Int) n).N) (g:=c.N) (lo:=L) (n:=n) (λk hk=>abH n hk) 258;omega
theorem HWp.put(w:HWp M N m B b ln a){key v:ByteArray}(hc:(spn (ned ((key.size+v.size:Nat):Int))).toNat<=4){a':ZSto}(h:Uc ⟨a,2,M,N,B,0,key,v⟩ a'): ∃B',HWp (M+400) (N+1) (m+4) B' b ln a':=by
 rcases h with ⟨_,rfl⟩|⟨_,rfl⟩|⟨B',P⟩
 ·exact⟨B,{w with base:=w.base.up (by omega) (by omega),aeO:=by have:=w.aeO;omega,note:=Nat.le_trans w.note (by omega)}⟩
 ·refine⟨B,{base:=(eH.vI (eH.vI w.base)).up (by omega) (by omega),h0:=rfl,h1:=w.h1,now:=w.now,aeO:=by show a.r.now<=_;have:=w.aeO;omega,bag:=w.bag,keep:=w.keep,note:=Nat.le_trans w.note (by omega)}⟩
 ·obtain⟨e,e1,e2⟩:=P.bag
  obtain⟨K,hK⟩:=P.note;refine⟨B',{base:=P.base,h0:=by rw[P.r];rfl,h1:=by rw[P.r];exact w.h1,now:=by rw[P.r];exact w.now,aeO:=by rw[P.r];show a.r.now<=_;have:=w.aeO;omega,bag:=λk hk=> ?_,keep:=P.keep _ _ w.keep,note:= ?_}⟩
  ·rw[e2]at hk ⊢
   by_cases hh:(ZWp.mk a 2 M N B 0 key v).had=true
   ·rw[if_pos hh]at hk ⊢
    have hk:k<(a.b.put e).n:=hk;show 1<=((a.b.put e).e k).r;have e1:e.r=a.r.now:=e1;have:=w.now;unfold iw.put at hk ⊢;split at hk
    ·rename_i h258
     rw[if_pos h258];show 1<=(if k=a.b.n then e else a.b.e k).r;have hk:k<a.b.n+1:=hk;by_cases ek:k=a.b.n
     ·rw[if_pos ek,e1];exact this
     ·rw[if_neg ek];exact w.bag k (by omega)
    ·rename_i h258
     rw[if_neg h258];exact w.bag k hk
   ·rw[if_neg hh]at hk ⊢
    exact w.bag k hk
  ·rw[hK]
   exact Nat.le_trans (Ud w.note) (Nat.add_le_add_left hc _)
theorem HWp.closed(w:HWp M N m B b ln a)(hM:M<=900000)(hm:m<=16){c:eU}{d:DevM}{ph:Nat}(h:CSc a.c a.d m 20 c d ph):ph=0/\HWp (M+20) N 0 B b ln (a.aoO c d):=by
 obtain⟨c1,c2,c3,c4,c5⟩:=w.base.closed (by omega) (by omega) h;refine⟨c1,{base:=c2,h0:=w.h0,h1:=w.h1,now:=w.now,aeO:=by show a.r.now<=_;have:=w.aeO;omega,bag:=w.bag,keep:= ?_,note:=by show qN c.N 258<=0;rw[Gs c5];exact aY 0}⟩;have hl:2<=ln:=by
  obtain⟨i,j,h5,_⟩:=w.keep.2;have:=(Gm w.base.pg h5).1;omega
 exact w.keep.dev (a':=a.aoO c d) c2 rfl (K:=0) (n:=2) (λmm r hr hmm=>c3 mm r (by omega) hr) (.inr (by omega))
theorem HWp.adv(w:HWp M N m B b ln a)(hM:M<=900000):HWp (M+1) N m B b ln {a with r:={a.r with now:=a.r.now+1}}:=by
 have:=w.now;have:=w.aeO;exact{base:={w.base.up (show M<=M+1 by omega) (aY N)with rok:=⟨w.base.rok.1,w.base.rok.2.1,by show 1<=a.r.now+1;omega,by show a.r.now+1<_;omega⟩,rt:=w.base.rt},h0:=w.h0,h1:=w.h1,now:=by show 1<=a.r.now+1;omega,aeO:=by show a.r.now+1<=((M+1:Nat):Int);omega,bag:=w.bag,keep:=w.keep,note:=w.note}
end
def qB(h:Heap)(i:Nat):List Nat:=match h.get i with
 |some (.cells _ (.av [d0,p,r,c,b,t,o,l,_,_,.slV _ j _ _]))=>match h.get (pOf d0)with
  |some (.cells _ (.av (d::_)))=>[i,pOf d0,pOf d,pOf p,pOf r,pOf c,pOf b,pOf t,pOf o,pOf l,j]
  |_=>[]
 |_=>[]
noncomputable def ate(T:WTr):WTr:=λargs h K=>match args with
 | .ptr i z::r=>bif isAbs (h.get i)then T (.ptr i z::r) h K else
  bif GN 0 (qB h i) 11&&Nat.beq (qB h i).length 11 then∃a:ZSto,DJ (atL (qB h i)) 11 h 0 a.os/\T (.ptr i z::r) (ad9 (ownM a.os) (qB h i) h) K else False
 |_=>False
theorem ao2{P:Program}{f:FuncId}{T:WTr}(hT: ∀args h K,T args h K->Sp P f args h K)(args:List AV)(h:Heap)(K:AV->Heap->Prop)(hq:ate T args h K):Sp P f args h K:=by
 unfold ate at hq;split at hq
 ·rename_i i z r
  cases ha:isAbs (h.get i)<;>rw[ha]at hq
  ·generalize qB h i=ids at hq
   cases hb:(GN 0 ids 11&&Nat.beq ids.length 11)<;>rw[hb]at hq
   ·exact hq.elim
   ·simp only[aJ]at hb
    obtain⟨b1,b2⟩:=hb;obtain⟨a,hs,hq⟩:=hq;refine PZ (Φ:=λh=>h=hOf a.os) 11 ids a.os rfl rfl b1 rfl hs (hT _ _ _ ?_);have e:qU (λh=>h=hOf a.os) ids h=ad9 (ownM a.os) ids h:=by
     unfold qU ad9;rw[rC];rfl
    rw[e];exact hq
  ·exact hT _ _ _ hq
 ·exact hq.elim
def kh:ByteArray:=⟨#[107]⟩
def GHd(b:ZBlk)(ln:Nat)(n:Nat)(f:ZFp):Prop:=f.had=true/\f.old=⟨b.key,b.id,b.ver,ln,b.cls⟩/\f.piece=(n:Nat)/\f.code=0/\(n:Int)<spn b.cls
def GFi(v:ByteArray)(f:ZFp):Prop:=f.code=0/\f.found=true/\f.ans=v
noncomputable def aqb:Ctr:=det ZPs (λx=>[.ptr 0 0,i64 x.t,x.f.av 1 0 gQ]) 1 (λx=>[.abs (ownM x.a.os)]) (λx=>Hd ((x.a.r.ok/\x.a.c.ok/\x.a.ph<=4/\x.t<x.a.r.t/\x.a.r.has x.t=0)/\goodP 1 x.f.key x.f.value=0)) (λx=>{x.f with epoch:=x.a.c.now}.av 1 1 gQ) 1 (λx=>[.abs (ownM (x.a.vI x.t x.a.r.now).os)])
theorem ak7:cO Tryz.prog 34 aqb:=jg λx hx=>by
 obtain⟨h1,h2⟩:=aZ.1 hx;refine⟨_,Jp,rfl,x,aZ.2 h1,rfl,rfl,λv h' hh=> ?_⟩;rcases nZ hh with ⟨y,h0,e1,e2⟩|⟨y,h0,e1,e2⟩
 ·exact absurd h2 (aZ.1 h0)
 ·exact eF ⟨(),trivial,e1,e2⟩
structure ZPh where
 s:ZPs
 y:ZLnk
noncomputable def aqc:Ctr:=det ZPh (λx=>[.ptr 0 0,i64 x.s.t,x.s.f.av 1 1 gQ]) 1 (λx=>[.abs (ownM x.s.a.os)]) (λx=>Hd (x.s.f.key.size<1099511627776/\x.s.f.pos.size<1099511627776/\x.s.hit x.y)) (λx=>{x.s.f with had:=true,old:=x.y,piece:=0}.av 1 2 gQ) 1 (λx=>[.abs (ownM x.s.a.os)])
theorem ak8:cO Tryz.prog 34 aqc:=jg λx hx=>by
 obtain⟨h1,h2,h3,h4⟩:=aZ.1 hx;refine⟨_,TB,rfl,x.s,aZ.2 ⟨h1,h2,λe=>by cases e⟩,rfl,rfl,λv h' hh=> ?_⟩;rcases akE hh with ⟨y,h0,e1,e2⟩|⟨y,h0,e1,e2⟩|⟨y,h0,e1,e2⟩
 ·obtain⟨q1,q2⟩:=aZ.1 h0
  rw[h3]at q1;cases q1;rw[h4,mX]at q2;cases q2
 ·obtain⟨q1,_⟩:=aZ.1 h0
  rw[h3]at q1;cases q1;exact eF ⟨(),trivial,e1,e2⟩
 ·exact absurd h4 ((aZ.1 h0) _ h3).2
noncomputable def ak9:WTr:=λargs h K=>match args with
 |[a,t,.agg l]=>(bif decide (intL l 5=0)then ctrT aqb else bif decide (intL l 5=1)then ctrT aqc else bif decide (intL l 5=6)then ctrT (oP 1).ctr else bif hasB l then ctrT Tm.ctr else ctrT Jm.ctr) [a,t,.agg l] h K
 |_=>False
theorem ala(args:List AV)(h:Heap)(K:AV->Heap->Prop)(hq:ak9 args h K):Sp Tryz.prog 34 args h K:=by
 unfold ak9 at hq;split at hq
 ·exact Jc (P:=Tryz.prog) (f:=34) _ (bP ak7) (Jc _ (bP ak8) (Jc _ (bP Jq) (Jc _ (bP TA) (bP Tz)))) _ _ _ hq
 ·exact hq.elim
structure aeZ where
 m:Nat
 g:Nat->ByteArray
 v:ByteArray
def aeZ.os(x:aeZ):List dF:=[.ro (.row 1 x.m (λi=>[.string (x.g i)]) [])]
structure atz where
 i:Nat
 a:ZSto
 B:ByteArray->ZBlk
structure ZHg where
 b:ZBlk
 ln:Nat
structure ZHc where
 c:eU
 d:DevM
 m:Nat
structure ZHe where
 k:Nat
 a:ZSto
 f:ZFp
 n:Nat
 M:Nat
 N:Nat
 m:Nat
 B:ByteArray->ZBlk
 b:ZBlk
 ln:Nat
def ZHe.ok(s:ZHe)(v:ByteArray):Prop:=HWp s.M s.N s.m s.B s.b s.ln s.a/\s.b.value=v/\GHd s.b s.ln s.n s.f/\s.k+1+(s.b.dL-s.n)<=19
def atA(fr:Fr):Nat:=asF (SE.look fr 7)
def ph7(fr:Fr)(h:Heap):Int:=match cellAt h (atA fr) 5 with
 |some (.lit (.int _ z))=>z
 |_=> -1
def byt7(fr:Fr)(h:Heap):Bool:=match cellAt h (atA fr) 19 with
 |some (.slW _ _ _ _)=>true
 |_=>false
noncomputable def annHr(h:Heap):LGh:={G:=ZHg,forms:=λg=>[{σ:=atz,fr:=λs=>[(8,i64 s.i)],ob:=λs=>[(1,some (.abs (ownM s.a.os)))],inv:=λs=>Hd (s.i<=30/\HWp (440*s.i+900) (s.i+1) 4 s.B g.b g.ln s.a),meas:=λs=>30-s.i}]}
noncomputable def annHc(h:Heap):LGh:={G:=ZHc,forms:=λg=>[{σ:=ZEj,fr:=λs=>[(9,i64 s.j)],ob:=λs=>[((qB h 1).getD 5 0,some (.abs (ownM (s.c.os s.ph)))),((qB h 1).getD 2 0,some (.abs (ownM s.d.os)))],inv:=λs=>Hd (s.j<=20/\CSc g.c g.d g.m s.j s.c s.d s.ph),meas:=λs=>20-s.j}]}
noncomputable def avE(x:aeZ):FuncId->qL:=λf=>bif Nat.beq f 11 then(λb fr h=>bif Nat.beq b 0 then(annHr h).an else bif Nat.beq b 2 then(annHc h).an else bif Nat.beq b 4 then [
 {σ:=ZHe,fr:=λs=>[(10,i64 s.k)],ob:=λs=>[(1,some (.abs (ownM s.a.os))),(atA fr,some (s.f.st 1 2 gQ))],inv:=λs=>Hd (s.n=0/\s.ok x.v),meas:=λs=>21-s.k,test:=λfr h=> !byt7 fr h&&decide (ph7 fr h=2)},
 {σ:=ZHe,fr:=λs=>[(10,i64 s.k)],ob:=λs=>[(1,some (.abs (ownM s.a.os))),(atA fr,some (s.f.st 1 2 (.slW h.next 0 1 (64*s.n)))),(h.next,some (aaQ s.b.enc (64*s.n)))],nx:=1,inv:=λs=>Hd (s.n≠0/\s.ok x.v),meas:=λs=>21-s.k,test:=λfr h=>byt7 fr h},
 {σ:=ZHe,fr:=λs=>[(10,i64 s.k)],ob:=λs=>[(1,some (.abs (ownM s.a.os))),(atA fr,some (s.f.st 1 6 gQ))],inv:=λs=>Hd (HWp s.M s.N s.m s.B s.b s.ln s.a/\GFi x.v s.f/\s.k+1<=19),meas:=λs=>21-s.k,test:=λfr h=>decide (ph7 fr h=6)},
 {σ:=ZHe,fr:=λs=>[(10,i64 s.k)],ob:=λs=>[(1,some (.abs (ownM s.a.os))),(atA fr,some (s.f.st 1 7 gQ))],inv:=λs=>Hd (GFi x.v s.f/\s.k<=19),meas:=λs=>21-s.k,test:=λfr h=>decide (ph7 fr h=7)}]else [])elseλ_ _ _=>[]
noncomputable def atf:WTr:=λargs h K=>match args with
 |[.ptr i z]=>bif isAbs (h.get i)then ctrT (Hw 4).ctr [.ptr i z] h K else wpF Tryz.prog [] tt ar0 200 6 27 [.ptr i z] h K
 |_=>False
theorem ao3(args:List AV)(h:Heap)(K:AV->Heap->Prop)(hq:atf args h K):Sp Tryz.prog 27 args h K:=by
 unfold atf at hq;split at hq
 ·rename_i i z
  cases ha:isAbs (h.get i)<;>rw[ha]at hq
  ·exact vC dG mixed .nil _ _ _ _ _ _ _ hq
  ·exact bP akN _ _ _ hq
 ·exact hq.elim
noncomputable def avF:je:=[(13,ctrT ad5.ctr),(35,ctrT ak6),(32,ctrT Dt),(17,RG),(34,ak9),(22,akV),(23,ctrT TG.ctr),(24,ctrT avt),(27,atf),(28,ctrT avz.ctr),(29,ate (ctrT aqw.ctr))]
def qK(a:aeZ):Prop:=(Cs.row 1 a.m (λ(i:Nat)=>[Value.string (a.g i)]) (@List.nil (Prod Nat (List Value)))=Cs.row 1 a.m (λ(i:Nat)=>[Value.string (a.g i)]) (@List.nil (Prod Nat (List Value)))/\true=true)/\True
def fU:Prop:=Value.slice none 0 0=Value.slice none 0 0
def Ue(a:ZPh):Prop:=(1:Int)=1/\a.s.f.key=a.s.f.key/\a.s.f.value=a.s.f.value/\a.s.f.to=a.s.f.to/\fU/\(2:Int)=2/\a.s.f.epoch=a.s.f.epoch/\a.s.f.pos=a.s.f.pos/\a.s.f.past=a.s.f.past/\(0:Int)=0/\true=true/\a.y.key=a.y.key/\a.y.id=a.y.id/\a.y.ver=a.y.ver/\a.y.line=a.y.line/\a.y.cls=a.y.cls/\a.s.f.line=a.s.f.line/\a.s.f.cls=a.s.f.cls/\(0:Int)=0/\fU/\(0:Int)=0/\fU/\a.s.f.code=a.s.f.code/\a.s.f.found=a.s.f.found/\a.s.f.ans=a.s.f.ans/\fU/\fU/\a.s.f.aep=a.s.f.aep/\True
def abI:Prop:= @ByteArray.mk (@List.toArray UInt8 [(107:UInt8)])= @ByteArray.mk (@List.toArray UInt8 [(107:UInt8)])
def A8:Prop:=ByteArray.mk #[]=ByteArray.mk #[]/\fU/\True
def uq:Prop:=(1:Int)=1/\abI/\ByteArray.mk #[]=ByteArray.mk #[]/\A8
def uw(a:ByteArray):Prop:=(2:Int)=2/\abI/\a=a/\A8
def Gu(a:ZSto):Prop:=Nat.beq a.n 0=Nat.beq a.n 0/\a.n=a.n/\ ∀q:Nat,q<a.n->[Value.int .i64 (ZEff.kind (a.e q)),Value.string (ZEff.key (a.e q)),Value.string (ZEff.value (a.e q)),Value.int .u64 (ZEff.id (a.e q)),Value.int .u64 (ZEff.ver (a.e q)),Value.int .u64 (ZEff.epoch (a.e q)),Value.int .i64 (ZEff.group (a.e q))]=[Value.int .i64 (ZEff.kind (a.e q)),Value.string (ZEff.key (a.e q)),Value.string (ZEff.value (a.e q)),Value.int .u64 (ZEff.id (a.e q)),Value.int .u64 (ZEff.ver (a.e q)),Value.int .u64 (ZEff.epoch (a.e q)),Value.int .i64 (ZEff.group (a.e q))]
def wR(a:ZFp)(b:ZFp):Prop:=(0:Int)=0/\fU/\a.code=b.code/\a.found=b.found/\a.ans=b.ans/\fU/\fU/\a.aep=b.aep/\True
def Y9(a:ZFp)(b:ZFp):Prop:=a.pos=b.pos/\a.past=b.past/\(0:Int)=0/\a.had=b.had/\a.old.key=b.old.key/\a.old.id=b.old.id/\a.old.ver=b.old.ver/\a.old.line=b.old.line/\a.old.cls=b.old.cls/\a.line=b.line/\a.cls=b.cls/\a.piece=b.piece/\fU/\wR a b
def Za(a:ZFp)(b:ZFp):Prop:=a.epoch=b.epoch/\Y9 a b
def OE(a:ZSto):Prop:=0=0/\0=0/\0=0/\0=0/\0=0/\0=0/\0=0/\0=0/\a.id=a.id/\a.ver=a.ver/\(Nat.beq a.n 0=Nat.beq a.n 0/\a.n=a.n)/\True
def Zb(a:aeZ)(b:Nat)(c:ZPh)(d:ZSto):Prop:=(0=0/\(1:Int)=1/\(0:Int)=0/\(0:Int)=0/\True)/\((2:Int)=2/\abI/\a.g (0+b)=a.g (0+b)/\A8)/\Ue c/\uq/\uw a.v/\OE d/\qK a
def wS(a:aeZ):Prop:=true=false/\qK a
def Zc(a:ZFp)(b:aeZ):Prop:=cP (BEq.beq a.code (0:Int)) (cP a.found (cP (BEq.beq (ByteArray.toList a.ans) (ByteArray.toList b.v)) (∃x_5:Unit,True/\True/\True/\ ∀y_4:Unit,True->true=true/\qK b) (wS b)) (wS b)) (wS b)
def Gv(a:atz)(b:ZHg):Prop:=Hd (a.i<=30/\HWp (440*a.i+900) (a.i+1) 4 a.B b.b b.ln a.a)
def qC(a:Nat)(b:Nat):Prop:=(a:Int)=(b:Int)+1/\True
def Zd(a:ZFp)(b:ZPr):Prop:=fU/\(0:Int)=0/\fU/\a.code=b.f.code/\a.found=true/\a.ans=b.b.value/\fU/\fU/\a.aep=b.f.aep/\True
def OG(a:ZHe)(b:ByteArray):Prop:=Hd (HWp a.M a.N a.m a.B a.b a.ln a.a/\ @GFi b a.f/\a.k+1<=19)
def qE(a:ZSto)(b:ZSto):Prop:=ownM a.os=ownM b.os
def Gw(a:aeZ)(b:ZSto)(c:ZSto):Prop:=uq/\uw a.v/\qE b c/\qK a
def OH(a:ZEj)(b:ZHc):Prop:=Hd (a.j<=20/\CSc b.c b.d b.m a.j a.c a.d a.ph)
def alb(a:ZSto):Prop:=
 ∃x:aoW,Hd (x.b.ok/\x.r.ok/\x.c.ok/\ ∀k:Nat,k<x.b.n->Not (Gy.rd (Gy.mk x.b x.r x.c.dur) k))/\(0=0/\True)/\((True/\True/\0=0/\0=0/\0=0/\True/\True/\True/\True/\True/\True/\True)/\ownM x.b.os=ownM a.b.os/\ownM x.r.os=ownM a.r.os/\ownM (x.c.os 0)=ownM a.ck.os/\True)/\ ∀y:Unit,True-> ∃y_1:Unit,True/\(((0:Int)=0/\(0:Int)=0/\(0:Int)=0/\(0:Int)=0/\(0:Int)=0/\True)/\(12:Int)=12/\True)/\OE a/\(0=0/\(1:Int)=1/\(0:Int)=0/\(0:Int)=0/\True)/\ownM a.d.os=ownM a.d.os/\ownM a.p.os=ownM a.p.os/\ownM a.r.os=ownM x.r.os/\ownM a.ck.os=ownM (x.c.os 0)/\ownM a.b.os=ownM x.b.os/\tabA a.L=tabA a.L/\ordA a.L=ordA a.L/\ownM a.l.os=ownM a.l.os/\Gu a/\True
theorem alc(a:ZSto):alb a=ctrT avA (aqw.args a) (hO 11 (flatP 1 (aqw.l a))) (λv h'=>endsPK 1 a v h' aqw.outs):=by kernel_rfl
def Ze(x:aeZ):Prop:=
 cP (decide ((x.m:Int)>(30:Int))) (∃x_1:Unit,True/\True/\True/\ ∀y:Unit,True->true=true/\qK x) (cP (decide ((x.v.size:Int)>(100:Int))) (∃x_1:Unit,True/\True/\True/\ ∀y:Unit,True->true=true/\qK x) (∃x_1:ZNew,Hd (10<=x_1.n/\x_1.n<=258/\1<=x_1.t/\x_1.t<=4)/\((x_1.n:Int)=42/\(x_1.t:Int)=2/\True)/\True/\ ∀y:DevM,Hd (y.ok/\y.n=x_1.n/\y.st=2/\y.fl=2/\y.fe=1)-> ∃x_2:ZWp,Hd x_2.ok/\(0=0/\(x_2.t:Int)=0/\((2:Int)=2/\x_2.key= @ByteArray.mk (@List.toArray UInt8 [(107:UInt8)])/\x_2.v=x.v/\A8)/\True)/\(ownM x_2.a.os=ownM (ZSto.os (newSto x_1.n x_1.t y))/\True)/\ ∀y_1:ZPe,Hd (Uc x_2 y_1.a)-> ∃x_3:ZPs,Hd ((x_3.a.r.ok/\x_3.a.c.ok/\x_3.a.ph<=4/\x_3.t<x_3.a.r.t/\x_3.a.r.has x_3.t=0)/\goodP (1:Int) x_3.f.key x_3.f.value=0)/\(0=0/\(x_3.t:Int)=1/\((1:Int)=1/\x_3.f.key= @ByteArray.mk (@List.toArray UInt8 [(107:UInt8)])/\x_3.f.value=ByteArray.mk #[]/\x_3.f.to=ByteArray.mk #[]/\fU/\(0:Int)=0/\x_3.f.epoch=0/\x_3.f.pos=ByteArray.mk #[]/\x_3.f.past=false/\(0:Int)=0/\x_3.f.had=false/\x_3.f.old.key=ByteArray.mk #[]/\x_3.f.old.id=0/\x_3.f.old.ver=0/\x_3.f.old.line=0/\x_3.f.old.cls=0/\x_3.f.line=(-(1:Int))/\x_3.f.cls=0/\x_3.f.piece=0/\fU/\(0:Int)=0/\fU/\x_3.f.code=0/\x_3.f.found=false/\x_3.f.ans=ByteArray.mk #[]/\fU/\fU/\x_3.f.aep=0/\True)/\True)/\(qE x_3.a y_1.a/\True)/\ ∀y_2:Unit,True-> ∃x_4:ZPh,Hd (x_4.s.f.key.size<1099511627776/\x_4.s.f.pos.size<1099511627776/\x_4.s.hit x_4.y)/\(0=0/\(x_4.s.t:Int)=1/\((1:Int)=1/\x_4.s.f.key=x_3.f.key/\x_4.s.f.value=x_3.f.value/\x_4.s.f.to=x_3.f.to/\fU/\
 (1:Int)=1/\x_4.s.f.epoch=x_3.a.c.now/\Y9 x_4.s.f x_3.f)/\True)/\(ownM x_4.s.a.os=ownM (ZSto.os (x_3.a.vI x_3.t x_3.a.r.now))/\True)/\ ∀y_3:Unit,True-> ∃g:ZHg,(∃s:atz,Gv s g/\True/\((s.i:Int)=0/\True)/\Ue x_4/\uq/\uw x.v/\ownM s.a.os=ownM x_4.s.a.os/\qK x)/\(∀s:atz,Gv s g->cP (decide ((s.i:Int)<(x.m:Int))) ((0<=(s.i:Int)/\(s.i:Int)<(x.m:Int))/\0+s.i<x.m/\cP (decide (((ByteArray.size (x.g (0+s.i)):Nat):Int)>(100:Int))) (I64 ((s.i:Int)+1)/\ ∃s_1:atz,Gv s_1 g/\30-s_1.i<30-s.i/\qC s_1.i s.i/\Ue x_4/\uq/\uw x.v/\ownM s_1.a.os=ownM s.a.os/\qK x) ((0<=(s.i:Int)/\(s.i:Int)<(x.m:Int))/\0+s.i<x.m/\ ∃x_5:ZWp,Hd x_5.ok/\(0=0/\(x_5.t:Int)=0/\((2:Int)=2/\x_5.key= @ByteArray.mk (@List.toArray UInt8 [(107:UInt8)])/\x_5.v=x.g (0+s.i)/\A8)/\True)/\(ownM x_5.a.os=ownM s.a.os/\True)/\ ∀y_4:ZPe,Hd (Uc x_5 y_4.a)-> ∃x_6:ZSto,Hd True/\(0=0/\True)/\(qE x_6 y_4.a/\True)/\ ∀y_5:Unit,True-> ∃x_7:eU,Hd (x_7.ok/\x_7.jr=0)/\(0=0/\True)/\(ownM (x_7.os 0)=ownM x_6.ck.os/\True)/\ ∀y_6:Unit,True-> ∃g_1:ZHc,(∃s_1:ZEj,OH s_1 g_1/\True/\((s_1.j:Int)=0/\True)/\Gu x_6/\ownM x_6.l.os=ownM x_6.l.os/\ordA x_6.L=ordA x_6.L/\tabA x_6.L=tabA x_6.L/\ownM x_6.b.os=ownM x_6.b.os/\ownM (s_1.c.os s_1.ph)=ownM (x_7.start.os 1)/\ownM x_6.r.os=ownM x_6.r.os/\ownM x_6.p.os=ownM x_6.p.os/\ownM s_1.d.os=ownM x_6.d.os/\Zb x s.i x_4 x_6)/\(∀s_1:ZEj,OH s_1 g_1->cP (decide ((s_1.j:Int)<20)) (∃x_8:ZWkc,Hd (wK x_8.c x_8.d x_8.ph x_8.q)/\(0=0/\0=0/\True)/\
 (ownM (x_8.c.os x_8.ph)=ownM (s_1.c.os s_1.ph)/\ownM x_8.d.os=ownM s_1.d.os/\True)/\ ∀y_7:avs,Hd (x_8.q y_7.c y_7.d y_7.ph)->I64 ((s_1.j:Int)+1)/\ ∃s_2:ZEj,OH s_2 g_1/\20-s_2.j<20-s_1.j/\qC s_2.j s_1.j/\Gu x_6/\ownM x_6.l.os=ownM x_6.l.os/\ordA x_6.L=ordA x_6.L/\tabA x_6.L=tabA x_6.L/\ownM x_6.b.os=ownM x_6.b.os/\ownM (s_2.c.os s_2.ph)=ownM (y_7.c.os y_7.ph)/\ownM x_6.r.os=ownM x_6.r.os/\ownM x_6.p.os=ownM x_6.p.os/\ownM s_2.d.os=ownM y_7.d.os/\Zb x s.i x_4 x_6) (∃x_8:ZRd,Hd x_8.ok/\(0=0/\True)/\(ownM x_8.os=ownM x_6.r.os/\True)/\ ∀y_7:Unit,True-> ∃a:ZSto,((true=true/\false=false/\some (dF.cells (113: @TypeId) (Cs.av [AV.ptr 6 0,AV.ptr 8 0,AV.ptr 9 0,AV.ptr 10 0,AV.ptr 11 0,AV.ptr 12 0,AV.ptr 13 0,AV.ptr 14 0,AV.lit (Value.int .u64 x_6.id),AV.lit (Value.int .u64 x_6.ver),AV.slV (Nat.beq x_6.n 0) 15 7 x_6.n]))=some (dF.cells (113: @TypeId) (Cs.av [AV.ptr 6 0,AV.ptr 8 0,AV.ptr 9 0,AV.ptr 10 0,AV.ptr 11 0,AV.ptr 12 0,AV.ptr 13 0,AV.ptr 14 0,AV.lit (Value.int .u64 a.id),AV.lit (Value.int .u64 a.ver),AV.slV (Nat.beq a.n 0) 15 7 a.n])))/\(true=true/\false=false/\some (dF.cells (145: @TypeId) (Cs.av [AV.ptr 7 0,AV.lit (Value.int .u32 1),AV.lit (Value.int .i32 0),AV.lit (Value.int .u32 0)]))=some (dF.cells (145: @TypeId) (Cs.av [AV.ptr 7 0,AV.lit (Value.int .u32 1),AV.lit (Value.int .i32 0),AV.lit (Value.int .u32 0)])))/\(true=true/\false=false/\some (dF.abs (ownM s_1.d.os))=some (dF.abs (ownM a.d.os)))/\(true=true/\false=false/\some (dF.abs (ownM x_6.p.os))=some (dF.abs (ownM a.p.os)))/\(true=true/\false=false/\
 some (dF.abs (ownM (ZRd.os (ZRd.mk x_8.t (x_8.now+1) x_8.has))))=some (dF.abs (ownM a.r.os)))/\(true=true/\false=false/\some (dF.abs (ownM (s_1.c.os s_1.ph)))=some (dF.abs (ownM a.ck.os)))/\(true=true/\false=false/\some (dF.abs (ownM x_6.b.os))=some (dF.abs (ownM a.b.os)))/\(true=true/\false=false/\some (dF.abs (tabA x_6.L))=some (dF.abs (tabA a.L)))/\(true=true/\false=false/\some (dF.abs (ordA x_6.L))=some (dF.abs (ordA a.L)))/\(true=true/\false=false/\some (dF.abs (ownM x_6.l.os))=some (dF.abs (ownM a.l.os)))/\(true=true/\false=false/\some (dF.iC (Nat.beq x_6.n 0) (95: @TypeId) (Cs.row 7 x_6.n (λ(i:Nat)=>[Value.int .i64 (ZEff.kind (x_6.e i)),Value.string (ZEff.key (x_6.e i)),Value.string (ZEff.value (x_6.e i)),Value.int .u64 (ZEff.id (x_6.e i)),Value.int .u64 (ZEff.ver (x_6.e i)),Value.int .u64 (ZEff.epoch (x_6.e i)),Value.int .i64 (ZEff.group (x_6.e i))]) (@List.nil (Prod Nat (List Value)))))=some (dF.iC (Nat.beq a.n 0) (95: @TypeId) (Cs.row 7 a.n (λ(i:Nat)=>[Value.int .i64 (ZEff.kind (a.e i)),Value.string (ZEff.key (a.e i)),Value.string (ZEff.value (a.e i)),Value.int .u64 (ZEff.id (a.e i)),Value.int .u64 (ZEff.ver (a.e i)),Value.int .u64 (ZEff.epoch (a.e i)),Value.int .i64 (ZEff.group (a.e i))]) (@List.nil (Prod Nat (List Value))))))/\True)/\ ∃x_9:ZSto,Hd (x_9.ph=0/\wQ x_9)/\(0=0/\True)/\(qE x_9 a/\True)/\ ∀y_8:Unit,True-> ∃x_10:ZSto,Hd (x_10.ph=0/\wQ x_10)/\(0=0/\True)/\(qE x_10 x_9/\True)/\ ∀y_9:Unit,True->I64 ((s.i:Int)+1)/\ ∃s_2:atz,Gv s_2 g/\30-s_2.i<30-s.i/\qC s_2.i s.i/\Ue x_4/\uq/\uw x.v/\ownM s_2.a.os=ownM x_10.os/\qK x))/\
 True)) ((∃s_1:ZHe,Hd (s_1.n=0/\s_1.ok x.v)/\True/\((s_1.k:Int)=0/\True)/\((1:Int)=1/\s_1.f.key=x_4.s.f.key/\s_1.f.value=x_4.s.f.value/\s_1.f.to=x_4.s.f.to/\fU/\(2:Int)=2/\s_1.f.epoch=x_4.s.f.epoch/\s_1.f.pos=x_4.s.f.pos/\s_1.f.past=x_4.s.f.past/\(0:Int)=0/\s_1.f.had=true/\s_1.f.old.key=x_4.y.key/\s_1.f.old.id=x_4.y.id/\s_1.f.old.ver=x_4.y.ver/\s_1.f.old.line=x_4.y.line/\s_1.f.old.cls=x_4.y.cls/\s_1.f.line=x_4.s.f.line/\s_1.f.cls=x_4.s.f.cls/\s_1.f.piece=0/\fU/\wR s_1.f x_4.s.f)/\uq/\uw x.v/\ownM s_1.a.os=ownM s.a.os/\qK x)/\(∀s_1:ZHe,Hd (s_1.n=0/\s_1.ok x.v)->cP (decide ((s_1.k:Int)<20)) (∃x_5:ZPr,Hd (x_5.ok/\x_5.p=0)/\(0=0/\(x_5.t:Int)=1/\((1:Int)=1/\x_5.f.key=s_1.f.key/\x_5.f.value=s_1.f.value/\x_5.f.to=s_1.f.to/\fU/\(2:Int)=2/\x_5.f.epoch=s_1.f.epoch/\x_5.f.pos=s_1.f.pos/\x_5.f.past=s_1.f.past/\(0:Int)=0/\true=s_1.f.had/\x_5.b.key=s_1.f.old.key/\x_5.b.id=s_1.f.old.id/\x_5.b.ver=s_1.f.old.ver/\(x_5.ln:Int)=s_1.f.old.line/\x_5.b.cls=s_1.f.old.cls/\x_5.f.line=s_1.f.line/\x_5.f.cls=s_1.f.cls/\0=s_1.f.piece/\fU/\wR x_5.f s_1.f)/\True)/\(qE x_5.a s_1.a/\True)/\(∀y_4:Unit,Hd ((1:Int)≠spn x_5.b.cls)->I64 ((s_1.k:Int)+1)/\ ∃s_2:ZHe,Hd (s_2.n≠0/\s_2.ok x.v)/\21-s_2.k<21-s_1.k/\qC s_2.k s_1.k/\(64*s_2.n=64/\ ∀q:Nat,q<64*s_2.n->[Value.int .u8 (s_2.b.enc q)]=[Value.int .u8 (x_5.b.enc q)])/\((1:Int)=1/\s_2.f.key=x_5.f.key/\s_2.f.value=x_5.f.value/\s_2.f.to=x_5.f.to/\fU/\(2:Int)=2/\s_2.f.epoch=x_5.f.epoch/\s_2.f.pos=x_5.f.pos/\s_2.f.past=x_5.f.past/\(0:Int)=0/\
 s_2.f.had=true/\s_2.f.old.key=x_5.b.key/\s_2.f.old.id=x_5.b.id/\s_2.f.old.ver=x_5.b.ver/\s_2.f.old.line=(x_5.ln:Int)/\s_2.f.old.cls=x_5.b.cls/\s_2.f.line=x_5.f.line/\s_2.f.cls=x_5.f.cls/\s_2.f.piece=1/\(0=0/\64*s_2.n=64)/\wR s_2.f x_5.f)/\Gw x s_2.a x_5.a)/\ ∀y_4:Unit,Hd (1=spn x_5.b.cls)->I64 ((s_1.k:Int)+1)/\ ∃s_2:ZHe,OG s_2 x.v/\21-s_2.k<21-s_1.k/\qC s_2.k s_1.k/\((1:Int)=1/\s_2.f.key=x_5.f.key/\s_2.f.value=x_5.f.value/\s_2.f.to=x_5.f.to/\fU/\(6:Int)=6/\s_2.f.epoch=x_5.f.epoch/\s_2.f.pos=x_5.f.pos/\s_2.f.past=x_5.f.past/\(0:Int)=0/\s_2.f.had=true/\s_2.f.old.key=x_5.b.key/\s_2.f.old.id=x_5.b.id/\s_2.f.old.ver=x_5.b.ver/\s_2.f.old.line=(x_5.ln:Int)/\s_2.f.old.cls=x_5.b.cls/\s_2.f.line=x_5.f.line/\s_2.f.cls=x_5.f.cls/\s_2.f.piece=1/\Zd s_2.f x_5)/\Gw x s_2.a x_5.a) (wS x))/\(∀s_1:ZHe,Hd (s_1.n≠0/\s_1.ok x.v)->cP (decide ((s_1.k:Int)<20)) (∃x_5:ZPr,Hd (x_5.ok/\x_5.p≠0)/\(0=0/\(x_5.t:Int)=1/\((1:Int)=1/\x_5.f.key=s_1.f.key/\x_5.f.value=s_1.f.value/\x_5.f.to=s_1.f.to/\fU/\(2:Int)=2/\x_5.f.epoch=s_1.f.epoch/\x_5.f.pos=s_1.f.pos/\x_5.f.past=s_1.f.past/\(0:Int)=0/\true=s_1.f.had/\x_5.b.key=s_1.f.old.key/\x_5.b.id=s_1.f.old.id/\x_5.b.ver=s_1.f.old.ver/\(x_5.ln:Int)=s_1.f.old.line/\x_5.b.cls=s_1.f.old.cls/\x_5.f.line=s_1.f.line/\x_5.f.cls=s_1.f.cls/\(x_5.p:Int)=s_1.f.piece/\(0=0/\64*x_5.p=64*s_1.n)/\wR x_5.f s_1.f)/\True)/\(qE x_5.a s_1.a/\(64*x_5.p=64*s_1.n/\ ∀q:Nat,q<64*x_5.p->[Value.int .u8 (x_5.b.enc q)]=[Value.int .u8 (s_1.b.enc q)])/\True)/\
 (∀y_4:Unit,Hd ((x_5.p:Int)+1≠spn x_5.b.cls)->I64 ((s_1.k:Int)+1)/\ ∃s_2:ZHe,Hd (s_2.n≠0/\s_2.ok x.v)/\21-s_2.k<21-s_1.k/\qC s_2.k s_1.k/\(64*s_2.n=64*(x_5.p+1)/\ ∀q:Nat,q<64*s_2.n->[Value.int .u8 (s_2.b.enc q)]=[Value.int .u8 (x_5.b.enc q)])/\((1:Int)=1/\s_2.f.key=x_5.f.key/\s_2.f.value=x_5.f.value/\s_2.f.to=x_5.f.to/\fU/\(2:Int)=2/\s_2.f.epoch=x_5.f.epoch/\s_2.f.pos=x_5.f.pos/\s_2.f.past=x_5.f.past/\(0:Int)=0/\s_2.f.had=true/\s_2.f.old.key=x_5.b.key/\s_2.f.old.id=x_5.b.id/\s_2.f.old.ver=x_5.b.ver/\s_2.f.old.line=(x_5.ln:Int)/\s_2.f.old.cls=x_5.b.cls/\s_2.f.line=x_5.f.line/\s_2.f.cls=x_5.f.cls/\s_2.f.piece=(x_5.p:Int)+1/\(0=0/\64*s_2.n=64*(x_5.p+1))/\wR s_2.f x_5.f)/\Gw x s_2.a x_5.a)/\ ∀y_4:Unit,Hd ((x_5.p:Int)+1=spn x_5.b.cls)->I64 ((s_1.k:Int)+1)/\ ∃s_2:ZHe,OG s_2 x.v/\21-s_2.k<21-s_1.k/\qC s_2.k s_1.k/\((1:Int)=1/\s_2.f.key=x_5.f.key/\s_2.f.value=x_5.f.value/\s_2.f.to=x_5.f.to/\fU/\(6:Int)=6/\s_2.f.epoch=x_5.f.epoch/\s_2.f.pos=x_5.f.pos/\s_2.f.past=x_5.f.past/\(0:Int)=0/\s_2.f.had=true/\s_2.f.old.key=x_5.b.key/\s_2.f.old.id=x_5.b.id/\s_2.f.old.ver=x_5.b.ver/\s_2.f.old.line=(x_5.ln:Int)/\s_2.f.old.cls=x_5.b.cls/\s_2.f.line=x_5.f.line/\s_2.f.cls=x_5.f.cls/\s_2.f.piece=(x_5.p:Int)+1/\Zd s_2.f x_5)/\Gw x s_2.a x_5.a) (wS x))/\(∀s_1:ZHe,OG s_1 x.v->cP (decide ((s_1.k:Int)<20)) (∃x_5:ZPs,Hd (x_5.a.r.ok/\x_5.t<x_5.a.r.t)/\(0=0/\(x_5.t:Int)=1/\((1:Int)=1/\x_5.f.key=s_1.f.key/\x_5.f.value=s_1.f.value/\x_5.f.to=s_1.f.to/\fU/\(6:Int)=6/\
 Za x_5.f s_1.f)/\True)/\(qE x_5.a s_1.a/\True)/\ ∀y_4:Unit,True->I64 ((s_1.k:Int)+1)/\ ∃s_2:ZHe,Hd (@GFi x.v s_2.f/\s_2.k<=19)/\21-s_2.k<21-s_1.k/\qC s_2.k s_1.k/\((1:Int)=1/\s_2.f.key=x_5.f.key/\s_2.f.value=x_5.f.value/\s_2.f.to=x_5.f.to/\fU/\(7:Int)=7/\Za s_2.f x_5.f)/\uq/\uw x.v/\ownM s_2.a.os=ownM (ZSto.os (x_5.a.vI x_5.t (0:Int)))/\qK x) (wS x))/\(∀s_1:ZHe,Hd (@GFi x.v s_1.f/\s_1.k<=19)->cP (decide ((s_1.k:Int)<20)) (Zc s_1.f x) (Zc s_1.f x))/\True))/\True))
theorem aeP(x:aeZ):Ze x=wpF Tryz.prog avF tt (avE x) 200 6 11 [.slR 0 0 1 x.m,.lit (.string x.v)] (hO 1 x.os) (λv h'=>endP 1 (boo true) x.os v h'):=by kernel_rfl
theorem abJ{n:Nat}(h:n<=101):(spn (ned (n:Int))).toNat<=4:=by
 have:ned (n:Int)=0\/ned (n:Int)=1\/ned (n:Int)=2:=by
  unfold ned
  repeat' split
  all_goals omega
 rcases this with e|e|e<;>rw[e]<;>decide
theorem aeQ{d:DevM}(hd:d.ok/\d.n=42/\d.st=2/\d.fl=2/\d.fe=1){v:ByteArray}(hv:v.size<=100){a:ZSto}(h:Uc ⟨newSto 42 2 d,2,10,0,λ_=>zBk,0,kh,v⟩ a):
  ∃(b:ZBlk) (ln:Nat) (B:ByteArray->ZBlk),HWp 900 1 4 B b ln (a.vI 1 a.r.now)/\b.value=v/\b.key=kh/\1<=b.dL/\eH a 2 410 1 B/\a.r.has 1=0/\a.L=[⟨b.key,b.id,b.ver,ln,b.cls⟩]:=by
 have hsp:(spn (ned ((kh.size+v.size:Nat):Int))).toNat<=4:=abJ (by show 1+v.size<=101;omega);rcases h with ⟨h,_⟩|⟨h,_⟩|⟨B,P⟩
 ·exfalso
  refine h ?_;show goodP 2 kh v=0;unfold goodP;have h2: ¬(16<kh.size\/(2:Int)=2/\400<v.size):=λe=>e.elim (λe=>absurd e (by decide)) λe=>by omega
  rw[if_neg (by decide),if_neg h2]
 ·exact absurd h (Gq (n:=5) (by decide))
 ·obtain⟨l,hl,hk⟩:=P.L
  obtain⟨b,hb,b1,b2,b3⟩:=P.bk;have L1:a.L=[l]:=hl;have hk:l.key=kh:=hk;have e0:B kh=b:=by rw[hb];exact if_pos rfl
  obtain⟨ln,q1,k1,k2,k3,k4,q2,i,j,q3,q4⟩:=P.base.q l (by rw[L1];exact List.mem_singleton.2 rfl);rw[hk,e0]at k1 k2 k3 k4 q2;have b2:b.key=kh:=b2;have el:l=⟨b.key,b.id,b.ver,ln,b.cls⟩:=by
   obtain⟨lk,li,lv,ll,lc⟩:=l;have q1:ll=(ln:Nat):=q1;have k2:b.id=li:=k2;have k3:b.ver=lv:=k3;have k4:b.cls=lc:=k4;have hk:lk=kh:=hk;subst q1 k2 k3 k4 hk;rw[b2]
  have hr:a.r=((aht 2).put 0 1).put 0 0:=P.r;obtain⟨K,hK⟩:=P.note;obtain⟨e,_,hbag⟩:=P.bag;refine⟨b,ln,B,{base:=(eH.vI P.base).up (by show 10+400<=900;decide) (by show 0+1<=1;decide),h0:=by show(a.r.put 1 a.r.now).has 0=0;rw[hr];rfl,h1:=by show(a.r.put 1 a.r.now).has 1=1;rw[hr];rfl,now:=by show 1<=a.r.now;rw[hr];show(1:Int)<=1;decide,aeO:=by show a.r.now<=((900:Nat):Int);rw[hr];show(1:Int)<=((900:Nat):Int);decide,bag:=λk hk=> ?_,keep:=⟨q2,i,j,q3,q4.trans k4.symm⟩,note:= ?_},b1,b2,yU q2.1,P.base,by rw[hr];rfl,by rw[L1,<-el]⟩
  ·have hb:a.b=Rq:=by
    rw[hbag];exact if_neg λh=>by(have h:false=true:=h);cases h
   have hk:k<a.b.n:=hk;rw[hb]at hk;exact absurd hk (Nat.not_lt_zero k)
  ·show qN a.c.N 258<=4
   rw[hK];have:=Ud (c:=Ql 2 0) (t:=0) (L:=K) (n:=(ZWp.mk (newSto 42 2 d) 2 10 0 (λ_=>zBk) 0 kh v).sp) (m:=0) (by rw[Gs (f:=(Ql 2 0).N) (λ_=>rfl)];exact aY 0);have h4:(ZWp.mk (newSto 42 2 d) 2 10 0 (λ_=>zBk) 0 kh v).sp<=4:=hsp;exact Nat.le_trans this (by omega)
theorem atg{a:ZSto}(h:a.ph=0):ownM (a.c.os 0)=ownM a.ck.os:=by
 rw[show a.ck=⟨a.c,0⟩ from by unfold ZSto.ck;rw[h]];rfl
theorem Zf(a:ZSto)(ha:a.ph=0/\wQ a):alb a:=by
 unfold alb;simp only[OE,Gu];simp only[aZ,aV,aU,aA,aI,bU,bG,aO,aK,ay,aX,aW,bV,bH,bJ,bK,bW,bC,bM,bn,eY,aH,aN,ah,ak,aB,aF,aC,aG];exact⟨⟨a.b,a.r,a.c⟩,ha.2,⟨rfl,rfl,atg ha.1⟩,rfl,(atg ha.1).symm,rfl⟩
theorem ath:cO Tryz.prog 29 aqw.ctr:=iU (bP Y8) 11 (λ_=>⟨rfl,rfl,rfl,rfl⟩) λx hx=>Eq.mp (alc x) (Zf x (aZ.1 hx))
theorem ao4:dZ Tryz.prog avF:= .cons (bP ajD) (.cons (bP aeN) (.cons (bP aeD) (.cons Fg (.cons ala (.cons akW (.cons (bP akP) (.cons (bP aoN) (.cons ao3 (.cons (bP avD) (.cons (ao2 (bP ath)) .nil))))))))))
theorem HWp.up{M N m M' N' m':Nat}{B:ByteArray->ZBlk}{b:ZBlk}{ln:Nat}{a:ZSto}(w:HWp M N m B b ln a)(h1:M<=M')(h2:N<=N')(h3:m<=m'):HWp M' N' m' B b ln a:=
 {w with base:=w.base.up h1 h2,aeO:=by have:=w.aeO;omega,note:=Nat.le_trans w.note h3}
set_option maxRecDepth 20000 in
theorem Uf(x:aeZ):Ze x:=by
 unfold Ze;simp only[qK,A8,fU,qE,Y9,Gv,Ue,uq,uw,qC,OH,Gu,Zb,wR,Gw,OG,Zd,wS,Za,Zc,abI,OE];simp only[aZ,aV,aU,aA,aI,bU,bG,aO,aK,ay,aX,aW,bV,bH,bJ,bK,bW,bC,bM,bn,eY,aH,aN,ah,ak,aB,aF,aC,aG];refine bf (λ_=>trivial) λhm=>bf (λ_=>trivial) λhv=> ?_
 have hm:x.m<=30:=by have:=aT hm;omega
 have hv:x.v.size<=100:=by have:=aT hv;omega
 refine⟨⟨42,2⟩,by decide,⟨rfl,rfl⟩,λd hd=>⟨⟨newSto 42 2 d,2,10,0,λ_=>zBk,0,kh,x.v⟩,⟨eH.new hd (by decide) (by decide) _,by show 0<2;decide,rfl,by show 10<=900000;decide,by show 0<=100;decide⟩,⟨rfl,rfl,rfl⟩,rfl,λy1 hy1=> ?_⟩⟩;obtain⟨b,ln,B,w,hbv,hbk,hs1,base,hh1,hL⟩:=aeQ hd hv hy1;refine⟨⟨y1.a,fK kh ⟨#[]⟩,1⟩,⟨⟨base.rok,base.cok,by show y1.a.ph<=4;rw[base.ph];decide,by show 1<y1.a.r.t;rw[base.rt];decide,hh1⟩,rfl⟩,(by repeat' (first|exact rfl|refine And.intro ?_ ?_)),rfl,⟨⟨y1.a.vI 1 y1.a.r.now,{fK kh ⟨#[]⟩with epoch:=y1.a.c.now},1⟩,⟨b.key,b.id,b.ver,ln,b.cls⟩⟩,⟨by show(1:Nat)<_;decide,by show(0:Nat)<_;decide,?_,hbk⟩,(by repeat' (first|exact rfl|refine And.intro ?_ ?_)),rfl,⟨b,ln⟩,⟨⟨0,y1.a.vI 1 y1.a.r.now,B⟩,⟨Nat.zero_le _,w⟩,rfl,rfl⟩,λs hs=>bf (λhlt=> ?_) λhge=> ?_⟩
 ·show nextL y1.a.L (bkt kh) ⟨#[]⟩ false=_
  rw[hL];unfold nextL;rw[List.find?_cons_of_pos (by show(decide (bkt b.key=bkt kh)&&(!false||_))=true;rw[hbk,decide_eq_true rfl];rfl)]
 ·obtain⟨h30,w⟩:=hs
  have hlt:s.i<x.m:=by have:=aS hlt;omega
  have hi64:I64 ((s.i:Int)+1):=by unfold I64;omega
  refine⟨⟨by omega,by omega⟩,hlt,bf (λ_=>⟨hi64,⟨s.i+1,s.a,s.B⟩,⟨by show s.i+1<=30;omega,w.up (by show _<=440*(s.i+1)+900;omega) (by show _<=s.i+1+1;omega) (aY _)⟩,by show 30-(s.i+1)<_;omega,by show((s.i+1:Nat):Int)=_;omega,rfl⟩) λhgs=> ?_⟩;have hgs:(x.g s.i).size<=100:=by have:=aT hgs;omega
  refine⟨⟨by omega,by omega⟩,hlt,⟨s.a,2,440*s.i+900,s.i+1,s.B,0,kh,x.g s.i⟩,⟨w.base,by show 0<2;decide,w.h0,by show 440*s.i+900<=900000;omega,by show s.i+1<=100;omega⟩,⟨rfl,rfl,rfl⟩,rfl,λy4 h4=> ?_⟩;obtain⟨B',w2⟩:=w.put (abJ (by show 1+(x.g s.i).size<=101;omega)) h4;have hM:440*s.i+900+400<=900000:=by omega
  refine⟨y4.a,rfl,y4.a.c,⟨w2.base.cok,w2.base.jr⟩,atg w2.base.ph,⟨y4.a.c,y4.a.d,8⟩,⟨⟨y4.a.c.start,y4.a.d,1,0⟩,⟨Nat.zero_le _,w2.base.begin (by omega) w2.note⟩,rfl,rfl,rfl⟩,λs1 hs1=>bf (λhj=> ?_) λhj=> ?_⟩
  ·have hj:s1.j<20:=by have:=aS hj;omega
   exact⟨⟨s1.c,s1.d,s1.ph,_⟩,w2.base.closing (by omega) (by omega) hs1.2,⟨rfl,rfl⟩,λy hy=>⟨by unfold I64;omega,⟨y.c,y.d,y.ph,s1.j+1⟩,⟨hj,hy⟩,by show 20-(s1.j+1)<_;omega,by show((s1.j+1:Nat):Int)=_;omega,rfl,rfl⟩⟩
  ·have hj:s1.j=20:=by have:=aT hj;have:=hs1.1;omega
   have hcs:=hs1.2;rw[hj]at hcs;obtain⟨hp0,w3⟩:=w2.closed hM (by omega) hcs;have w4:=w3.adv (by omega);have un:=w4.wQ;refine⟨y4.a.r,w2.base.rok,rfl,{y4.a.aoO s1.c s1.d with r:={y4.a.r with now:=y4.a.r.now+1}},⟨rfl,rfl,rfl,rfl,?_,rfl,rfl,rfl,rfl,rfl⟩,_,⟨w4.base.ph,un⟩,rfl,_,⟨w4.base.ph,un⟩,rfl,hi64,⟨s.i+1,_,B'⟩,⟨by show s.i+1<=30;omega,w4.up (by show _<=440*(s.i+1)+900;omega) (by show _<=s.i+1+1;omega) (by omega)⟩,by show 30-(s.i+1)<_;omega,by show((s.i+1:Nat):Int)=_;omega,rfl⟩;rw[hp0];show dF.abs (ownM (s1.c.os 0))=dF.abs (ownM (ZCk.os ⟨s1.c,y4.a.ph⟩));rw[w2.base.ph];rfl
 ·obtain⟨h30,w⟩:=hs
  have s8:=oN b;have i64: ∀k:Nat,k<=30->I64 ((k:Int)+1):=λk hk=>by unfold I64;omega
  have kk20: ∀{k:Nat},k<=19->decide ((k:Int)<20)=true:=λh=>decide_eq_true (by omega)
  refine⟨⟨⟨0,s.a,{fK kh ⟨#[]⟩with epoch:=y1.a.c.now,had:=true,old:=⟨b.key,b.id,b.ver,ln,b.cls⟩,piece:=0},0,_,_,_,s.B,b,ln⟩,⟨rfl,w,hbv,⟨rfl,rfl,rfl,rfl,by show((0:Nat):Int)<spn b.cls;omega⟩,by show 0+1+(b.dL-0)<=19;omega⟩,rfl,(by repeat' (first|exact rfl|refine And.intro ?_ ?_)),rfl⟩,λs1 hs1=> ?_,λs1 hs1=> ?_,λs1 hs1=> ?_,λs1 hs1=> ?_⟩
  ·obtain⟨hn,w,hv1,⟨g1,g2,g3,g4,g5⟩,hk⟩:=hs1
   have s9:=oN s1.b;rw[hn]at g3 g5 hk;refine bf (λ_=>⟨⟨s1.a,s1.f,1,s1.b,s1.ln,0⟩,⟨⟨w.base.dok,w.keep.1.1,w.keep.1.2.1,w.keep.1.2.2.1,by show((0:Nat):Int)<spn s1.b.cls;omega,w.keep.1.2.2.2⟩,rfl⟩,?_,rfl,λhne=> ?_,λheq=> ?_⟩) λh=>absurd (aT h) (by omega)
   ·repeat' (first|exact rfl|exact g1.symm|exact g3.symm|(rw[g2];done)|refine And.intro ?_ ?_)
   ·have hne:(1:Int)≠spn s1.b.cls:=hne
    exact⟨i64 _ (by omega),⟨s1.k+1,s1.a,(ZPr.mk s1.a s1.f 1 s1.b s1.ln 0).fr 1,1,s1.M,s1.N,s1.m,s1.B,s1.b,s1.ln⟩,⟨by show(1:Nat)≠0;decide,w,hv1,⟨rfl,rfl,rfl,g4,by show((1:Nat):Int)<spn s1.b.cls;omega⟩,by show s1.k+1+1+(s1.b.dL-1)<=19;omega⟩,by show 21-(s1.k+1)<_;omega,by show((s1.k+1:Nat):Int)=_;omega,⟨rfl,λ_ _=>rfl⟩,(by repeat' (first|exact rfl|refine And.intro ?_ ?_))⟩
   ·exact⟨i64 _ (by omega),⟨s1.k+1,s1.a,(ZPr.mk s1.a s1.f 1 s1.b s1.ln 0).fr2 1,0,s1.M,s1.N,s1.m,s1.B,s1.b,s1.ln⟩,⟨w,⟨g4,rfl,hv1⟩,by show s1.k+1+1<=19;omega⟩,by show 21-(s1.k+1)<_;omega,by show((s1.k+1:Nat):Int)=_;omega,(by repeat' (first|exact rfl|refine And.intro ?_ ?_))⟩
  ·obtain⟨hn,w,hv1,⟨g1,g2,g3,g4,g5⟩,hk⟩:=hs1
   have s9:=oN s1.b;refine bf (λ_=>⟨⟨s1.a,s1.f,1,s1.b,s1.ln,s1.n⟩,⟨⟨w.base.dok,w.keep.1.1,w.keep.1.2.1,w.keep.1.2.2.1,g5,w.keep.1.2.2.2⟩,hn⟩,?_,⟨rfl,rfl,λ_ _=>rfl⟩,λhne=> ?_,λheq=> ?_⟩) λh=>absurd (aT h) (by omega)
   ·repeat' (first|exact rfl|exact g1.symm|exact g3.symm|(rw[g2];done)|refine And.intro ?_ ?_)
   ·have hne:(s1.n:Int)+1≠spn s1.b.cls:=hne
    exact⟨i64 _ (by omega),⟨s1.k+1,s1.a,(ZPr.mk s1.a s1.f 1 s1.b s1.ln s1.n).fr (s1.n+1),s1.n+1,s1.M,s1.N,s1.m,s1.B,s1.b,s1.ln⟩,⟨by show s1.n+1≠0;omega,w,hv1,⟨rfl,rfl,rfl,g4,by show((s1.n+1:Nat):Int)<spn s1.b.cls;omega⟩,by show s1.k+1+1+(s1.b.dL-(s1.n+1))<=19;omega⟩,by show 21-(s1.k+1)<_;omega,by show((s1.k+1:Nat):Int)=_;omega,⟨rfl,λ_ _=>rfl⟩,(by repeat' (first|exact rfl|refine And.intro ?_ ?_))⟩
   ·exact⟨i64 _ (by omega),⟨s1.k+1,s1.a,(ZPr.mk s1.a s1.f 1 s1.b s1.ln s1.n).fr2 (s1.n+1),0,s1.M,s1.N,s1.m,s1.B,s1.b,s1.ln⟩,⟨w,⟨g4,rfl,hv1⟩,by show s1.k+1+1<=19;omega⟩,by show 21-(s1.k+1)<_;omega,by show((s1.k+1:Nat):Int)=_;omega,(by repeat' (first|exact rfl|refine And.intro ?_ ?_))⟩
  ·obtain⟨w,gf,hk⟩:=hs1
   exact bf (λ_=>⟨⟨s1.a,s1.f,1⟩,⟨w.base.rok,by show 1<s1.a.r.t;rw[w.base.rt];decide⟩,(by repeat' (first|exact rfl|refine And.intro ?_ ?_)),rfl,i64 _ (by omega),⟨s1.k+1,s1.a.vI 1 0,s1.f,0,s1.M,s1.N,s1.m,s1.B,s1.b,s1.ln⟩,⟨gf,by show s1.k+1<=19;omega⟩,by show 21-(s1.k+1)<_;omega,by show((s1.k+1:Nat):Int)=_;omega,(by repeat' (first|exact rfl|refine And.intro ?_ ?_)),rfl⟩) λh=>absurd (aT h) (by omega)
  ·obtain⟨⟨f1,f2,f3⟩,hk⟩:=hs1
   have fin:cP (s1.f.code==0) (cP s1.f.found (cP (s1.f.ans.toList==x.v.toList) True (true=false)) (true=false)) (true=false):=by
    rw[f1,f2,f3];exact bf (λ_=>bf (λ_=>bf (λ_=>trivial) λe=>by rw[beq_self_eq_true]at e;cases e) λe=>by cases e) λe=>by cases e
   exact bf (λ_=>fin) λ_=>fin
theorem ao5(x:aeZ):Sp Tryz.prog 11 [.slR 0 0 1 x.m,.lit (.string x.v)] (hO 1 x.os) (λv _=>v=boo true):=
 (auh dG mixed ao4 (avE x) 200 6 (v0:=boo true) (os:=x.os) (Eq.mp (aeP x) (Uf x))).mono λ_ _ hh=>hh.1
end Go.Proofs.YtenfleoejgjklaaGreat
end
