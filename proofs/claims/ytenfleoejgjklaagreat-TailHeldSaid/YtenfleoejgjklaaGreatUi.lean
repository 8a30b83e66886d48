import Derived.Test.YtenfleoejgjklaaGreatUa
import Derived.Test.YtenfleoejgjklaaGreatUb
import Derived.Test.YtenfleoejgjklaaGreatUc
import Derived.Test.YtenfleoejgjklaaGreatUd
import Derived.Test.YtenfleoejgjklaaGreatUe
import Derived.Test.YtenfleoejgjklaaGreatUf
import Derived.Test.YtenfleoejgjklaaGreatUg
import Derived.Test.YtenfleoejgjklaaGreatUh
set_option linter.unusedVariables false
set_option linter.unusedSimpArgs false
set_option linter.unnecessarySimpa false
section
namespace Go.Proofs.YtenfleoejgjklaaGreat
open Go SE
def FJ2(n:Nat)(B:Nat->dN)(LN:Nat->Nat)(X:ZDq):Prop:=X.f.value.size<=400/\X.m=0/\X.q=0/\X.f.found=false/\X.f.code=0/\
 ((X.ph=2/\X.f.line= -1/\0<n/\X.f.had=true/\X.f.old=lk B LN 0/\X.f.piece=0)\/(X.ph=6/\n=0))
theorem FJ2.dj{n o M:Nat}{B:Nat->dN}{LN:Nat->Nat}{X:ZDq}(h:FJ2 n B LN X){a:dF}(w:HW n o M B LN a):DJ n o o B LN a (a.r.has 1) X/\rk o a.c.now X<=22:=by
 obtain⟨h1,h2,h3,h4,h5,h6⟩:=h
 have on:=w.on
 rcases h6 with ⟨g1,g2,g3,g4,g5,g6⟩|⟨g1,g2⟩
 ·have hs:0<spn (B X.q).cls:=by
   have h0:1<=(B X.q).dJ:=qA (w.lie X.q (by omega)).2.1
   have:=(kU (B X.q)).2
   omega
  refine⟨⟨h1,.inr (.inr (.inl ⟨g1,rfl,.inl g2,h4,h5,⟨by omega,by omega,g4,by rw[h3];exact g5⟩,by rw[h2];exact g6,by rw[h2];omega⟩))⟩,?_⟩
  rw[lQ g1]
  unfold rkB
  simp only[h2]
  repeat' split
  all_goals omega
 ·refine⟨⟨h1,.inr (.inr (.inr (.inr (.inr (.inr ⟨.inl g1,h2,.inr (.inl ⟨h4,h5,rfl,by omega⟩)⟩)))))⟩,?_⟩
  rw[lQ g1]
  simp
theorem aoW{t:Nat}{b:dN}{n:Nat}{s:ZTs}{Q:Nat->ZTs->Prop}(h:wD t b n s Q):wD t b n s (fun m y=>Q m y/\(m≠0->s.ph=2/\y.ph=2/\y.f.old=s.f.old)):=by
 have no: ∀{p:Prop},(0:Nat)≠0->p:=fun h=>absurd rfl h
 rcases h with ⟨a,b,c,q⟩|⟨a,b,c,q1,q2⟩|⟨a,b,i,k,c,d,q⟩|⟨a,ln,e,c,q1,q2⟩|⟨a,b,c,q1,q2⟩|⟨a,b,c,ln,e,d,q⟩|⟨a,b,c,ln,e,d,q⟩|⟨a,b,c,d,q⟩|⟨a,b,c,q⟩|⟨a,b,q⟩
 ·exact .inl ⟨a,b,c,q,no⟩
 ·exact .inr (.inl ⟨a,b,c,fun h=>⟨q1 h,no⟩,fun h=>⟨q2 h,no⟩⟩)
 ·exact .inr (.inr (.inl ⟨a,b,i,k,c,d,q,no⟩))
 ·exact .inr (.inr (.inr (.inl ⟨a,ln,e,c,fun h=>⟨q1 h,fun _=>⟨a,rfl,rfl⟩⟩,fun h=>⟨q2 h,no⟩⟩)))
 ·exact .inr (.inr (.inr (.inr (.inl ⟨a,b,c,fun h=>⟨q1 h,no⟩,fun i j h=>⟨q2 i j h,no⟩⟩))))
 ·exact .inr (.inr (.inr (.inr (.inr (.inl ⟨a,b,c,ln,e,d,q,no⟩)))))
 ·exact .inr (.inr (.inr (.inr (.inr (.inr (.inl ⟨a,b,c,ln,e,d,q,no⟩))))))
 ·exact .inr (.inr (.inr (.inr (.inr (.inr (.inr (.inl ⟨a,b,c,d,q,no⟩)))))))
 ·exact .inr (.inr (.inr (.inr (.inr (.inr (.inr (.inr (.inl ⟨a,b,c,q,no⟩))))))))
 ·exact .inr (.inr (.inr (.inr (.inr (.inr (.inr (.inr (.inr ⟨a,b,q,no⟩))))))))
theorem HW.qok{n o M:Nat}{B:Nat->dN}{LN:Nat->Nat}{a:dF}(w:HW n o M B LN a):qok a.d a.l (fun i=>B (o+i)):=fun i hi=>by
 obtain⟨ln,q1,q2,_⟩:=w.base.q i hi
 exact⟨ln,q1,q2⟩
theorem HW.line{n o M:Nat}{B:Nat->dN}{LN:Nat->Nat}{a:dF}(w:HW n o M B LN a){z:Int}(h:((n-o:Nat):Int)=z):(∃x_6:dF,bK x_6.osN=bK a.os/\ ∃x_7:ZLn,x_7.ok/\bK x_7.os=bK x_6.l.os/\cP ((x_7.n:Int)==z) True (true=false))\/ ∃x_6:dF,bK x_6.osP=bK a.os/\ ∃x_7:ZLn,x_7.ok/\bK x_7.os=bK x_6.l.os/\cP ((x_7.n:Int)==z) True (true=false):=by
 have fin: ∃x_7:ZLn,x_7.ok/\bK x_7.os=bK a.l.os/\cP ((x_7.n:Int)==z) True (true=false):=
  ⟨a.l,w.base.lok,rfl,bg (fun _=>trivial) fun e=>absurd (by rw[w.len];exact h) (beq_eq_false_iff_ne.1 e)⟩
 by_cases hz:a.n=0
 ·exact .inl ⟨a,by rw[y5 hz],fin⟩
 ·exact .inr ⟨a,by rw[sH hz],fin⟩
theorem DJ.two{n o0 o:Nat}{B:Nat->dN}{LN:Nat->Nat}{a:dF}{has:Int}{x:ZDq}(h:DJ n o0 o B LN a has x)(hp:x.ph=2):x.q<n/\x.f.old=lk B LN x.q:=by
 rcases h.2 with ⟨e,_⟩|⟨e,_⟩|⟨_,_,_,_,_,e,_⟩|⟨e,_⟩|⟨e,_⟩|⟨e,_⟩|⟨e,_⟩
 ·omega
 ·omega
 ·exact⟨e.2.1,e.2.2.2⟩
 ·omega
 ·omega
 ·omega
 ·rcases e with e|⟨e,_⟩<;>omega
set_option maxHeartbeats 2000000 in
set_option maxRecDepth 20000 in
theorem Zd(x:GU):acO x:=by
 unfold acO
 simp (maxSteps:=5000000) only[xX,Ec,lS,iW,jA,iM,eY,gu,xk,aoM,mV,Kz,sQ,pX,Ky,Zc,Zb,jB,iY,sS,tq,ng,jC,jd,kM,jc,jT,sW,jS,je,jG,kL,BZ,sZ,Cc,tH,sV,tu,aoT,agr,Cb,Ce,xg,BU,agp,Kw,jg,Pv,BR,acL,pR,jl,fQ,tC,BQ,iO,mQ,yG,BN,BX,qN,sU,BP,BO,Y9,iK,nU,kG,Za,yC,Eb,yD,jO,yF,aoR,aoS,KA,Kv,fE,jM,yE,aoU,UG,agq,aoQ,aoN,aoP,acJ,acK,acI,aoO,UH,ags,aY,aU,aT,ay,aH,bP,bC,aN,aJ,au,aW,aV,bQ,bF,bG,bH,bT,bf,bJ,aZ,dZ,aG,aK,ah,aj,aA,aC,aB,aF]
 refine bg (fun _=>trivial) fun hm=> ?_
 have hm:x.m<=20:=by have:=aS hm;omega
 refine⟨⟨42,2⟩,by decide,⟨rfl,rfl⟩,fun d hd=>⟨⟨⟨0,0,ru 42 2 d,fun _=>zB⟩,⟨Nat.zero_le _,aX _,OH.new hd⟩,⟨rfl,rfl⟩,an9 _ _ _⟩,fun s hs=>bg (fun hlt=> ?_) fun hge=> ?_⟩⟩
 ·obtain⟨h1,h2,h⟩:=hs
  have hlt:=aQ hlt
  refine⟨by omega,by omega,bg (fun hv=> ?_) fun hv=> ?_⟩
  ·have hv:=aQ hv
   refine⟨by omega,by omega,⟨s.a,0,⟨#[]⟩,x.g s.i,zB⟩,h.g.A (by omega),⟨rfl,rfl,rfl⟩,rfl,fun y r=> ?_⟩
   have hn:=h.next (by omega) (key:=⟨#[]⟩) (v:=x.g s.i) (bb:=zB) (by omega) r
   refine bg (fun hc=> ?_) fun hc=> ?_
   ·have hc:=beq_iff_eq.1 hc
    rcases hn with ⟨hn,_⟩|⟨_,b',hn⟩
    ·omega
    ·exact⟨by unfold I64;omega,by unfold I64;omega,⟨s.i+1,s.c+1,y.a,b'⟩,⟨by show s.i+1<=_;omega,by show s.c+1<=s.i+1;omega,hn⟩,by show x.m-(s.i+1)<_;omega,⟨by show((s.i+1:Nat):Int)=_;omega,by show((s.c+1:Nat):Int)=_;omega⟩,rfl⟩
   ·have hc:=beq_eq_false_iff_ne.1 hc
    rcases hn with ⟨_,hn⟩|⟨hn,_⟩
    ·exact⟨by unfold I64;omega,⟨s.i+1,s.c,y.a,s.b⟩,⟨by show s.i+1<=_;omega,by show s.c<=s.i+1;omega,hn⟩,by show x.m-(s.i+1)<_;omega,⟨by show((s.i+1:Nat):Int)=_;omega,rfl⟩,rfl⟩
    ·exact absurd hn hc
  ·exact⟨by unfold I64;omega,⟨s.i+1,s.c,s.a,s.b⟩,⟨by show s.i+1<=_;omega,by show s.c<=s.i+1;omega,h⟩,by show x.m-(s.i+1)<_;omega,⟨by show((s.i+1:Nat):Int)=_;omega,rfl⟩,rfl⟩
 ·obtain⟨h1,h2,h⟩:=hs
  have w0:=h.start (by omega)
  generalize (fun i=>(s.a.l.get i).line.toNat)=LN at w0
  have hr1:=h.rn
  generalize ha1:s.a.sJ 1 s.a.r.now=a1
  have w1:HW s.c 0 1000 s.b LN a1:=by rw[<-ha1];exact w0.sJ.up (by omega)
  have e0:a1.r.has 0=0:=by rw[<-ha1];exact h.has 0
  have e1:a1.r.has 1=1:=by rw[<-ha1];show(if (1:Nat)=1 then s.a.r.now else s.a.r.has 1)=1;rw[if_pos rfl];exact hr1
  refine⟨⟨⟨s.a,f0 ⟨#[]⟩ ⟨#[]⟩,0⟩,1,zB,0,fun m y=>m=0/\y=⟨a1,{f0 ⟨#[]⟩ ⟨#[]⟩with epoch:=s.a.c.now},1⟩⟩,⟨rfl,.inl ⟨rfl,rfl,⟨w0.base.rok,w0.base.cok,by show 1<s.a.r.t;rw[w0.base.rt];decide,h.has 1⟩,rfl,by rw[<-ha1]⟩⟩,⟨rfl,rfl,rfl,rfl,rfl,rfl,rfl,rfl,rfl,rfl,rfl,rfl,rfl,rfl,rfl,rfl,rfl,rfl⟩,rfl,fun y1 hy1=> ?_,fun y1 hy1=>absurd hy1.1.1 (by decide)⟩
  obtain⟨_,rfl⟩:=hy1
  refine⟨⟨⟨a1,{f0 ⟨#[]⟩ ⟨#[]⟩with epoch:=s.a.c.now},1⟩,1,zB,0,fun m y=>m=0/\y.a=a1/\FJ2 s.c s.b LN ⟨y.f,y.ph,0,0,0⟩⟩,⟨rfl,.inr (.inl ⟨rfl,rfl,⟨w1.base.lok,fun _=>by show(-1:Int)<0;decide⟩,fun hn=>⟨rfl,rfl,?_⟩,fun hn=>⟨rfl,rfl,?_⟩⟩)⟩,⟨rfl,rfl,rfl,rfl,rfl,rfl,rfl,rfl,rfl,rfl,rfl,rfl,rfl,rfl,rfl,rfl,rfl,rfl⟩,rfl,fun y2 hy2=> ?_,fun y2 hy2=>absurd hy2.1.1 (by decide)⟩
  ·exact⟨by show(0:Nat)<=400;decide,rfl,rfl,rfl,rfl,.inr ⟨rfl,by have:=w1.len;have hn:a1.l.n=0:=hn;omega⟩⟩
  ·have hn:a1.l.n≠0:=hn
   have hlen:=w1.len
   exact⟨by show(0:Nat)<=400;decide,rfl,rfl,rfl,rfl,.inl ⟨rfl,rfl,by omega,rfl,(w1.head (by omega)).2,rfl⟩⟩
  ·obtain⟨_,rfl,hf⟩:=hy2
   refine⟨⟨s.c,s.b,LN⟩,⟨⟨0,0,y2.a⟩,⟨Nat.zero_le _,w1,e0,e1⟩,⟨rfl,by show((s.c:Nat):Int)-((0:Nat):Int)=_;omega⟩,rfl⟩,fun s1 hs1=>⟨⟨x.turns,8⟩,⟨by show 1<=8;decide,by show 8<=1000;decide⟩,⟨rfl,rfl⟩,fun n8 h8=>bg (fun hlt=> ?_) fun hge=> ?_⟩⟩
   ·obtain⟨j8,w,g0,g1⟩:=hs1
    have w:HW s.c s1.o (2000*s1.j+1000) s.b LN s1.a:=w
    have hlt:=aQ hlt
    have hn8:n8<8:=h8
    have n20:=w.n20
    refine⟨⟨s.c,s1.o,2000*s1.j+1000,s.b,LN,s1.a,⟨#[]⟩,⟨#[]⟩⟩,⟨by show(0:Nat)<=400;decide,w,by show 2000*s1.j+1000<=800000;omega,g0⟩,⟨rfl,rfl⟩,rfl,fun y hy=> ?_⟩
    obtain⟨w4,q0,q1,hfo⟩:=hy
    have w4:HW s.c y.o (2000*s1.j+1000+1000) s.b LN y.y.a:=w4
    have q1:y.y.a.r.has 1=1:=q1.trans g1
    have on4:=w4.on
    refine⟨(s.c:Int)-y.o,?_,?_⟩
    ·rcases hfo with ⟨f1,f2⟩|⟨f1,f2⟩
     ·have f2:y.o=s1.o+1:=f2
      rw[f1]
      exact bg (fun _=>⟨by show I64 ((s.c:Int)-s1.o-1);unfold I64;omega,by show(s.c:Int)-y.o=(s.c:Int)-s1.o-1;omega⟩) fun h=>nomatch h
     ·have f2:y.o=s1.o:=f2
      rw[f1]
      exact bg (fun h=>nomatch h) fun _=>by show(s.c:Int)-y.o=(s.c:Int)-s1.o;omega
    ·by_cases hz:y.y.a.n=0
     ·refine .inl ⟨y.y.a,by rw[y5 hz],y.y.a.c,⟨w4.base.cok,w4.base.jU⟩,rfl,⟨y.y.a.c,y.y.a.d,0⟩,⟨⟨y.y.a.c.start,y.y.a.d,1,0⟩,⟨Nat.zero_le _,w4.begin (by omega)⟩,rfl,rfl,rfl⟩,fun s3 hs3=>bg (fun hj=> ?_) fun hj=> ?_⟩
      ·have hj:=aQ hj
       obtain⟨_,hc⟩:=hs3
       refine⟨⟨s3.c,s3.d,s3.ph,CW y.y.a.c y.y.a.d (s3.j+1)⟩,w4.closing (by omega) (by omega) hc,⟨rfl,rfl⟩,fun y7 h7=>⟨by unfold I64;omega,⟨y7.c,y7.d,y7.ph,s3.j+1⟩,⟨by show s3.j+1<=50;omega,h7⟩,by show 50-(s3.j+1)<50-s3.j;omega,by show((s3.j+1:Nat):Int)=_;omega,rfl,rfl⟩⟩
      ·have hj:=aS hj
       obtain⟨hj2,hc⟩:=hs3
       have hj50:s3.j=50:=by omega
       rw[hj50]at hc
       obtain⟨hp,hw,_⟩:=w4.closed (by omega) hc
       have ha:=hw.adv (by omega)
       rw[hp]
       refine⟨y.y.a.r,w4.base.rok,rfl,(y.y.a.YJ s3.c s3.d).advance,⟨hz,rfl,rfl,rfl,rfl,rfl,rfl,rfl⟩,(y.y.a.YJ s3.c s3.d).advance,⟨ha.base.bok,ha.base.rok,ha.base.cok,ha.aok q1 _⟩,rfl,by unfold I64;omega,⟨s1.j+1,y.o,(y.y.a.YJ s3.c s3.d).advance⟩,⟨by show s1.j+1<=8;omega,ha.up (by show _<=2000*(s1.j+1)+1000;omega),q0,q1⟩,by show 8-(s1.j+1)<8-s1.j;omega,⟨by show((s1.j+1:Nat):Int)=_;omega,rfl⟩,rfl⟩
     ·refine .inr ⟨y.y.a,by rw[sH hz],y.y.a.c,⟨w4.base.cok,w4.base.jU⟩,rfl,⟨y.y.a.c,y.y.a.d,0⟩,⟨⟨y.y.a.c.start,y.y.a.d,1,0⟩,⟨Nat.zero_le _,w4.begin (by omega)⟩,rfl,rfl,rfl⟩,fun s3 hs3=>bg (fun hj=> ?_) fun hj=> ?_⟩
      ·have hj:=aQ hj
       obtain⟨_,hc⟩:=hs3
       refine⟨⟨s3.c,s3.d,s3.ph,CW y.y.a.c y.y.a.d (s3.j+1)⟩,w4.closing (by omega) (by omega) hc,⟨rfl,rfl⟩,fun y7 h7=>⟨by unfold I64;omega,⟨y7.c,y7.d,y7.ph,s3.j+1⟩,⟨by show s3.j+1<=50;omega,h7⟩,by show 50-(s3.j+1)<50-s3.j;omega,by show((s3.j+1:Nat):Int)=_;omega,rfl,rfl⟩⟩
      ·have hj:=aS hj
       obtain⟨hj2,hc⟩:=hs3
       have hj50:s3.j=50:=by omega
       rw[hj50]at hc
       obtain⟨hp,hw,_⟩:=w4.closed (by omega) hc
       have ha:=hw.adv (by omega)
       rw[hp]
       refine⟨y.y.a.r,w4.base.rok,rfl,(y.y.a.YJ s3.c s3.d).advance,⟨hz,rfl,rfl,rfl,rfl,rfl,rfl,rfl,rfl⟩,(y.y.a.YJ s3.c s3.d).advance,⟨ha.base.bok,ha.base.rok,ha.base.cok,ha.aok q1 _⟩,rfl,by unfold I64;omega,⟨s1.j+1,y.o,(y.y.a.YJ s3.c s3.d).advance⟩,⟨by show s1.j+1<=8;omega,ha.up (by show _<=2000*(s1.j+1)+1000;omega),q0,q1⟩,by show 8-(s1.j+1)<8-s1.j;omega,⟨by show((s1.j+1:Nat):Int)=_;omega,rfl⟩,rfl⟩
   ·obtain⟨j8,w,g0,g1⟩:=hs1
    have w:HW s.c s1.o (2000*s1.j+1000) s.b LN s1.a:=w
    have w5:HW s.c s1.o 50000 s.b LN s1.a:=w.up (by omega)
    obtain⟨dj0,rk0⟩:=hf.dj w5
    have hlen:=w.len
    have on:=w.on
    have n20:=w.n20
    refine⟨⟨s1.a,fun i=>s.b (s1.o+i)⟩,⟨w.base.lok,by show s1.a.l.n<_;omega,w.qok⟩,rfl,fun hn=> ?_,fun hn=> ?_⟩
    all_goals refine⟨⟨s.c,s1.o,s.b,LN⟩,⟨⟨s.c,s1.o,s.b,LN⟩,⟨⟨0,s1.o,s1.a,⟨y2.f,y2.ph,0,0,0⟩⟩,⟨Nat.zero_le _,rfl,w5,dj0,by show rk s1.o s1.a.c.now ⟨y2.f,y2.ph,0,0,0⟩+0<=40;omega⟩,rfl,⟨rfl,rfl,rfl,rfl,rfl,rfl,rfl,rfl,rfl,rfl,rfl,rfl,rfl,rfl,rfl,rfl,rfl⟩,rfl⟩,fun s2 hs2=> ?_,fun s2 hs2=> ?_⟩,fun s2 hs2=> ?_⟩
    case refine_1.refine_1|refine_2.refine_1=>
     obtain⟨k1,m0,hw,dj,hrk⟩:=hs2
     have hw:HW s.c s2.o (20*s2.k+50000) s.b LN s2.a:=hw
     have dj:DJ s.c s1.o s2.o s.b LN s2.a (s2.a.r.has 1) s2.x:=dj
     have st:=aoW (DJ.step hw (by omega) (t:=1) (by decide) dj)
     rw[m0]at st
     refine bg (fun _=>bg (fun h7=> ?_) fun h7=> ?_) fun hk=>absurd (aS hk) (by omega)
     ·refine⟨⟨⟨s2.a,s2.x.f,s2.x.ph⟩,1,s.b s2.x.q,0,_⟩,⟨rfl,st⟩,⟨rfl,rfl,rfl,rfl,rfl,rfl,rfl,rfl,rfl,rfl,rfl,rfl,rfl,rfl,rfl,rfl,rfl,rfl⟩,rfl,fun y hy=> ?_,fun y hy=> ?_⟩
      ·obtain⟨⟨o',x',hx⟩,_⟩:=hy
       have hr:=hx.rk.resolve_right (by simpa using h7)
       have aix:=hx.now
       have hxw:HW s.c o' (20*s2.k+50000+20) s.b LN y.a:=hx.w
       refine⟨by unfold I64;omega,⟨s2.k+1,o',y.a,x'⟩,⟨by show s2.k+1<=60;omega,hx.m.symm,hxw.up (by show _<=20*(s2.k+1)+50000;omega),hx.dj,?_⟩,by show 60-(s2.k+1)<60-s2.k;omega,by show((s2.k+1:Nat):Int)=_;omega,?_,rfl⟩
       ·have aix:y.a.c.now=s2.a.c.now:=aix
        show rk o' y.a.c.now x'+(s2.k+1)<=40
        rw[aix]
        have hr:rk o' s2.a.c.now x'+1<=rk s2.o s2.a.c.now s2.x:=hr
        omega
       ·rw[hx.f,hx.ph]
        repeat' (first|exact rfl|refine And.intro ?_ ?_)
      ·obtain⟨⟨⟨o',x',hx⟩,hrd⟩,hp2⟩:=hy
       have hr:=hx.rk.resolve_right (by simpa using h7)
       have hxw:HW s.c o' (20*s2.k+50000+20) s.b LN y.a:=hx.w
       obtain⟨r1,r2,r3⟩:=hrd (by decide)
       have hm1:x'.m=1:=hx.m.symm
       have hq:x'.q=s2.x.q:=by
        obtain⟨t1,t2⟩:=hx.dj.two (hx.ph.symm.trans hp2)
        obtain⟨t3,t4⟩:=dj.two r1
        refine hw.ids _ _ t1 t3 ?_
        have e:lk s.b LN x'.q=lk s.b LN s2.x.q:=by
         rw[<-t2,<-t4,<-hx.f];exact r3
        exact congrArg dM.id e
       refine⟨by unfold I64;omega,⟨s2.k+1,o',y.a,x'⟩,⟨by show s2.k+1<=60;omega,by show x'.m≠0;omega,hx.ph.symm.trans hp2,hxw.up (by show _<=20*(s2.k+1)+50000;omega),hx.dj,?_⟩,by show 60-(s2.k+1)<60-s2.k;omega,by show((s2.k+1:Nat):Int)=_;omega,⟨by show 64*x'.m=64;omega,fun q _=>by show(s.b x'.q).enc q=(s.b s2.x.q).enc q;rw[hq]⟩,?_,rfl⟩
       ·have aix:y.a.c.now=s2.a.c.now:=hx.now
        show rk o' y.a.c.now x'+(s2.k+1)<=40
        rw[aix]
        have hr:rk o' s2.a.c.now x'+1<=rk s2.o s2.a.c.now s2.x:=hr
        omega
       ·rw[hx.f]
        have h64:64*x'.m=64:=by omega
        repeat' (first|exact rfl|exact h64|refine And.intro ?_ ?_)
     ·have h7:s2.x.ph=7:=by simpa using h7
      exact⟨s2,⟨m0,h7,hw,dj⟩,⟨rfl,rfl,h7.symm,rfl,rfl,rfl,rfl,rfl,rfl,rfl,rfl,rfl,rfl,rfl,rfl,rfl,rfl⟩,rfl⟩
    case refine_1.refine_2|refine_2.refine_2=>
     obtain⟨k1,mne,p2,hw,dj,hrk⟩:=hs2
     have hw:HW s.c s2.o (20*s2.k+50000) s.b LN s2.a:=hw
     have dj:DJ s.c s1.o s2.o s.b LN s2.a (s2.a.r.has 1) s2.x:=dj
     have st:=aoW (DJ.step hw (by omega) (t:=1) (by decide) dj)
     refine bg (fun _=> ?_) fun hk=>absurd (aS hk) (by omega)
     refine⟨⟨⟨s2.a,s2.x.f,s2.x.ph⟩,1,s.b s2.x.q,s2.x.m,_⟩,⟨mne,p2,st⟩,⟨rfl,rfl,rfl,rfl,rfl,rfl,rfl,rfl,rfl,rfl,rfl,rfl,rfl,rfl,rfl,rfl,rfl,rfl⟩,⟨rfl,rfl,fun _ _=>rfl⟩,fun y hy=> ?_,fun y hy=> ?_⟩
     ·obtain⟨⟨o',x',hx⟩,_⟩:=hy
      have hr:=hx.rk.resolve_right (by rw[p2];decide)
      have hxw:HW s.c o' (20*s2.k+50000+20) s.b LN y.a:=hx.w
      refine⟨by unfold I64;omega,⟨s2.k+1,o',y.a,x'⟩,⟨by show s2.k+1<=60;omega,hx.m.symm,hxw.up (by show _<=20*(s2.k+1)+50000;omega),hx.dj,?_⟩,by show 60-(s2.k+1)<60-s2.k;omega,by show((s2.k+1:Nat):Int)=_;omega,?_,rfl⟩
      ·have aix:y.a.c.now=s2.a.c.now:=hx.now
       show rk o' y.a.c.now x'+(s2.k+1)<=40
       rw[aix]
       have hr:rk o' s2.a.c.now x'+1<=rk s2.o s2.a.c.now s2.x:=hr
       omega
      ·rw[hx.f,hx.ph]
       repeat' (first|exact rfl|refine And.intro ?_ ?_)
     ·obtain⟨⟨⟨o',x',hx⟩,hrd⟩,hp2⟩:=hy
      have hr:=hx.rk.resolve_right (by rw[p2];decide)
      have hxw:HW s.c o' (20*s2.k+50000+20) s.b LN y.a:=hx.w
      obtain⟨r1,r2,r3⟩:=hrd (Nat.succ_ne_zero _)
      have hm1:s2.x.m+1=x'.m:=hx.m
      have hq:x'.q=s2.x.q:=by
       obtain⟨t1,t2⟩:=hx.dj.two (hx.ph.symm.trans hp2)
       obtain⟨t3,t4⟩:=dj.two r1
       refine hw.ids _ _ t1 t3 ?_
       have e:lk s.b LN x'.q=lk s.b LN s2.x.q:=by
        rw[<-t2,<-t4,<-hx.f];exact r3
       exact congrArg dM.id e
      refine⟨by unfold I64;omega,⟨s2.k+1,o',y.a,x'⟩,⟨by show s2.k+1<=60;omega,by show x'.m≠0;omega,hx.ph.symm.trans hp2,hxw.up (by show _<=20*(s2.k+1)+50000;omega),hx.dj,?_⟩,by show 60-(s2.k+1)<60-s2.k;omega,by show((s2.k+1:Nat):Int)=_;omega,⟨by show 64*x'.m=64*(s2.x.m+1);omega,fun q _=>by show(s.b x'.q).enc q=(s.b s2.x.q).enc q;rw[hq]⟩,?_,rfl⟩
      ·have aix:y.a.c.now=s2.a.c.now:=hx.now
       show rk o' y.a.c.now x'+(s2.k+1)<=40
       rw[aix]
       have hr:rk o' s2.a.c.now x'+1<=rk s2.o s2.a.c.now s2.x:=hr
       omega
      ·rw[hx.f]
       have h64:64*x'.m=64*(s2.x.m+1):=by omega
       repeat' (first|exact rfl|exact h64|refine And.intro ?_ ?_)
    case refine_1.refine_3=>
     obtain⟨m0,h7,hw,dj⟩:=hs2
     have hw:HW s.c s2.o (20*s2.k+50000) s.b LN s2.a:=hw
     have dj:DJ s.c s1.o s2.o s.b LN s2.a (s2.a.r.has 1) s2.x:=dj
     have hn:s1.a.l.n=0:=hn
     have hl2:=hw.len
     obtain⟨_,h0,ej⟩:=dj.done h7
     rcases ej with ⟨f1,f2,f3,f4,f5⟩|⟨f1,f2,f3,f4⟩|⟨f1,f2,f3,f4⟩
     ·omega
     ·rw[f1,f2]
      refine bg (fun h=>absurd h (by decide)) fun _=>bg (fun h=>absurd (bne_iff_ne.1 h) (by show¬(0:Int)≠(s.c:Int)-s1.o;omega)) fun _=>bg (fun h=>absurd h (by decide)) fun _=>bg (fun _=>bg (fun _=>⟨by show I64 ((s.c:Int)-s1.o-1);unfold I64;omega,hw.line (by show _=imax ((s.c:Int)-s1.o-1) 0;unfold imax;split<;>omega)⟩) fun h=>absurd (show(s.c:Int)-s1.o=0 by omega) (beq_eq_false_iff_ne.1 h)) fun h=> ?_
      exfalso
      have h:=beq_eq_false_iff_ne.1 h
      exact h (decide_eq_false (show¬((s.c:Int)-s1.o>0) by omega)).symm
     ·rw[f1,f2,f3]
      refine bg (fun h=>absurd h (by decide)) fun _=>bg (fun h=>absurd (bne_iff_ne.1 h) (by show¬(0:Int)≠(s.c:Int)-s1.o;omega)) fun _=>bg (fun _=>bg (fun _=>bg (fun _=>bg (fun _=>⟨⟨s2.a,fun i=>s.b (s2.o+i)⟩,⟨hw.base.lok,by show s2.a.l.n<_;omega,hw.qok⟩,rfl,fun h=>absurd (show s2.a.l.n=0 by omega) h⟩) fun h=>absurd rfl (beq_eq_false_iff_ne.1 h)) fun h=>absurd h (by decide)) fun h=>absurd h (by decide)) fun h=>absurd h (by decide)
    case refine_2.refine_3=>
     obtain⟨m0,h7,hw,dj⟩:=hs2
     have hw:HW s.c s2.o (20*s2.k+50000) s.b LN s2.a:=hw
     have dj:DJ s.c s1.o s2.o s.b LN s2.a (s2.a.r.has 1) s2.x:=dj
     have hn:s1.a.l.n≠0:=hn
     have hl2:=hw.len
     obtain⟨_,h0,ej⟩:=dj.done h7
     have hne:((s1.a.l.n:Nat):Int)=(s.c:Int)-s1.o:=by omega
     rcases ej with ⟨f1,f2,f3,f4,f5⟩|⟨f1,f2,f3,f4⟩|⟨f1,f2,f3,f4⟩
     ·rw[f1,f2,f5]
      refine bg (fun h=>absurd h (by decide)) fun _=>bg (fun h=>absurd hne (bne_iff_ne.1 h)) fun _=>bg (fun h=>absurd h (by decide)) fun _=>bg (fun _=>bg (fun h=>absurd (beq_iff_eq.1 h) (by show¬(s.c:Int)-s1.o=0;omega)) fun _=>⟨⟨by decide,by show(1:Int)<=(s1.a.l.n:Nat);omega⟩,by show 0<s1.a.l.n;omega,bg (fun _=>⟨by show I64 ((s.c:Int)-s1.o-1);unfold I64;omega,hw.line (by show _=imax ((s.c:Int)-s1.o-1) 0;unfold imax;split<;>omega)⟩) fun h=>absurd rfl (beq_eq_false_iff_ne.1 h)⟩) fun h=> ?_
      exfalso
      have h:=beq_eq_false_iff_ne.1 h
      exact h (decide_eq_true (show(s.c:Int)-s1.o>0 by omega)).symm
     ·omega
     ·rw[f1,f2,f3]
      refine bg (fun h=>absurd h (by decide)) fun _=>bg (fun h=>absurd hne (bne_iff_ne.1 h)) fun _=>bg (fun _=>bg (fun _=>bg (fun _=>bg (fun _=>⟨⟨s2.a,fun i=>s.b (s2.o+i)⟩,⟨hw.base.lok,by show s2.a.l.n<_;omega,hw.qok⟩,rfl,fun h=>absurd (show s2.a.l.n=0 from h) (by omega),fun h=>⟨⟨s2.a.l.n,s1.a.l.n,fun q=>(s.b (s2.o+q)).value,fun q=>(s.b (s1.o+q)).value⟩,by show s2.a.l.n<_;omega,⟨rfl,rfl⟩,⟨⟨rfl,fun _ _=>rfl⟩,rfl,fun _ _=>rfl⟩,?_⟩⟩) fun h=>absurd rfl (beq_eq_false_iff_ne.1 h)) fun h=>absurd h (by decide)) fun h=>absurd h (by decide)) fun h=>absurd h (by decide)
      rw[show(ZSm.mk s2.a.l.n s1.a.l.n (fun q=>(s.b (s2.o+q)).value) (fun q=>(s.b (s1.o+q)).value)).same=true from same_iff.2 ⟨by show s2.a.l.n=s1.a.l.n;omega,fun q _=>by show(s.b (s2.o+q)).value=(s.b (s1.o+q)).value;rw[f4]⟩]
      exact bg (fun _=>trivial) fun h=>nomatch h
theorem Ze(x:dF)(hx:x.b.ok/\x.r.ok/\x.c.ok/\ ∀k,k<x.b.n-> ¬D6.rd ⟨x.b,x.r,x.c.dur⟩ k):acM x:=by
 unfold acM
 simp only[UL,UJ,UK,ags,kL,je,jc,kM,jd,jA,ng,aY,aU,aT,ay,aH,bP,bC,aN,aJ,au,aW,aV,bQ,bF,bG,bH,bT,bf,bJ,aZ,dZ,aG,aK,ah,aj,aA,aC,aB,aF]
 exact⟨⟨x.b,x.r,x.c⟩,hx,⟨rfl,rfl,rfl⟩,rfl,rfl,rfl⟩
theorem Zf(x:dF)(hx:x.b.ok/\x.r.ok/\x.c.ok/\ ∀k,k<x.b.n-> ¬D6.rd ⟨x.b,x.r,x.c.dur⟩ k):acN x:=by
 unfold acN
 simp only[UL,UJ,UK,UH,kL,je,jc,kM,jd,xg,jA,ng,aY,aU,aT,ay,aH,bP,bC,aN,aJ,au,aW,aV,bQ,bF,bG,bH,bT,bf,bJ,aZ,dZ,aG,aK,ah,aj,aA,aC,aB,aF]
 exact⟨⟨x.b,x.r,x.c⟩,hx,⟨rfl,rfl,rfl⟩,rfl,rfl,rfl⟩
theorem arT:bZ Tryz.prog 29 ao6.N.ctr:=dH (bU Ku) 10 (fun _=>⟨rfl,rfl,rfl,rfl⟩) fun x hx=>Eq.mp (aiS x) (Ze x (aY.1 hx.1))
theorem arU:bZ Tryz.prog 29 ao6.P.ctr:=dH (bU Ku) 11 (fun _=>⟨rfl,rfl,rfl,rfl⟩) fun x hx=>Eq.mp (aiT x) (Zf x (aY.1 hx.1))
theorem avF:bZ Tryz.prog 29 ao6.M.ctr:=glue (fun x _ o ho y _=>by obtain rfl:=List.mem_singleton.1 ho;rfl) arT arU
theorem arV:fJ Tryz.prog axV:= .cons aob (.cons (bU amE) (.cons (UD arM) (.cons (bU axP) (.cons JX (.cons (UD Y5) (.cons aiR (.cons (bU aoq) (.cons (bU arE) (.cons (bU axJ) (.cons (UD (bU avF)) (.cons (bU an8) (.cons ari (.cons (Po (bU aoV) (bU aoL)) (.cons (bU ahF) .nil))))))))))))))
theorem avG(x:GU):Sp Tryz.prog 5 [.slR 0 0 1 x.m,i64 x.turns] (hO 1 x.os) (fun v _=>v=boo true):=
 (atw dB mixed arV (axU x) 200 6 1 1 (v0:=boo true) (os:=x.os) rfl rfl (Eq.mp (aiU x) (Zd x))).mono fun _ _ hh=>hh.1
end Go.Proofs.YtenfleoejgjklaaGreat
end
