import Derived.Test.YtenfleoejgjklaaGreatUa
import Derived.Test.YtenfleoejgjklaaGreatUb
import Derived.Test.YtenfleoejgjklaaGreatUc
import Derived.Test.YtenfleoejgjklaaGreatUd
import Derived.Test.YtenfleoejgjklaaGreatUe
import Derived.Test.YtenfleoejgjklaaGreatUf
import Derived.Test.YtenfleoejgjklaaGreatUg
import Derived.KernelRfl
import Derived.RangeFuncNested
import Derived.RangeFuncBound
import Derived.RangeFuncCalls
import Derived.RangeFuncLeaves
import Derived.Shelf.Abstract
import Derived.Shelf.RegionOpen
import Derived.WalkKit
import Derived.OwnWalkIn
import Derived.TacticsInMore
import Derived.LoopNIn
import Derived.LoopIn
set_option linter.unusedVariables false
set_option linter.unusedSimpArgs false
set_option linter.unnecessarySimpa false
section
namespace Go.Proofs.YtenfleoejgjklaaGreat
open Go SE
def sO:Prop:=Value.slice none 0 0=Value.slice none 0 0
def arh(a:dF)(b:ZSh):Prop:=(0=0/\(1:Int)=1/\(0:Int)=0/\(0:Int)=0/\True)/\bK a.d.os=bK b.d.os/\bK a.p.os=bK a.p.os/\bK a.r.os=bK a.r.os/\bK (a.c.os 0)=bK (a.c.os 0)/\bK a.b.os=bK a.b.os/\bK lT=bK lT/\(sO/\sO/\sO/\sO/\True)/\bK a.l.os=bK b.l.os/\(a.n=a.n/\ ∀q:Nat,q<a.n->[Value.int .i64 (fZ.kind (a.e q)),Value.string (fZ.key (a.e q)),Value.string (fZ.value (a.e q)),Value.int .u64 (fZ.id (a.e q)),Value.int .u64 (fZ.ver (a.e q)),Value.int .u64 (fZ.epoch (a.e q)),Value.int .i64 (fZ.group (a.e q))]=[Value.int .i64 (fZ.kind (a.e q)),Value.string (fZ.key (a.e q)),Value.string (fZ.value (a.e q)),Value.int .u64 (fZ.id (a.e q)),Value.int .u64 (fZ.ver (a.e q)),Value.int .u64 (fZ.epoch (a.e q)),Value.int .i64 (fZ.group (a.e q))])/\True
def afL(a:dF)(b:ZSh):Prop:=(0=0/\(1:Int)=1/\(0:Int)=0/\(0:Int)=0/\True)/\bK a.d.os=bK b.d.os/\bK a.p.os=bK a.p.os/\bK a.r.os=bK a.r.os/\bK (a.c.os 0)=bK (a.c.os 0)/\bK a.b.os=bK a.b.os/\bK lT=bK lT/\(sO/\sO/\sO/\sO/\True)/\bK a.l.os=bK b.l.os/\True
def afM(a:ZSm):Prop:=Cs.row 1 a.n (fun(i:Nat)=>[Value.string (a.g i)]) (@List.nil (Prod Nat (List Value)))=Cs.row 1 a.n (fun(i:Nat)=>[Value.string (a.g i)]) (@List.nil (Prod Nat (List Value)))
def afN(a:ZSm):Prop:=Cs.row 1 a.m (fun(i:Nat)=>[Value.string (a.h i)]) (@List.nil (Prod Nat (List Value)))=Cs.row 1 a.m (fun(i:Nat)=>[Value.string (a.h i)]) (@List.nil (Prod Nat (List Value)))
def afO(a:ZSm):Prop:=(afM a/\true=true)/\(afN a/\true=true)/\True
def afP(a:dF):Prop:=0=0/\0=0/\0=0/\0=0/\0=0/\0=0/\0=0/\0=0/\a.id=a.id/\a.ver=a.ver/\(0=0/\a.n=a.n)/\True
def afQ(a:dF):Prop:=0=0/\0=0/\0=0/\0=0/\0=0/\0=0/\0=0/\0=0/\a.id=a.id/\a.ver=a.ver/\sO/\True
def afR(a:ZSh)(b:dF):Prop:=(0=0/\True/\True/\True/\True/\0=0/\True/\0=0/\True/\True/\True/\True)/\(0=0/\True/\True/\True/\True)/\bK a.d.os=bK b.d.os/\bK lT=bK lT/\bK a.l.os=bK b.l.os/\True
def afS(a:Nat)(b:ZSm):Prop:=Hd (a<=b.n/\b.n=b.m/\ ∀k:Nat,k<a->b.g k=b.h k)
def afT(a:UU)(b:ZSh):Prop:=a.a.l.n=b.l.n/\ ∀q:Nat,q<a.a.l.n->[Value.string (dN.value (a.b q))]=[Value.string (dN.value (b.b q))]
def acg(x:ZSm):Prop:=
 cP (bne (x.n:Int) (x.m:Int)) (∃y:Unit,True/\x.same=false/\afO x) ((∃s:Nat,afS s x/\True/\((s:Int)=0/\True)/\(afN x/\true=true)/\(afM x/\true=true)/\True)/\(∀s:Nat,afS s x->cP (decide ((s:Int)<(x.n:Int))) ((0<=(s:Int)/\(s:Int)<(x.n:Int))/\0+s<x.n/\(0<=(s:Int)/\(s:Int)<(x.m:Int))/\0+s<x.m/\cP (Bool.not (BEq.beq (ByteArray.toList (x.g (0+s))) (ByteArray.toList (x.h (0+s))))) (∃y:Unit,True/\x.same=false/\afO x) (I64 ((s:Int)+1)/\ ∃s_1:Nat,afS s_1 x/\x.n-s_1<x.n-s/\((s_1:Int)=(s:Int)+1/\True)/\(afN x/\true=true)/\(afM x/\true=true)/\True)) (∃y:Unit,True/\x.same=true/\afO x))/\True)
theorem aiy(x:ZSm):acg x=wpF Tryz.prog [] tt (axv x) 200 6 31 (an5.args x) (hO 2 (an5.os x)) (fun v h'=>fA 2 x v h' an5.outs):=by kernel_rfl
def JZ(x:UU):Prop:=
 ∃x_1:ZSh,Hd (x_1.l.ok/\x_1.l.n<1099511627776/\qok x_1.d x_1.l x_1.b)/\(0=0/\True)/\afR x_1 x.a/\(∀y:Unit,Hd (x_1.l.n=0)->(∃y_1:Unit,Hd (x.a.l.n=0)/\(sO/\sO/\True)/\afQ x.a/\afL x.a x_1)\/ ∃y_1:Unit,Hd (x.a.l.n≠0)/\False)/\ ∀y:Unit,Hd (x_1.l.n≠0)->(∃y_1:Unit,Hd (x.a.l.n=0)/\(sO/\False/\True)/\afQ x.a/\afL x.a x_1)\/ ∃y_1:Unit,Hd (x.a.l.n≠0)/\(sO/\(0=0/\x.a.l.n=x_1.l.n)/\True)/\afQ x.a/\afT x x_1/\afL x.a x_1
theorem YG(x:UU):JZ x=eG OT (uF.N.args x) (hO 10 (dO 1 (uF.N.l x))) (fun v h'=>dA 1 x v h' uF.N.outs):=by kernel_rfl
def J3(x:UU):Prop:=
 ∃x_1:ZSh,Hd (x_1.l.ok/\x_1.l.n<1099511627776/\qok x_1.d x_1.l x_1.b)/\(0=0/\True)/\afR x_1 x.a/\(∀y:Unit,Hd (x_1.l.n=0)->(∃y_1:Unit,Hd (x.a.l.n=0)/\(sO/\sO/\True)/\afP x.a/\arh x.a x_1)\/ ∃y_1:Unit,Hd (x.a.l.n≠0)/\False)/\ ∀y:Unit,Hd (x_1.l.n≠0)->(∃y_1:Unit,Hd (x.a.l.n=0)/\(sO/\False/\True)/\afP x.a/\arh x.a x_1)\/ ∃y_1:Unit,Hd (x.a.l.n≠0)/\(sO/\(0=0/\x.a.l.n=x_1.l.n)/\True)/\afP x.a/\afT x x_1/\arh x.a x_1
theorem YH(x:UU):J3 x=eG OT (uF.P.args x) (hO 11 (dO 1 (uF.P.l x))) (fun v h'=>dA 1 x v h' uF.P.outs):=by kernel_rfl
theorem YI(x:ZSm)(hx:x.n<1099511627776):acg x:=by
 have hF: ¬(x.n=x.m/\ ∀i,i<x.n->x.g i=x.h i)->x.same=false:=fun h=>by
  cases hs:x.same with
  |true=>exact absurd (same_iff.1 hs) h
  |false=>rfl
 unfold acg
 simp only[afO,afS,afN,afM]
 simp only[aY,aU,aT,ay,aH,bP,bC,aN,aJ,au,aW,aV,bQ,bF,bG,bH,bT,bf,bJ,aZ,dZ,aG,aK,ah,aj,aA,aC,aB,aF]
 refine bg (fun h=>hF fun hh=> ?_) fun h=> ?_
 ·have:=bne_iff_ne.1 h;omega
 ·have hnm:x.n=x.m:=by have:=bne_eq_false_iff_eq.1 h;omega
  refine⟨⟨0,⟨Nat.zero_le _,hnm,fun k hk=>absurd hk (Nat.not_lt_zero k)⟩,rfl⟩,fun s hs=>bg (fun h=> ?_) fun h=> ?_⟩
  ·have h:=aQ h
   refine⟨⟨by omega,by omega⟩,by omega,⟨by omega,by omega⟩,by omega,bg (fun he=>hF fun hh=> ?_) fun he=>⟨by unfold I64;omega,s+1,⟨by omega,hnm,fun k hk=> ?_⟩,by omega,by omega⟩⟩
   ·have:=(NJ _ _).2 (hh.2 s (by omega))
    rw[this]at he;cases he
   ·by_cases e:k=s
    ·subst e;exact(NJ _ _).1 (by simpa using he)
    ·exact hs.2.2 k (by omega)
  ·have h:=aS h
   exact same_iff.2 ⟨hnm,fun i hi=>hs.2.2 i (by omega)⟩
theorem avh:bZ Tryz.prog 31 an5:=dV dB mixed .nil axv 200 6 (fun _=>rfl) (fun _=>rfl) fun x hx=>Eq.mp (aiy x) (YI x (aY.1 hx))
noncomputable def avi:WTr:=fun args h K=>match args with
 |[.lit v,b]=>wpF Tryz.prog [] tt aqV 200 6 31 [.lit v,b] h K
 |[a,.lit v]=>wpF Tryz.prog [] tt aqV 200 6 31 [a,.lit v] h K
 |args=>eG an5 args h K
theorem ari(args:List AV)(h:Heap)(K:AV->Heap->Prop)(hq:avi args h K):Sp Tryz.prog 31 args h K:=by
 unfold avi at hq
 split at hq
 ·exact xY dB mixed .nil _ _ _ _ _ _ _ hq
 ·exact xY dB mixed .nil _ _ _ _ _ _ _ hq
 ·exact bU avh _ _ _ hq
theorem LW(x:UU)(hx:uF.pre x):JZ x:=by
 have hx:=aY.1 hx
 unfold JZ
 simp only[afR,sO,afQ,afL,afT]
 simp only[aY,aU,aT,ay,aH,bP,bC,aN,aJ,au,aW,aV,bQ,bF,bG,bH,bT,bf,bJ,aZ,dZ,aG,aK,ah,aj,aA,aC,aB,aF]
 refine⟨⟨x.a.d,x.a.l,x.b⟩,hx,?_⟩
 simp only[aY,aU,aT,ay,aH,bP,bC,aN,aJ,au,aW,aV,bQ,bF,bG,bH,bT,bf,bJ,aZ,dZ,aG,aK,ah,aj,aA,aC,aB,aF]
 exact⟨fun h=> .inl h,fun h=> .inr h⟩
theorem LX(x:UU)(hx:uF.pre x):J3 x:=by
 have hx:=aY.1 hx
 unfold J3
 simp only[afR,sO,afP,arh,afT]
 simp only[aY,aU,aT,ay,aH,bP,bC,aN,aJ,au,aW,aV,bQ,bF,bG,bH,bT,bf,bJ,aZ,dZ,aG,aK,ah,aj,aA,aC,aB,aF]
 refine⟨⟨x.a.d,x.a.l,x.b⟩,hx,?_⟩
 simp only[aY,aU,aT,ay,aH,bP,bC,aN,aJ,au,aW,aV,bQ,bF,bG,bH,bT,bf,bJ,aZ,dZ,aG,aK,ah,aj,aA,aC,aB,aF]
 exact⟨fun h=> .inl h,fun h=> .inr h⟩
theorem an6:bZ Tryz.prog 30 uF.N.ctr:=dH (bU YB) 10 (fun _=>⟨rfl,rfl,rfl,rfl⟩) fun x hx=>Eq.mp (YG x) (LW x hx.1)
theorem an7:bZ Tryz.prog 30 uF.P.ctr:=dH (bU YB) 11 (fun _=>⟨rfl,rfl,rfl,rfl⟩) fun x hx=>Eq.mp (YH x) (LX x hx.1)
theorem an8:bZ Tryz.prog 30 uF.M.ctr:=wR (fun _=>⟨fun _=>rfl,fun _=>rfl,trivial⟩) an6 an7
theorem ach{n:Nat}{c:Int}(hc:0<=c){i k:Nat}(h:(iJ n n).takes c i k):i=0/\k=0:=by
 obtain⟨h1,h2,h3,h4⟩:=h
 have h1:i<n:=h1
 have cl: ∀j,j<n->(iJ n n).cls j= -1:=fun j hj=>if_pos hj
 rcases h4 with ⟨h4,_⟩|⟨h4,h5,_,h6⟩
 ·rw[cl i h1]at h4;omega
 ·refine⟨?_,h5⟩
  rcases Nat.eq_zero_or_pos i with h|h
  ·exact h
  ·exact absurd (cl 0 (by omega)) (h6 0 h)
theorem aiz{n:Nat}(hn:0<n){c:Int}: ¬ ∀i,i<(iJ n n).n->(iJ n n).cls i≠ -1/\(iJ n n).full c i:=fun h=>(h 0 hn).1 (if_pos hn)
def zB:dN:=⟨0,0,0,0,0,⟨#[]⟩,⟨#[]⟩⟩
theorem an9(n T:Nat)(d:dS):bK (ru n T d).os=bK (ru n T d).osN:=by rw[y5 rfl]
theorem LY(u:Unit):JY u:=by
 unfold JY
 simp only[avg,an4,axu,axt]
 simp only[aY,aU,aT,ay,aH,bP,bC,aN,aJ,au,aW,aV,bQ,bF,bG,bH,bT,bf,bJ,aZ,dZ,aG,aK,ah,aj,aA,aC,aB,aF]
 refine⟨⟨10,1⟩,by decide,⟨rfl,rfl⟩,fun d hd=> ?_⟩
 have g0:=afI (n:=10) (t:=0) (T:=1) (m:=0) hd.1 hd.2.1 hd.2.2.1 rfl (by decide) (by decide) (by decide) (fun _=>zB)
 refine⟨⟨ru 10 1 d,0,⟨#[]⟩,⟨#[120]⟩,zB⟩,g0.A (by decide),⟨rfl,rfl,rfl⟩,an9 _ _ _,fun y1 h1=> ?_⟩
 rcases h1 with ⟨h,_⟩|⟨_,h,_⟩|⟨hv,c1,c2,c3,c4,i,j,ht,c5⟩
 ·exact absurd (show 400<1 from h) (by decide)
 ·exact absurd h (aiz (n:=1) (by decide))
 have g1:=afH g0 (by decide) ⟨#[]⟩ ⟨#[120]⟩ zB hv ht
 rw[<-c5]at g1
 obtain⟨rfl,rfl⟩:=ach (n:=1) (show(0:Int)<=ned (1:Nat) by decide) ht
 have hn1:y1.a.l.n=1:=by rw[c5];exact YC _ _
 let B:=pushB (fun _=>zB) (ru 10 1 d).l.n ⟨ned (ByteArray.size ⟨#[120]⟩),2,(ru 10 1 d).id+1,(ru 10 1 d).ver+1,1,⟨#[]⟩,⟨#[120]⟩⟩
 refine⟨⟨y1.a,0,⟨#[]⟩,⟨#[]⟩,B 0⟩,⟨g1.A (by decide),Nat.zero_le _,fun hz=>g1.head hz⟩,⟨rfl,rfl,rfl⟩,rfl,fun y2 h2=> ?_⟩
 rcases h2 with ⟨h,_⟩|⟨_,h,_⟩|⟨_,e1,e2,e3,e4,_⟩
 ·exact absurd (hn1.symm.trans h) (by decide)
 ·exfalso
  have hp:y1.a.p=(iJ 1 1).take 0 0 0:=by rw[c5];rfl
  have h:=(h 0 (by rw[hp];show 0<1;decide)).2
  rw[hp]at h
  have:=h rfl 1 (by decide)
  cases this
 ·have e5:y1.n=5:=c4
  have e6:y2.n=7:=e4
  have e7:y2.v=⟨#[120]⟩:=e3
  rw[e5,e6,e7,c1,e2]
  exact bg (fun _=>bg (fun _=>bg (fun _=>(beq_self_eq_true _).symm) fun h=>absurd h (by decide)) fun h=>absurd h (by decide)) fun h=>absurd h (by decide)
theorem arj:fJ Tryz.prog axr:= .cons (bU amE) (.cons avf .nil)
theorem ark:bZ Tryz.prog 12 an3:=dV dB mixed arj noA 200 6 (fun _=>rfl) (fun _=>rfl) fun x _=>Eq.mp (YF x) (LY x)
def aoa:WTr:=fun args h K=>match args with
 |[]=>K (boo true) h
 |_=>False
theorem aob(args:List AV)(h:Heap)(K:AV->Heap->Prop)(hq:aoa args h K):Sp Tryz.prog 12 args h K:=by
 unfold aoa at hq
 split at hq
 ·exact GK ark () trivial h rfl rfl hq
 ·exact hq.elim
def wK(c:fD)(d:dS)(ph:Nat)(Q:fD->dS->Nat->Prop):Prop:=
 (ph=0/\c.jU=0/\Q c d 0)\/
 (ph=1/\rU.ok ⟨c,d⟩/\(∀k,k<258->c.L k=true->(∀j,j<k->c.L j=false)->Q (c.adL k) (d.flush k) 1)/\((∀j,j<258->c.L j=false)->Q c d.fence 2))\/
 (ph=2/\rU.ok ⟨c,d⟩/\Q c (d.store 1 0 64 (jw c.jU)) 3)\/
 (ph=3/\rU.ok ⟨c,d⟩/\Q c (d.flush 1) 4)\/
 (ph=4/\rU.ok ⟨c,d⟩/\Q c.fin d.fence 0)
def axw(c:fD)(lo:Nat):Prop:= ∀k,c.N k=true->lo<=k/\k<lo+8
def avj(d d0:dS)(j:Nat):Prop:=d.ok/\d.n=d0.n/\d.st<=d0.st+j/\d.fl<=d0.fl+j/\d.fe<=d0.fe+j/\ ∀m r:Nat,2<=m->r<64->d.b (m*193+r)=d0.b (m*193+r)
theorem avk{d:dS}{k m r:Nat}(hr:r<64):(d.flush k).b (m*193+r)=d.b (m*193+r):=by
 show(if k*193+128<=m*193+r/\m*193+r<k*193+192 then _ else _)=_
 exact if_neg (by omega)
theorem avl{d:dS}{m r:Nat}(hr:r<64):d.fence.b (m*193+r)=d.b (m*193+r):=by
 show(if (m*193+r)/193<d.n/\d.s ((m*193+r)/193)=true/\64<=(m*193+r)%193/\(m*193+r)%193<128 then _ else _)=_
 exact if_neg (by omega)
def dF.YJ(a:dF)(c:fD)(d:dS):dF:={a with c:=c,d:=d}
section
variable{a:dF}{T M:Nat}{b:Nat->dN}
end
def room(a:dF):Prop:=2<=a.p.n/\ ∀i,1<=i->i<a.p.n->a.p.cls i= -1
structure One (v:ByteArray) (nw:Int) (M:Nat) (b:Nat->dN) (a:dF):Prop where
 base:Base a 1 M b
 ln1:a.l.n=1
 val:(b 0).value=v
 n1:a.n=1
 now:a.c.now=nw
 note: ∃lo,axw a.c lo
structure HW (n o M:Nat) (B:Nat->dN) (LN:Nat->Nat) (a:dF):Prop where
 base:Base a 2 M (fun i=>B (o+i))
 on:o<=n
 n20:n<=40
 len:a.l.n=n-o
 lie: ∀i,i<n->ZBy.ok ⟨a.d,B i,LN i⟩
 at_: ∀i,i<n-> ∃i' j',a.p.at_ (LN i) i' j'/\a.p.cls i'=(B i).cls
 lnk: ∀i,i<n-o->a.l.get i=lk B LN (o+i)
 bag: ∀i,i<o->rC.inB ⟨a.b,a.l,LN i⟩
 bn:a.b.n=o
 br: ∀j,j<a.b.n->1<=(a.b.e j).r
 ids: ∀i j,i<n->j<n->(B i).id=(B j).id->i=j
 dn:a.d.n=42
 nk: ∀k,a.c.N k=true->k<42
 rn:a.r.now<=M
section
variable{n o M:Nat}{B:Nat->dN}{LN:Nat->Nat}{a:dF}
theorem HW.up(w:HW n o M B LN a){M':Nat}(h:M<=M'):HW n o M' B LN a:={w with base:=w.base.up h,rn:=by have:=w.rn;omega}
theorem HW.axx(w:HW n o M B LN a){i:Nat}(h:i<n):rC.inL ⟨a.b,a.l,LN i⟩\/rC.inB ⟨a.b,a.l,LN i⟩:=by
 by_cases e:i<o
 ·exact .inr (w.bag i e)
 ·refine .inl ⟨i-o,by show i-o<a.l.n;rw[w.len];omega,?_⟩
  show(a.l.get (i-o)).line=_
  rw[w.lnk (i-o) (by omega),show o+(i-o)=i by omega];rfl
theorem HW.ne(w:HW n o M B LN a){i L:Nat}(h:i<n){c:Int}(hh:Hold a L c):LN i≠L:=fun e=>by
 subst e
 exact(w.axx h).elim hh.2.1 hh.2.2
theorem HW.apart(w:HW n o M B LN a){L:Nat}{c:Int}(hh:Hold a L c){i:Nat}(hi:i<n):LN i+(B i).dJ<=L\/L+(spn c).toNat<=LN i:=by
 obtain⟨i',j',h1,h2⟩:=w.at_ i hi
 have hne:=w.ne hi hh
 obtain⟨⟨i2,j2,h3,rfl⟩,_⟩:=hh
 have:=YD w.base.pg h1 h3 (by omega)
 rw[h2]at this
 have s:=kU (B i)
 have s2:=dX (a.p.cls i2)
 omega
theorem HW.lies(w:HW n o M B LN a){d':dS}(h1:d'.ok)(h2:d'.n=a.d.n){L:Nat}{c:Int}(hh:Hold a L c)(hb: ∀m r:Nat,r<64-> ¬(L<=m/\m<L+(spn c).toNat)->d'.b (m*193+r)=a.d.b (m*193+r)): ∀i,i<n->ZBy.ok ⟨d',B i,LN i⟩:=fun i hi=>by
 obtain⟨q1,q2,q3,q4,q5⟩:=w.lie i hi
 refine⟨h1,q2,q3,by show((LN i:Nat):Int)+spn (B i).cls<=d'.n;rw[h2];exact q4,fun q hq=> ?_⟩
 have hq:q<64*(B i).dJ:=hq
 have:=w.apart hh hi
 rw[hb _ _ (by omega) (by show¬(L<=LN i+q/64/\LN i+q/64<L+(spn c).toNat);omega)]
 exact q5 q hq
theorem HW.same(w:HW n o M B LN a){d':dS}(h1:d'.ok)(h2:d'.n=a.d.n)(hb: ∀m r:Nat,2<=m->r<64->d'.b (m*193+r)=a.d.b (m*193+r)): ∀i,i<n->ZBy.ok ⟨d',B i,LN i⟩:=fun i hi=>by
 obtain⟨q1,q2,q3,q4,q5⟩:=w.lie i hi
 obtain⟨i',j',q6,_⟩:=w.at_ i hi
 have hf:=TY w.base.pg q6
 refine⟨h1,q2,q3,by show((LN i:Nat):Int)+spn (B i).cls<=d'.n;rw[h2];exact q4,fun q hq=> ?_⟩
 rw[hb _ _ (by show 2<=LN i+q/64;omega) (by omega)]
 exact q5 q hq
theorem HW.sJ(w:HW n o M B LN a){t:Nat}{v:Int}:HW n o M B LN (a.sJ t v):={w with base:=w.base.sJ}
theorem HW.write(w:HW n o M B LN a)(hM:M<=900000){L:Nat}(h:Hold a L 0){t:Nat}{f:ZFr}(hv:f.value.size<=400):(ZWr.mk a.d t f L 0 0).ok/\HW n o (M+20) B LN (a.Ry (ZWr.mk a.d t f L 0 0).d'):=by
 obtain⟨w1,w2,_,w4⟩:=w.base.write (by omega) h (t:=t) (f:=f) hv (p:=0) (by decide)
 have hn:(ZWr.mk a.d t f L 0 0).d'.n=a.d.n:=by unfold ZWr.d';rfl
 exact⟨w1,{w with base:=w2,lie:=w.lies w2.dok hn h w4,dn:=hn.trans w.dn,rn:=by have:=w.rn;show a.r.now<=_;omega}⟩
theorem HW.take(w:HW n o M B LN a){i j:Nat}(h:a.p.takes 0 i j): ∃L:Nat,(L:Int)=2+i*8+j*spn 0/\HW n o M B LN (a.UR (a.p.take 0 i j))/\Hold (a.UR (a.p.take 0 i j)) L 0/\ ¬a.p.has L:=by
 obtain⟨L,l1,_,gt,h2,h3⟩:=w.base.take (c:=0) (by decide) h
 refine⟨L,l1,{w with base:=gt,at_:=fun k hk=> ?_},h2,h3⟩
 obtain⟨i',j',q1,q2⟩:=w.at_ k hk
 obtain⟨q3,q4⟩:=take_at w.base.pg h _ _ _ q1
 exact⟨i',j',q3,q4.trans q2⟩
theorem HW.give(w:HW n o M B LN a){L:Nat}(h:Hold a L 0){i j:Nat}(hi:a.p.at_ L i j):HW n o M B LN (a.UR (a.p.give i j)):=by
 obtain⟨g1,g2⟩:=w.base.give h hi
 refine{w with base:=g1,at_:=fun k hk=> ?_}
 obtain⟨i',j',q1,q2⟩:=w.at_ k hk
 have hne:=w.ne hk h
 obtain⟨q3,q4⟩:=(YE w.base.pg hi).2 _ _ _ q1 (by omega)
 exact⟨i',j',q3,q4.trans q2⟩
theorem HW.head(w:HW n o M B LN a)(h:o<n):a.l.n≠0/\a.l.head=lk B LN o:=by
 have hl:a.l.n≠0:=by rw[w.len];omega
 exact⟨hl,by rw[TV hl,w.lnk 0 (by omega)];rfl⟩
theorem avm{c:fD}{t:Nat}{L:Int}{k:Nat}(h:(c.notes t L 1).N k=true):c.N k=true\/L=k:=by
 have h:(c.N k||decide (L+((0:Nat):Int)=(k:Nat)))=true:=h
 rcases Bool.or_eq_true _ _▸h with h|h
 ·exact .inl h
 ·have:=aQ h
  exact .inr (by omega)
theorem HW.deq(w:HW n o M B LN a)(hM:M<=900000)(ho:o<n){t L:Nat}(ht:t<2){f:ZFr}(h:Hold a L 0)(hc:f.cls=0)(hd:f.old=lk B LN o)(he:f.epoch=a.c.now):
  ((ZPb.mk a f t L).chg.okD/\(∃i j,(ZPb.mk a f t L).chg.inP i j)/\0<=a.id/\a.id<1152921504606846976/\a.n≠0)/\HW n (o+1) (M+20) B LN (ZPb.mk a f t L).chg.deq:=by
 obtain⟨hz,hh⟩:=w.head ho
 obtain⟨e1,e2⟩:=w.base.deq (by omega) ht (f:=f) h hc hz (by rw[hd,hh]) he
 have eb:(fun m=>B (o+(m+1)))=fun i=>B (o+1+i):=funext fun m=>by congr 1;omega
 have hln:(ZPb.mk a f t L).chg.deq.l=a.l.pop:=rfl
 have hbg:(ZPb.mk a f t L).chg.deq.b=a.b.put (ZPb.mk a f t L).chg.aby:=rfl
 have hpn:=axk hz
 have hbn:=w.bn
 have h4:=w.n20
 have putn:(a.b.put (ZPb.mk a f t L).chg.aby).n=o+1:=by unfold iV.put;rw[if_pos (by omega)];show a.b.n+1=_;rw[hbn]
 have pute: ∀i,(a.b.put (ZPb.mk a f t L).chg.aby).e i=if i=o then(ZPb.mk a f t L).chg.aby else a.b.e i:=fun i=>by unfold iV.put;rw[if_pos (by omega)];show(if i=a.b.n then _ else _)=_;rw[hbn]
 have aoc:(ZPb.mk a f t L).chg.aby.line=((LN o:Nat):Int):=by show f.old.line=_;rw[hd];rfl
 have hr1:1<=(ZPb.mk a f t L).chg.aby.r:=w.base.rok.2.2.1
 have hfit:=h.fits w.base
 have hDb: ∀m r:Nat,r<64-> ¬(L<=m/\m<L+(spn 0).toNat)->(ZPb.mk a f t L).chg.deq.d.b (m*193+r)=a.d.b (m*193+r):=fun m r hr hm=>by
  show(a.d.store L 0 64 _).b (m*193+r)=_
  rw[zo _ _ _ _ _ hr,if_neg (fun e=>hm (by subst e;exact⟨aX _,Nat.lt_succ_self _⟩))]
 refine⟨e1,{base:=eb▸e2,on:=ho,n20:=h4,len:=by rw[hln,hpn,w.len];omega,lie:=w.lies e2.dok rfl h hDb,at_:=w.at_,lnk:=fun i hi=> ?_,bag:=fun i hi=> ?_,bn:=putn,br:=fun j hj=> ?_,ids:=w.ids,dn:=w.dn,nk:=fun k hk=> ?_,rn:=by have:=w.rn;show a.r.now<=_;omega}⟩
 ·rw[hln,acf w.base.lok hz (by rw[w.len];omega),w.lnk (i+1) (by omega),show o+(i+1)=o+1+i by omega]
 ·show rC.inB ⟨a.b.put (ZPb.mk a f t L).chg.aby,a.l.pop,((LN i:Nat):Int)⟩
  by_cases e:i=o
  ·subst e
   exact⟨i,by show i<(a.b.put _).n;rw[putn];omega,.inl (by show((a.b.put _).e i).line=_;rw[pute,if_pos rfl,aoc])⟩
  ·obtain⟨j,hj,hk⟩:=w.bag i (by omega)
   have hj:j<a.b.n:=hj
   refine⟨j,by show j<(a.b.put _).n;rw[putn];omega,?_⟩
   show((a.b.put _).e j).line=_\/((a.b.put _).e j).anti=_
   rw[pute,if_neg (by omega)];exact hk
 ·have hj:j<(a.b.put (ZPb.mk a f t L).chg.aby).n:=hj
  rw[putn]at hj
  show 1<=((a.b.put (ZPb.mk a f t L).chg.aby).e j).r
  rw[pute]
  by_cases e:j=o
  ·rw[if_pos e];exact hr1
  ·rw[if_neg e];exact w.br j (by omega)
 ·rcases avm (c:=a.c) hk with hk|hk
  ·exact w.nk k hk
  ·have hk:(L:Int)=(k:Nat):=hk
   have:=hfit.2.1
   have e0:spn 0=1:=rfl
   have:=w.dn
   omega
end
structure ZDq where
 f:ZFr
 ph:Int
 m:Nat
 hl:Nat
 q:Nat
def HJ(a:dF)(x:ZDq):Prop:=x.f.line= -1\/(x.f.cls=0/\x.f.line=x.hl/\Hold a x.hl 0)
def FJ(n o:Nat)(B:Nat->dN)(LN:Nat->Nat)(x:ZDq):Prop:=x.q<=o/\x.q<n/\x.f.had=true/\x.f.old=lk B LN x.q
def EJ(n o0 o:Nat)(B:Nat->dN)(x:ZDq):Prop:=
 (x.f.found=true/\x.f.code=0/\o=o0+1/\o0<n/\x.f.ans=(B o0).value)\/(x.f.found=false/\x.f.code=0/\o=o0/\o=n)\/(x.f.found=false/\x.f.code=4/\x.f.ans=emp/\o=o0)
def DJ(n o0 o:Nat)(B:Nat->dN)(LN:Nat->Nat)(a:dF)(has:Int)(x:ZDq):Prop:=x.f.value.size<=400/\(
 (x.ph=0/\o=o0/\x.m=0/\has=0/\x.f.line= -1/\x.f.found=false/\x.f.code=0)\/
 (x.ph=1/\o=o0/\x.m=0/\x.f.epoch=a.c.now/\HJ a x/\x.f.found=false/\x.f.code=0)\/
 (x.ph=2/\o=o0/\HJ a x/\x.f.found=false/\x.f.code=0/\FJ n o B LN x/\x.f.piece=x.m/\(x.m:Int)<spn (B x.q).cls)\/
 (x.ph=3/\o=o0/\x.m=0/\x.f.found=false/\x.f.code=0/\FJ n o B LN x/\x.f.ans=(B x.q).value)\/
 (x.ph=4/\o=o0/\x.m=0/\x.f.cls=0/\x.f.piece=0/\x.f.line=x.hl/\Hold a x.hl 0/\x.f.found=false/\x.f.code=0/\FJ n o B LN x/\x.f.ans=(B x.q).value)\/
 (x.ph=5/\o=o0/\x.m=0/\x.f.cls=0/\x.f.line=x.hl/\Hold a x.hl 0/\x.f.found=false/\x.f.code=0/\FJ n o B LN x/\x.f.ans=(B x.q).value)\/
 ((x.ph=6\/(x.ph=7/\has=0))/\x.m=0/\EJ n o0 o B x))
def rkB(p:Int)(l:Bool)(m:Nat):Nat:=if p=0 then 14 else if p=1 then(if l then 13 else 11)else if p=2 then 8-m+(if l then 4 else 2)else if p=3 then 4 else if p=4 then 3 else 2
def rk(o:Nat)(now:Int)(x:ZDq):Nat:=if x.ph=7 then 0 else if x.ph=6 then 1 else rkB x.ph (decide (x.f.line<0)) x.m+(if 2<=x.ph/\(x.q≠o\/x.f.epoch≠now)then 10 else 0)
theorem lQ{o:Nat}{now:Int}{x:ZDq}{p:Int}(h:x.ph=p):rk o now x=if p=7 then 0 else if p=6 then 1 else rkB p (decide (x.f.line<0)) x.m+(if 2<=p/\(x.q≠o\/x.f.epoch≠now)then 10 else 0):=by
 subst h;rfl
structure NxJ (n o0 o M:Nat) (B:Nat->dN) (LN:Nat->Nat) (a:dF) (t:Nat) (x:ZDq) (m':Nat) (y:ZTs) (o':Nat) (x':ZDq):Prop where
 m:m'=x'.m
 f:y.f=x'.f
 ph:y.ph=x'.ph
 w:HW n o' (M+20) B LN y.a
 dj:DJ n o0 o' B LN y.a (y.a.r.has t) x'
 has: ∀t',t'≠t->y.a.r.has t'=a.r.has t'
 now:y.a.c.now=a.c.now
 q:x'.q=x.q\/x'.q=o
 rk:rk o' a.c.now x'+1<=rk o a.c.now x\/x.ph=7
theorem DJ.step{n o0 o M:Nat}{B:Nat->dN}{LN:Nat->Nat}{a:dF}{t:Nat}{x:ZDq}(w:HW n o M B LN a)(hM:M<=900000)(ht:t<2)(h:DJ n o0 o B LN a (a.r.has t) x):wD t (B x.q) x.m ⟨a,x.f,x.ph⟩ (fun m' y=> ∃o' x',NxJ n o0 o M B LN a t x m' y o' x'):=by
 have g:=w.base
 obtain⟨hv,h⟩:=h
 have sJ: ∀(v:Int) t',t'≠t->(a.sJ t v).r.has t'=a.r.has t':=fun v t' h=>if_neg h
 rcases h with ⟨hp,ho,hm,h1,h2,h3,h4⟩|⟨hp,ho,hm,h1,h2,h3,h4⟩|⟨hp,ho,h2,h3,h4,h5,h6,h7⟩|⟨hp,ho,hm,h3,h4,h5,h6⟩|⟨hp,ho,hm,h2,h3,h4,h5,h6,h7,h8,h9⟩|⟨hp,ho,hm,h2,h3,h4,h5,h6,h7,h8⟩|⟨hp,hm,h1⟩
 ·refine .inl ⟨hp,hm,⟨g.rok,g.cok,by rw[g.rt];exact ht,h1⟩,o,⟨{x.f with epoch:=a.c.now},1,0,x.hl,x.q⟩,rfl,rfl,rfl,w.sJ.up (by omega),⟨hv,.inr (.inl ⟨rfl,ho,rfl,rfl,.inl h2,h3,h4⟩)⟩,sJ _,rfl,.inl rfl,.inl ?_⟩
  rw[lQ hp,lQ (p:=1) rfl]
  simp only[rkB]
  have e:decide (x.f.line<0)=true:=by rw[h2];rfl
  show _+1<=_
  simp[h2]
 ·by_cases hz:o<n
  ·obtain⟨z1,z2⟩:=w.head hz
   have hsp:(0:Int)<spn (B o).cls:=by
    have:=dX (B o).cls
    obtain⟨_,q2,_⟩:=w.lie o hz
    have:spn (B o).cls≠0:=q2.1
    omega
   refine .inr (.inl ⟨hp,hm,⟨g.lok,fun h=>absurd h z1⟩,fun h=>absurd h z1,fun _=>⟨o,⟨{x.f with had:=true,old:=a.l.head,piece:=0},2,0,x.hl,o⟩,rfl,rfl,rfl,w.up (by omega),⟨hv,.inr (.inr (.inl ⟨rfl,ho,h2,h3,h4,⟨aX _,hz,rfl,z2⟩,rfl,hsp⟩))⟩,fun _ _=>rfl,rfl,.inr rfl,.inl ?_⟩⟩)
   rw[lQ hp,lQ (p:=2) rfl]
   simp only[rkB]
   by_cases hl:x.f.line<0<;>simp[hl,h1]
  ·have hzn:a.l.n=0:=by rw[w.len];omega
   have hon:o=n:=by have:=w.on;omega
   rcases h2 with h2|⟨h2,h2',h2''⟩
   ·refine .inr (.inl ⟨hp,hm,⟨g.lok,fun _=>by show x.f.line<0;omega⟩,fun _=>⟨o,⟨{x.f with had:=false,old:=qO},6,0,x.hl,x.q⟩,rfl,rfl,rfl,w.up (by omega),⟨hv,.inr (.inr (.inr (.inr (.inr (.inr ⟨.inl rfl,rfl,.inr (.inl ⟨h3,h4,ho,hon⟩)⟩)))))⟩,fun _ _=>rfl,rfl,.inl rfl,.inl ?_⟩,fun h=>absurd hzn h⟩)
    rw[lQ hp,lQ (p:=6) rfl]
    simp only[rkB]
    by_cases hl:x.f.line<0<;>simp[hl]
   ·obtain⟨⟨i,j,hij,hcl⟩,h3'⟩:=id h2''
    obtain⟨b1,b2,b3,b4,b5⟩:=id hij
    refine .inr (.inr (.inl ⟨hp,hm,i,j,⟨⟨g.pg.1,b1,b2,b3,b4⟩,g.lok,hzn⟩,h2'.trans b5,o,⟨{x.f with had:=false,old:=qO,line:= -1},6,0,x.hl,x.q⟩,rfl,rfl,rfl,(w.give h2'' hij).up (by omega),⟨hv,.inr (.inr (.inr (.inr (.inr (.inr ⟨.inl rfl,rfl,.inr (.inl ⟨h3,h4,ho,hon⟩)⟩)))))⟩,fun _ _=>rfl,rfl,.inl rfl,.inl ?_⟩))
    rw[lQ hp,lQ (p:=6) rfl]
    simp only[rkB]
    by_cases hl:x.f.line<0<;>simp[hl]
 ·obtain⟨f1,f2,f3,f4⟩:=id h5
  obtain⟨q2,q3,q4,q5,q6⟩:=w.lie x.q f2
  have hs8:=dX (B x.q).cls
  refine .inr (.inr (.inr (.inl ⟨hp,LN x.q,?_,⟨q2,q3,q4,q5,h7,q6⟩,fun hne=> ?_,fun he=> ?_⟩)))
  ·show x.f={x.f with had:=true,old:=⟨⟨#[]⟩,(B x.q).id,(B x.q).ver,(LN x.q:Int),(B x.q).cls⟩,piece:=(x.m:Int)}
   rw[show(⟨⟨#[]⟩,(B x.q).id,(B x.q).ver,(LN x.q:Int),(B x.q).cls⟩:dM)=lk B LN x.q from rfl,<-f4,<-f3,<-h6]
  ·refine⟨o,⟨{x.f with piece:=((x.m+1:Nat):Int)},2,x.m+1,x.hl,x.q⟩,rfl,rfl,rfl,w.up (by omega),⟨hv,.inr (.inr (.inl ⟨rfl,ho,h2,h3,h4,h5,rfl,?_⟩))⟩,fun _ _=>rfl,rfl,.inl rfl,.inl ?_⟩
   ·show((x.m+1:Nat):Int)<spn (B x.q).cls
    have hne:((x.m:Nat):Int)+1≠spn (B x.q).cls:=hne
    omega
   ·rw[lQ hp,lQ (p:=2) rfl]
    simp only[rkB]
    simp only[show¬(2:Int)=7 by decide,show¬(2:Int)=6 by decide,show¬(2:Int)=0 by decide,show¬(2:Int)=1 by decide,if_false,if_true]
    have hne:((x.m:Nat):Int)+1≠spn (B x.q).cls:=hne
    omega
  ·have he:((x.m:Nat):Int)+1=spn (B x.q).cls:=he
   rcases h2 with h2|⟨h2,h2',h2''⟩
   ·have e:(if x.f.line<0 then(3:Int)else 5)=3:=if_pos (by omega)
    show∃o' x',NxJ n o0 o M B LN a t x 0 ⟨a,{x.f with piece:=((x.m+1:Nat):Int),ans:=(B x.q).value},if x.f.line<0 then 3 else 5⟩ o' x'
    rw[e]
    refine⟨o,⟨{x.f with piece:=((x.m+1:Nat):Int),ans:=(B x.q).value},3,0,x.hl,x.q⟩,rfl,rfl,rfl,w.up (by omega),⟨hv,.inr (.inr (.inr (.inl ⟨rfl,ho,rfl,h3,h4,h5,rfl⟩)))⟩,fun _ _=>rfl,rfl,.inl rfl,.inl ?_⟩
    rw[lQ hp,lQ (p:=3) rfl]
    simp only[rkB]
    by_cases hb:x.q≠o\/x.f.epoch≠a.c.now<;>simp[h2,hb]<;>omega
   ·have e:(if x.f.line<0 then(3:Int)else 5)=5:=if_neg (by omega)
    show∃o' x',NxJ n o0 o M B LN a t x 0 ⟨a,{x.f with piece:=((x.m+1:Nat):Int),ans:=(B x.q).value},if x.f.line<0 then 3 else 5⟩ o' x'
    rw[e]
    refine⟨o,⟨{x.f with piece:=((x.m+1:Nat):Int),ans:=(B x.q).value},5,0,x.hl,x.q⟩,rfl,rfl,rfl,w.up (by omega),⟨hv,.inr (.inr (.inr (.inr (.inr (.inl ⟨rfl,ho,rfl,h2,h2',h2'',h3,h4,h5,rfl⟩)))))⟩,fun _ _=>rfl,rfl,.inl rfl,.inl ?_⟩
    have hl: ¬x.f.line<0:=by omega
    rw[lQ hp,lQ (p:=5) rfl]
    simp only[rkB]
    by_cases hb:x.q≠o\/x.f.epoch≠a.c.now<;>simp[hl,hb]<;>omega
 ·refine .inr (.inr (.inr (.inr (.inl ⟨hp,hm,⟨g.pg.1,hv⟩,fun hf=> ?_,fun i j htk=> ?_⟩))))
  ·refine⟨o,⟨{x.f with cls:=0,ans:=emp,code:=4},6,0,x.hl,x.q⟩,rfl,rfl,rfl,w.up (by omega),⟨hv,.inr (.inr (.inr (.inr (.inr (.inr ⟨.inl rfl,rfl,.inr (.inr ⟨h3,rfl,rfl,ho⟩)⟩)))))⟩,fun _ _=>rfl,rfl,.inl rfl,.inl ?_⟩
   rw[lQ hp,lQ (p:=6) rfl]
   simp only[rkB]
   simp;omega
  ·obtain⟨L,l1,w2,hh2,hno⟩:=w.take htk
   refine⟨o,⟨{x.f with cls:=0,line:=2+i*8+j*spn 0,piece:=0},4,0,L,x.q⟩,rfl,rfl,rfl,w2.up (by omega),⟨hv,.inr (.inr (.inr (.inr (.inl ⟨rfl,ho,rfl,rfl,rfl,l1.symm,hh2,h3,h4,h5,h6⟩))))⟩,fun _ _=>rfl,rfl,.inl rfl,.inl ?_⟩
   rw[lQ hp,lQ (p:=4) rfl]
   simp only[rkB]
   by_cases hb:x.q≠o\/x.f.epoch≠a.c.now<;>simp[hb]
 ·obtain⟨w1,w2⟩:=w.write hM h5 (t:=t) (f:=x.f) hv
  refine .inr (.inr (.inr (.inr (.inr (.inl ⟨hp,hm,h2,x.hl,?_,w1,o,⟨{x.f with piece:=0},5,0,x.hl,x.q⟩,rfl,rfl,rfl,w2,⟨hv,.inr (.inr (.inr (.inr (.inr (.inl ⟨rfl,ho,rfl,h2,h4,h5,h6,h7,h8,h9⟩)))))⟩,fun _ _=>rfl,rfl,.inl rfl,.inl ?_⟩)))))
  ·show x.f={x.f with line:=(x.hl:Int),cls:=0,piece:=((0:Nat):Int)}
   rw[<-h4,show((0:Nat):Int)=x.f.piece from h3.symm,show(0:Int)=x.f.cls from h2.symm]
  ·rw[lQ hp,lQ (p:=5) rfl]
   simp only[rkB]
   by_cases hb:x.q≠o\/x.f.epoch≠a.c.now<;>simp[hb]
 ·obtain⟨f1,f2,f3,f4⟩:=id h7
  by_cases hq:x.q=o/\x.f.epoch=a.c.now
  ·obtain⟨hq,hep⟩:=hq
   obtain⟨e1,e2⟩:=w.deq hM (by omega) ht (f:=x.f) h4 h2 (by rw[f4,hq]) hep
   refine .inr (.inr (.inr (.inr (.inr (.inr (.inl ⟨hp,hm,f3,x.hl,h3,e1,o+1,⟨{x.f with found:=true,aep:=x.f.epoch,line:= -1},6,0,x.hl,x.q⟩,rfl,rfl,rfl,e2,⟨hv,.inr (.inr (.inr (.inr (.inr (.inr ⟨.inl rfl,rfl,.inl ⟨rfl,h6,by rw[ho],by omega,by rw[<-ho,<-hq];exact h8⟩⟩)))))⟩,fun _ _=>rfl,?_,.inl rfl,.inl ?_⟩))))))
   ·show(a.c.notes t _ 1).now=a.c.now
    exact rE _ _ _ _
   ·rw[lQ hp,lQ (p:=6) rfl]
    simp only[rkB]
    simp[hq,hep]
  ·refine .inr (.inr (.inr (.inr (.inr (.inr (.inr (.inl ⟨hp,hm,f3,⟨g.cok,g.lok,by show t<a.c.t;rw[g.ct];exact ht,?_,by show 0<=x.f.line;omega⟩,o,⟨{x.f with had:=false,old:=qO,ans:=emp,epoch:=a.c.now},1,0,x.hl,x.q⟩,rfl,rfl,rfl,w.up (by omega),⟨hv,.inr (.inl ⟨rfl,ho,rfl,rfl,.inr ⟨h2,h3,h4⟩,h5,h6⟩)⟩,fun _ _=>rfl,rfl,.inl rfl,.inl ?_⟩)))))))
   ·by_cases hep:x.f.epoch=a.c.now
    ·by_cases hz:o<n
     ·refine .inr (.inr ?_)
      show a.l.head≠x.f.old
      rw[(w.head hz).2,f4]
      intro e
      have e:(B o).id=(B x.q).id:=congrArg dM.id e
      exact hq ⟨(w.ids _ _ f2 hz e.symm),hep⟩
     ·exact .inr (.inl (by show a.l.n=0;rw[w.len];omega))
    ·exact .inl (fun e=>hep e.symm)
   ·have hb:x.q≠o\/x.f.epoch≠a.c.now:=by
     by_cases e:x.q=o
     ·exact .inr fun e2=>hq ⟨e,e2⟩
     ·exact .inl e
    have hl: ¬x.f.line<0:=by omega
    rw[lQ hp,lQ (p:=1) rfl]
    simp only[rkB]
    simp[hb,hl]
 ·rcases hp with hp|⟨hp,hz⟩
  ·refine .inr (.inr (.inr (.inr (.inr (.inr (.inr (.inr (.inl ⟨hp,hm,⟨g.rok,by rw[g.rt];exact ht⟩,o,⟨x.f,7,0,x.hl,x.q⟩,rfl,rfl,rfl,w.sJ.up (by omega),⟨hv,.inr (.inr (.inr (.inr (.inr (.inr ⟨.inr ⟨rfl,if_pos rfl⟩,rfl,h1⟩)))))⟩,sJ _,rfl,.inl rfl,.inl ?_⟩))))))))
   rw[lQ hp,lQ (p:=7) rfl]
   simp
  ·refine .inr (.inr (.inr (.inr (.inr (.inr (.inr (.inr (.inr ⟨hp,hm,o,⟨x.f,7,0,x.hl,x.q⟩,rfl,rfl,hp,w.up (by omega),⟨hv,.inr (.inr (.inr (.inr (.inr (.inr ⟨.inr ⟨rfl,hz⟩,rfl,h1⟩)))))⟩,fun _ _=>rfl,rfl,.inl rfl,.inr hp⟩))))))))
theorem DJ.done{n o0 o:Nat}{B:Nat->dN}{LN:Nat->Nat}{a:dF}{has:Int}{x:ZDq}(h:DJ n o0 o B LN a has x)(hp:x.ph=7):x.m=0/\has=0/\EJ n o0 o B x:=by
 rcases h.2 with ⟨e,_⟩|⟨e,_⟩|⟨e,_⟩|⟨e,_⟩|⟨e,_⟩|⟨e,_⟩|⟨e,h1,h2⟩
 ·omega
 ·omega
 ·omega
 ·omega
 ·omega
 ·omega
 ·rcases e with e|⟨_,e⟩
  ·omega
  ·exact⟨h1,e,h2⟩
theorem avn{t:Nat}{b:dN}{n:Nat}{s:ZTs}{Q Q':Nat->ZTs->Prop}(h:wD t b n s Q)(hQ: ∀m y,Q m y->Q' m y):wD t b n s Q':=by
 rcases h with ⟨a,b,c,q⟩|⟨a,b,c,q1,q2⟩|⟨a,b,i,k,c,d,q⟩|⟨a,ln,e,c,q1,q2⟩|⟨a,b,c,q1,q2⟩|⟨a,b,c,ln,e,d,q⟩|⟨a,b,c,ln,e,d,q⟩|⟨a,b,c,d,q⟩|⟨a,b,c,q⟩|⟨a,b,q⟩
 ·exact .inl ⟨a,b,c,hQ _ _ q⟩
 ·exact .inr (.inl ⟨a,b,c,fun h=>hQ _ _ (q1 h),fun h=>hQ _ _ (q2 h)⟩)
 ·exact .inr (.inr (.inl ⟨a,b,i,k,c,d,hQ _ _ q⟩))
 ·exact .inr (.inr (.inr (.inl ⟨a,ln,e,c,fun h=>hQ _ _ (q1 h),fun h=>hQ _ _ (q2 h)⟩)))
 ·exact .inr (.inr (.inr (.inr (.inl ⟨a,b,c,fun h=>hQ _ _ (q1 h),fun i j h=>hQ _ _ (q2 i j h)⟩))))
 ·exact .inr (.inr (.inr (.inr (.inr (.inl ⟨a,b,c,ln,e,d,hQ _ _ q⟩)))))
 ·exact .inr (.inr (.inr (.inr (.inr (.inr (.inl ⟨a,b,c,ln,e,d,hQ _ _ q⟩))))))
 ·exact .inr (.inr (.inr (.inr (.inr (.inr (.inr (.inl ⟨a,b,c,d,hQ _ _ q⟩)))))))
 ·exact .inr (.inr (.inr (.inr (.inr (.inr (.inr (.inr (.inl ⟨a,b,c,hQ _ _ q⟩))))))))
 ·exact .inr (.inr (.inr (.inr (.inr (.inr (.inr (.inr (.inr ⟨a,b,hQ _ _ q⟩))))))))
def atR(h:Heap)(a:AV)(k:IntKind)(Q:Int->Prop):Prop:=match a with
 | .qE i q m j=>match h.get i with
  |some ob=>match ob.fP with
   |some (.row m' n g wr)=>bif Nat.beq m 1&&Nat.beq m' 1&&Nat.beq j 0 then(q<n/\Hg g wr q fun l=>match l with
    |[.int k' x]=>bif decide (k'=k)then Q x else False
    |_=>False)else False
   |_=>False
  |none=>False
 |_=>False
theorem axy{h:Heap}{ρ:SE.Ren}{T:Nat->Prop}{w:World}(hR:Rel h ρ T w){a:AV}{u:Value}{k:IntKind}{Q:Int->Prop}(hq:atR h a k Q)(hu:bV ρ a u):
  ∃ad x,u= .pointer (some ad)/\w.cell? ad=some (.int k x)/\Q x:=by
 unfold atR at hq
 split at hq
 ·rename_i i q m j
  split at hq
  ·rename_i ob hi
   split at hq
   ·rename_i m' n g wr hc
    cases hb:(Nat.beq m 1&&Nat.beq m' 1&&Nat.beq j 0)with
    |false=>rw[hb]at hq;exact hq.elim
    |true=>
     rw[hb]at hq;simp only[aO]at hq
     simp only[aI]at hb
     have:=ak hb.1.1;subst this
     have:=ak hb.1.2;subst this
     have:=ak hb.2;subst this
     obtain⟨hqn,hq⟩:=hq
     have hq:=xE hq
     split at hq
     ·rename_i k' x hl
      by_cases hk:k'=k
      ·subst hk
       simp only[decide_true,aO]at hq
       have hcell:cellAt h i q=some (.lit (.int k' x)):=by
        simp only[cellAt,hi,hc]
        have:=rZ (m:=1) (g:=g) (wr:=wr) (n:=n) (k:=q) (j:=0) (v:= .int k' x) hqn (by omega) (by rw[hl];rfl)
        simpa using this
       obtain⟨b,hb2,y,hy,hr⟩:=hR.cell hcell
       simp only[bV]at hr hu
       obtain⟨b',hb',rfl⟩:=hu
       obtain rfl:b'=b:=Option.some.inj (hb'.symm.trans hb2)
       subst hr
       exact⟨_,x,rfl,by simpa using hy,hq⟩
      ·simp[hk]at hq
     ·exact hq.elim
   ·exact hq.elim
  ·exact hq.elim
 ·exact hq.elim
def ZW(k:IntKind):WTr:=fun args h K=>match args with
 |[a]=>atR h a k fun x=>K (.lit (.int k x)) h
 |_=>False
theorem arl{P:Program}{f:FuncId}{k:IntKind}(args:List AV)(h:Heap)(K:AV->Heap->Prop)(hf:Ap P f (Extern.Atomic.loadT (.int k)))(hq:ZW k args h K):XSp P f args h K:=by
 obtain⟨fn,h1,h2,h3,h4,h5⟩:=hf
 unfold ZW at hq
 split at hq
 ·intro ρ T w vs hR hl
  simp only[eP]at hl
  obtain⟨u,_,hvs,hu,rfl⟩:=hl
  obtain⟨ad,x,rfl,hc,hq⟩:=axy hR hq hu
  rw[vs1 hvs]
  exact⟨_,_,_,w,ρ,run_call_load h1 h2 h3 h4 k h5 hc,fun _ _=>rfl,SE.Ren.le_refl _,aX _,hR,by simp only[bV],Keeps.refl _ _,hq⟩
 ·exact hq.elim
def axz:jY:=[(102,ZW .u64)]
structure axA where
 r:ZRd
 e:Int
def ZRd.ro(r:ZRd):List dw:=[.ro (.av [u64 r.now,.slE 1 0 1 r.t r.t]),.ro (.row 1 r.t (fun k=>[.int .u64 (r.has k)]) [])]
def ZRd.quiet(r:ZRd)(e:Int):Prop:= ∀k,k<r.t->r.has k≠0->e<r.has k
def ZRd.least(r:ZRd)(i:Nat)(z:Int)(b:Bool):Prop:=(b=false-> ∀k,k<i->r.has k=0)/\(b=true->(∃k,k<i/\r.has k≠0/\r.has k=z)/\ ∀k,k<i->r.has k≠0->z<=r.has k)
def O5:Ctr:={X:=axA,args:=fun x=>[.ptr 0 0,u64 x.e],k:=2,os:=fun x=>x.r.ro,pre:=fun x=>Hd x.r.ok,outs:=[
 {Y:=Unit,post:=fun x _=>Hd (x.r.quiet x.e),ret:=fun _ _=>boo true,m:=2,os:=fun x _=>x.r.ro},
 {Y:=Unit,post:=fun x _=>Hd (¬x.r.quiet x.e),ret:=fun _ _=>boo false,m:=2,os:=fun x _=>x.r.ro}]}
structure avo where
 i:Nat
 z:Int
 b:Bool
def aod(x:axA):FuncId->tK:=fun f=>bif Nat.beq f 214 then(fun b _ _=>bif Nat.beq b 0 then [
 {σ:=avo,fr:=fun s=>[(16,i64 s.i),(4,u64 s.z),(5,boo s.b)],ob:=fun _=>[],inv:=fun s=>Hd (s.i<=x.r.t/\x.r.least s.i s.z s.b),meas:=fun s=>x.r.t-s.i}]else [])else fun _ _ _=>[]
def YK(a:ZRd):Prop:=Cs.row 1 a.t (fun(k:Nat)=>[Value.int .u64 (a.has k)]) (@List.nil (Prod Nat (List Value)))=Cs.row 1 a.t (fun(k:Nat)=>[Value.int .u64 (a.has k)]) (@List.nil (Prod Nat (List Value)))/\true=true
def YL(a:ZRd):Prop:=a.now=a.now/\(0=0/\a.t=a.t/\a.t=a.t)/\True
def aoe(a:avo)(b:ZRd):Prop:=Hd (a.i<=b.t/\b.least a.i a.z a.b)
def arn(a:avo)(b:ZRd):Prop:=I64 ((a.i:Int)+1)/\ ∃s_1:avo,aoe s_1 b/\b.t-s_1.i<b.t-a.i/\((s_1.i:Int)=(a.i:Int)+1/\s_1.z=a.z/\s_1.b=a.b/\True)/\YK b/\YL b/\True
def avp(a:Nat)(b:ZRd):Prop:=I64 ((a:Int)+1)/\ ∃s_1:avo,aoe s_1 b/\b.t-s_1.i<b.t-a/\((s_1.i:Int)=(a:Int)+1/\s_1.z=b.has (0+a)/\s_1.b=true/\True)/\YK b/\YL b/\True
def aci(x:axA):Prop:=
 (∃s:avo,aoe s x.r/\True/\((s.i:Int)=0/\s.z=0/\s.b=false/\True)/\YK x.r/\YL x.r/\True)/\(∀s:avo,aoe s x.r->cP (decide ((s.i:Int)<(x.r.t:Int))) (cP (decide ((s.i:Int)>=(x.r.t:Int))) (arn s x.r) ((0<=(s.i:Int)/\(s.i:Int)<(x.r.t:Int))/\0+s.i<x.r.t/\cP (bne (x.r.has (0+s.i)) (0:Int)) (cP (Bool.not s.b) (avp s.i x.r) (cP (decide (x.r.has (0+s.i)<s.z)) (avp s.i x.r) (arn s x.r))) (arn s x.r))) (cP (Bool.not s.b) ((∃y:Unit,Hd (x.r.quiet x.e)/\true=true/\YL x.r/\YK x.r/\True)\/ ∃y:Unit,Hd (Not (x.r.quiet x.e))/\false=true/\YL x.r/\YK x.r/\True) ((∃y:Unit,Hd (x.r.quiet x.e)/\true=decide (s.z>x.e)/\YL x.r/\YK x.r/\True)\/ ∃y:Unit,Hd (Not (x.r.quiet x.e))/\false=decide (s.z>x.e)/\YL x.r/\YK x.r/\True)))/\True
theorem aiA(x:axA):aci x=wpF Tryz.prog axz tt (aod x) 200 5 167 (O5.args x) (hO O5.k (O5.os x)) (fun v h'=>fA O5.k x v h' O5.outs):=by kernel_rfl
theorem aiB{r:ZRd}{i:Nat}{z:Int}{b:Bool}(h:r.least i z b)(hi:r.has i=0):r.least (i+1) z b:=by
 refine⟨fun hb k hk=> ?_,fun hb=>⟨?_,fun k hk hne=> ?_⟩⟩
 ·by_cases e:k=i
  ·rw[e];exact hi
  ·exact h.1 hb k (by omega)
 ·obtain⟨k,h1,h2⟩:=(h.2 hb).1
  exact⟨k,by omega,h2⟩
 ·by_cases e:k=i
  ·rw[e]at hne;exact absurd hi hne
  ·exact(h.2 hb).2 k (by omega) hne
theorem YM{r:ZRd}{i:Nat}{z:Int}{b:Bool}(h:r.least i z b)(hi:r.has i≠0)(hz:b=true->r.has i<=z):r.least (i+1) (r.has i) true:=by
 refine⟨fun hb=>Bool.noConfusion hb,fun _=>⟨⟨i,Nat.lt_succ_self i,hi,rfl⟩,fun k hk hne=> ?_⟩⟩
 by_cases e:k=i
 ·rw[e];exact Int.le_refl _
 ·cases b with
  |false=>exact absurd (h.1 rfl k (by omega)) hne
  |true=>exact Int.le_trans (hz rfl) ((h.2 rfl).2 k (by omega) hne)
theorem aof{r:ZRd}{i:Nat}{z:Int}{b:Bool}(h:r.least i z b)(hb:b=true)(hz:z<=r.has i):r.least (i+1) z b:=by
 subst hb
 obtain⟨⟨k0,h1,h2⟩,h3⟩:=h.2 rfl
 refine⟨fun hb=>Bool.noConfusion hb,fun _=>⟨⟨k0,by omega,h2⟩,fun k hk hne=> ?_⟩⟩
 by_cases e:k=i
 ·rw[e];exact hz
 ·exact h3 k (by omega) hne
theorem O6{r:ZRd}{z e:Int}(h:r.least r.t z true):r.quiet e↔e<z:=by
 obtain⟨⟨k0,h1,h2,h2'⟩,h3⟩:=h.2 rfl
 exact⟨fun hq=>by rw[<-h2'];exact hq k0 h1 h2,fun hz k hk hne=>Int.lt_of_lt_of_le hz (h3 k hk hne)⟩
theorem aiC{r:ZRd}{z e:Int}(h:r.least r.t z false):r.quiet e:=fun k hk hne=>absurd (h.1 rfl k hk) hne
theorem YN(x:axA)(hx:x.r.ok):aci x:=by
 have ht:=hx.2.1
 unfold aci
 simp only[aoe,YK,YL,arn,avp]
 simp only[aY,aU,aT,ay,aH,bP,bC,aN,aJ,au,aW,aV,bQ,bF,bG,bH,bT,bf,bJ,aZ,dZ,aG,aK,ah,aj,aA,aC,aB,aF]
 refine⟨⟨⟨0,0,false⟩,⟨Nat.zero_le _,fun _ k hk=>absurd hk (Nat.not_lt_zero k),fun h=>Bool.noConfusion h⟩,rfl,rfl,rfl⟩,fun s hs=> ?_⟩
 obtain⟨h1,h2⟩:=hs
 refine bg (fun h=> ?_) fun h=> ?_
 ·have h:=aQ h
  have hi:I64 ((s.i:Int)+1):=by unfold I64;omega
  refine bg (fun h'=>absurd (aQ h') (by omega)) fun _=>⟨⟨by omega,by omega⟩,by omega,bg (fun hn=> ?_) fun hn=> ?_⟩
  ·have hn:=bne_iff_ne.1 hn
   refine bg (fun hb=> ?_) fun hb=>bg (fun hl=> ?_) fun hl=> ?_
   ·exact⟨hi,⟨s.i+1,x.r.has s.i,true⟩,⟨by show s.i+1<=_;omega,YM h2 hn fun e=>by rw[e]at hb;cases hb⟩,by show _-(s.i+1)<_;omega,by show((s.i+1:Nat):Int)=_;omega,rfl,rfl⟩
   ·have hl:=aQ hl
    exact⟨hi,⟨s.i+1,x.r.has s.i,true⟩,⟨by show s.i+1<=_;omega,YM h2 hn fun _=>by omega⟩,by show _-(s.i+1)<_;omega,by show((s.i+1:Nat):Int)=_;omega,rfl,rfl⟩
   ·have hl:=aS hl
    exact⟨hi,⟨s.i+1,s.z,s.b⟩,⟨by show s.i+1<=_;omega,aof h2 (by cases hsb:s.b with|true=>rfl|false=>rw[hsb]at hb;cases hb) (by show s.z<=_;omega)⟩,by show _-(s.i+1)<_;omega,by show((s.i+1:Nat):Int)=_;omega,rfl,rfl⟩
  ·have hn:x.r.has s.i=0:=by simpa using hn
   exact⟨hi,⟨s.i+1,s.z,s.b⟩,⟨by show s.i+1<=_;omega,aiB h2 hn⟩,by show _-(s.i+1)<_;omega,by show((s.i+1:Nat):Int)=_;omega,rfl,rfl⟩
 ·have h:=aS h
  have e:s.i=x.r.t:=by omega
  rw[e]at h2
  refine bg (fun hb=> .inl ?_) fun hb=> ?_
  ·cases hsb:s.b with
   |true=>rw[hsb]at hb;cases hb
   |false=>rw[hsb]at h2;exact aiC h2
  ·cases hsb:s.b with
   |false=>rw[hsb]at hb;cases hb
   |true=>
    rw[hsb]at h2
    by_cases hz:x.e<s.z
    ·exact .inl ⟨(O6 h2).2 hz,(decide_eq_true hz).symm⟩
    ·exact .inr ⟨fun hq=>hz ((O6 h2).1 hq),(decide_eq_false hz).symm⟩
theorem aro:fJ Tryz.prog axz:= .Ql (fun _ _ _ hq=>arl _ _ _ Nq hq) .nil
theorem arp:bZ Tryz.prog 167 O5:=gB dB mixed aro aod 200 5 (fun _=>rfl) (fun _=>⟨fun _=>rfl,fun _=>rfl,trivial⟩) fun x hx=>Eq.mp (aiA x) (YN x (aY.1 hx))
end Go.Proofs.YtenfleoejgjklaaGreat
end
section
namespace Go.Proofs.YtenfleoejgjklaaGreat
open Go Go.RowKit Go.Shelf
attribute [local go_sem] Oper.semAt_some
def iF.val(e:iF):Value:= .agg #[.int .i64 e.line,.int .i64 e.cls,.int .u64 e.r,.int .u64 e.d,.int .i64 e.anti]
structure J4 (n₀:Nat) (W:World) (bb:Nat) (a:Option Addr) (m cap:Nat) (e:Nat->iF):Prop where
 b:bb<n₀
 head:W.cell? ⟨bb,0,none⟩=some (.slice a m cap)
 cells: ∀k,k<m-> ∃be p,a=some ⟨be,p,none⟩/\be<n₀/\W.cell? ⟨be,p+k*5,none⟩=some (.int .i64 (e k).line)/\W.cell? ⟨be,p+k*5+1,none⟩=some (.int .i64 (e k).cls)/\
  W.cell? ⟨be,p+k*5+2,none⟩=some (.int .u64 (e k).r)/\W.cell? ⟨be,p+k*5+3,none⟩=some (.int .u64 (e k).d)/\W.cell? ⟨be,p+k*5+4,none⟩=some (.int .i64 (e k).anti)
theorem J4.below{n₀:Nat}{A B:World}(h:Below n₀ A B){bb:Nat}{a:Option Addr}{m cap:Nat}{e:Nat->iF}(hb:J4 n₀ A bb a m cap e):J4 n₀ B bb a m cap e:=
 ⟨hb.b,(h.cell (p:=⟨bb,0,none⟩) hb.b).trans hb.head,fun k hk=>by
  obtain⟨be,p,h1,h2,c0,c1,c2,c3,c4⟩:=hb.cells k hk
  exact⟨be,p,h1,h2,(h.cell (p:=⟨be,_,none⟩) h2).trans c0,(h.cell (p:=⟨be,_,none⟩) h2).trans c1,(h.cell (p:=⟨be,_,none⟩) h2).trans c2,(h.cell (p:=⟨be,_,none⟩) h2).trans c3,(h.cell (p:=⟨be,_,none⟩) h2).trans c4⟩⟩
theorem J4.grow{n₀ n₁:Nat}{W:World}{bb:Nat}{a:Option Addr}{m cap:Nat}{e:Nat->iF}(h:J4 n₀ W bb a m cap e)(hn:n₀<=n₁):J4 n₁ W bb a m cap e:=
 ⟨Nat.lt_of_lt_of_le h.b hn,h.head,fun k hk=>by
  obtain⟨be,p,h1,h2,hc⟩:=h.cells k hk
  exact⟨be,p,h1,Nat.lt_of_lt_of_le h2 hn,hc⟩⟩
set_option maxRecDepth 100000 in
set_option maxHeartbeats 1000000 in
theorem aog(F:Fence)(n:Nat)(hf:F.fn 42)(hro:F.round=none)(bb m cap:Nat)(a:Option Addr)(W:World)(hc:W.cell? ⟨bb,0,none⟩=some (.slice a m cap)):
  CallsIn F n Tryz.prog 42 #[.pointer (some ⟨bb,0,none⟩)] W fun e W'=>e= .returned (.int .i64 m)/\W'=W:=by
 refine callsIn_of_wp Tryz.func42 rfl hf ?_ hro
 simp only[Tryz.ntmps42,List.size_toArray,List.length_cons,List.length_nil,Nat.reduceAdd,Nat.reduceSub,Array.replicate_succ,Array.replicate_zero,List.push_toArray,List.append_toArray,List.nil_append,List.cons_append]
 gi_wp2
 go_ret
 exact⟨rfl,rfl⟩
set_option maxRecDepth 100000 in
set_option maxHeartbeats 1000000 in
theorem Ua(F:Fence)(n:Nat)(hf:F.fn 166)(hro:F.round=none)(v:Value)(hv:v.oneCell'=true)(W:World):
  CallsIn F n Tryz.prog 166 #[v] W fun e W'=>e= .returned (.func (.func 213) #[] #[.pointer (some ⟨W.heap.size,0,none⟩)])/\W'=W.alloc (.cells #[v] 87):=by
 refine callsIn_of_wp Tryz.func166 rfl hf ?_ hro
 simp only[Tryz.ntmps166,List.size_toArray,List.length_cons,List.length_nil,Nat.reduceAdd,Nat.reduceSub,Array.replicate_succ,Array.replicate_zero,List.push_toArray,List.append_toArray,List.nil_append,List.cons_append]
 gi_wp2
 go_ret
 exact⟨rfl,rfl⟩
def upto(k:Nat):List Nat:=List.range k
theorem upto_succ(k:Nat):upto (k+1)=upto k++[k]:=by simp[upto,List.range_succ]
theorem upto_length(k:Nat):(upto k).length=k:=by simp[upto]
set_option maxRecDepth 100000 in
set_option maxHeartbeats 4000000 in
theorem arq(F:Fence)(n:Nat)(hf:F.fn 213)(hL:F.fn 42)(hro:F.round=none)(hn:1<=n)(l Bn n₀ bb:Nat)(a:Option Addr)(m cap:Nat)(e:Nat->iF)(hm:m<=258)(J Jx:List Nat->World->Prop)
  (hY: ∀pre x W,J pre W->pre.length<m->YieldAt F (n-1) Tryz.prog l #[.int .i64 (x:Nat),(e x).val] W fun en W'=>
   (en= .returned (.bool true)/\J (pre++[x]) W'/\Below n₀ W W')\/(en= .returned (.bool false)/\Jx (pre++[x]) W'))
  (W:World) (hBl:Bn<n₀) (hBn:W.cell? ⟨Bn,0,none⟩=some (.pointer (some ⟨bb,0,none⟩))) (hb:J4 n₀ W bb a m cap e) (h0:J [] W):
  CallsIn F n Tryz.prog 213 #[.func (.yield l) #[] #[],.pointer (some ⟨Bn,0,none⟩)] W fun en W'=>(∃v,en= .returned v)/\
   ((∃ys,ys=upto m/\J ys W')\/(∃pre,(∃k,k<=m/\pre=upto k)/\Jx pre W')):=by
 have hhead:=hb.head
 refine callsIn_of_wp Tryz.func213 rfl hf ?_ hro
 simp only[Tryz.ntmps213,List.size_toArray,List.length_cons,List.length_nil,Nat.reduceAdd,Nat.reduceSub,Array.replicate_succ,Array.replicate_zero,List.push_toArray,List.append_toArray,List.nil_append,List.cons_append]
 gi_wp2_with (gi_at_call 42;refine(aog F (n-1) hL hro bb m cap a W hhead).mono ?_;rintro en w' ⟨rfl,hw⟩;replace hw:=hw.symm;subst hw)
 gi_loopw [6] (fun i wr=> ∃k:Nat,k<=m/\i= .int .i64 k/\J (upto k) wr/\Below n₀ W wr)
  (fun i _=>m-(intOf i).toNat)
 case atStart=>exact⟨0,Nat.zero_le _,rfl,h0,Below.refl _ _⟩
 case round=>
  obtain⟨k,hk,rfl,hJs,hnx⟩:=hrel
  have hbx:=hb.below hnx
  have hBx:wr.cell? ⟨Bn,0,none⟩=some (.pointer (some ⟨bb,0,none⟩)):=(hnx.cell (p:=⟨Bn,0,none⟩) hBl).trans hBn
  have hhx:=hbx.head
  by_cases hlt:k<m
  ·obtain⟨fn,tmps,assign,body,hy,hR⟩:=hY _ k wr hJs (by rw[upto_length];exact hlt)
   obtain⟨be,p,rfl,hbl,c0,c1,c2,c3,c4⟩:=hbx.cells k hlt
   unfold iF.val at hy
   gi_wp2
   refine hR.mono ?_
   rintro en W3 (⟨rfl,hJ3,hk3⟩|⟨rfl,hJx3⟩)
   ·gi_wp2
    go_roundw
    case rel=>exact⟨k+1,by omega,by simp,by rw[upto_succ];exact hJ3,hnx.trans hk3⟩
    case measure=>simp[intOf];omega
   ·gi_wp2
    refine bodyPost_ret (results_none rfl _ _ _) rfl ?_
    exact⟨⟨_,rfl⟩,.inr ⟨_,⟨k+1,by omega,(upto_succ _).symm⟩,hJx3⟩⟩
  ·obtain rfl:k=m:=by omega
   gi_wp2
   go_end0
   exact⟨⟨_,rfl⟩,.inl ⟨_,rfl,hJs⟩⟩
theorem aiD(F:Fence)(n:Nat)(hf:F.fn 213)(hL:F.fn 42)(hro:F.round=none)(hn:1<=n)(Bn n₀ bb:Nat)(a:Option Addr)(m cap:Nat)(e:Nat->iF)(hm:m<=258)(w:World)(hBl:Bn<n₀)(hn₀:n₀<=w.heap.size)
  (hBn:w.cell? ⟨Bn,0,none⟩=some (.pointer (some ⟨bb,0,none⟩))) (hb:J4 n₀ w bb a m cap e):
  SeqStopsK F n Tryz.prog 213 #[.pointer (some ⟨Bn,0,none⟩)] (fun x:Nat=> #[.int .i64 (x:Nat),(e x).val]) (Below n₀) (fun ys=>ys=upto m) (fun pre=> ∃k,k<=m/\pre=upto k) m w:=fun l J Jx W hW _ _ hY h0=>
 arq F n hf hL hro hn l Bn n₀ bb a m cap e hm J Jx hY W hBl ((hW.cell (p:=⟨Bn,0,none⟩) (Nat.lt_of_lt_of_le hBl hn₀)).trans hBn) (hb.below (hW.mono hn₀)) h0
attribute [local go_sem] Oper.semAt_some
def asI(m:Nat)(rd:Nat->Prop)(v:Int):Prop:=(v= -1/\ ∀k,k<m-> ¬rd k)\/ ∃k,k<m/\v=(k:Int)/\rd k/\ ∀j,j<k-> ¬rd j
def acj(ra:Addr)(q:Int->Prop)(w:World):Prop:= ∀(x:Int) (W:World),Below w.heap.size w W->Calls Tryz.prog 167 #[.pointer (some ra),.int .u64 x] W fun en W'=>(∃b,en= .returned (.bool b)/\(b=true↔q x))/\Below W.heap.size W W'
theorem qC{B:Nat}{W W':World}(h:Below W.heap.size W W'):KeepsFrom B W W':=⟨h.size,fun k o _ hk _=>(h.block k (Array.getElem?_eq_some_iff.1 hk).1).trans hk⟩
set_option maxRecDepth 100000 in
set_option maxHeartbeats 8000000 in
theorem aoh(w:World)(bb:Nat)(ra:Addr)(a:Option Addr)(m cap:Nat)(e:Nat->iF)(d:Int)(q:Int->Prop)(hb:J4 w.heap.size w bb a m cap e)(hm:m<=258)(hq:acj ra q w):
  CallsIn Fence.wide 7 Tryz.prog 109 #[.pointer (some ⟨bb,0,none⟩),.pointer (some ra),.int .u64 d] w fun en W'=>
   (∃v,en= .returned (.int .i64 v)/\asI m (fun k=>(e k).d<=d/\q (e k).r) v)/\Below w.heap.size w W':=by
 refine callsIn_of_wp_marks Tryz.func109 rfl trivial ?_ rfl
 simp only[Tryz.ntmps109,List.size_toArray,List.length_cons,List.length_nil,Nat.reduceAdd,Nat.reduceSub,Array.replicate_succ,Array.replicate_zero,List.push_toArray,List.append_toArray,List.nil_append,List.cons_append]
 gi_wp2_with (refine⟨trivial,?_⟩;gi_at_call 166;refine(Ua Fence.wide _ trivial rfl _ rfl _).mono ?_;rintro en w' ⟨rfl,rfl⟩)
 have bR:=(((Boxed.new w 66 (.pointer (some ra))).alloc (.cells #[.int .u64 d] 31)).alloc (.cells #[.int .i64 0] 3)).alloc (.cells #[.pointer (some ⟨bb,0,none⟩)] 87)
 have bD:=((Boxed.new (w.alloc (.cells #[.pointer (some ra)] 66)) 31 (.int .u64 d)).alloc (.cells #[.int .i64 0] 3)).alloc (.cells #[.pointer (some ⟨bb,0,none⟩)] 87)
 have bI:=(Boxed.new ((w.alloc (.cells #[.pointer (some ra)] 66)).alloc (.cells #[.int .u64 d] 31)) 3 (.int .i64 0)).alloc (.cells #[.pointer (some ⟨bb,0,none⟩)] 87)
 have bB:=Boxed.new (((w.alloc (.cells #[.pointer (some ra)] 66)).alloc (.cells #[.int .u64 d] 31)).alloc (.cells #[.int .i64 0] 3)) 87 (.pointer (some ⟨bb,0,none⟩))
 simp only[World.size_alloc]at bR bD bI bB
 have hB0:Below w.heap.size w ((((w.alloc (.cells #[.pointer (some ra)] 66)).alloc (.cells #[.int .u64 d] 31)).alloc (.cells #[.int .i64 0] 3)).alloc (.cells #[.pointer (some ⟨bb,0,none⟩)] 87)):=
  ((((Below.refl _ w).alloc (aX _) _).alloc (by simp) _).alloc (by simp;omega) _).alloc (by simp;omega) _
 have hsz:((((w.alloc (.cells #[.pointer (some ra)] 66)).alloc (.cells #[.int .u64 d] 31)).alloc (.cells #[.int .i64 0] 3)).alloc (.cells #[.pointer (some ⟨bb,0,none⟩)] 87)).heap.size=w.heap.size+4:=by simp
 obtain⟨W0,hW0⟩: ∃W0,(((w.alloc (.cells #[.pointer (some ra)] 66)).alloc (.cells #[.int .u64 d] 31)).alloc (.cells #[.int .i64 0] 3)).alloc (.cells #[.pointer (some ⟨bb,0,none⟩)] 87)=W0:=⟨_,rfl⟩
 rw[hW0]at bR bD bI bB hB0 hsz ⊢
 clear hW0
 refine wpIn_rangeFunc_ownH rfl (by omega) (gf:=213) (lb:= #[.pointer (some ⟨w.heap.size+1+1+1,0,none⟩)]) rfl trivial (enters_of Tryz.func213 (by kernel_rfl) rfl)
  (aiD Fence.wide _ trivial trivial rfl (by omega) (w.heap.size+1+1+1) W0.heap.size bb a m cap e hm W0 (by omega) (aX _) bB.cell ((hb.below hB0).grow (by omega))) belowK_t (belowK_b (aX _)) (Below.refl _ _) (fun _=>rfl)
  (fun pre W=>((Boxed W w.heap.size 66 (.pointer (some ra))/\Boxed W (w.heap.size+1) 31 (.int .u64 d))/\(Boxed W (w.heap.size+1+1) 3 (.int .i64 0)/\Boxed W (w.heap.size+1+1+1) 87 (.pointer (some ⟨bb,0,none⟩))))/\(Below w.heap.size w W/\ ∀x,x∈pre-> ¬((e x).d<=d/\q (e x).r)))
  (fun c pre W=>(c= .ret/\ ∃ini x,pre=ini++[x]/\(∀y,y∈ini-> ¬((e y).d<=d/\q (e y).r))/\((e x).d<=d/\q (e x).r)/\Boxed W (w.heap.size+1+1) 3 (.int .i64 (x:Nat)))/\Below w.heap.size w W)
  (OwnFrom.and (OwnFrom.and (OwnFrom.and (Own.from (boxed_own _ _ _) _) (Own.from (boxed_own _ _ _) _)) (OwnFrom.and (Own.from (boxed_own _ _ _) _) (Own.from (boxed_own _ _ _) _))) (OwnFrom.and (ownFrom_below (aX _) (by omega)) (ownFrom_pure _ _)))
  (fun c=>OwnFrom.and (Own.from (fun s A B row hs hg hr=>by obtain⟨hc,ini,x,e1,e2,e3,e4⟩:=hs;exact⟨hc,ini,x,e1,e2,e3,boxed_own _ 3 (fun(_:Unit)=>Value.int .i64 (x:Nat)) () A B row e4 hg hr⟩) _) (ownFrom_below (aX _) (by omega)))
  ⟨⟨⟨bR,bD⟩,bI,bB⟩,hB0,fun x hx=>by cases hx⟩
  (fun x a' W=> ∃Bx,W0.heap.size<=Bx/\W.heap[Bx]? =some (.cells #[.int .i64 (e x).line,.int .i64 (e x).cls,.int .u64 (e x).r,.int .u64 (e x).d,.int .i64 (e x).anti] 70 (0,0))/\
   a'={tmps:= #[.pointer (some ⟨bb,0,none⟩),.pointer (some ra),.int .u64 d,undef,.pointer (some ⟨w.heap.size,0,none⟩),.pointer (some ⟨w.heap.size+1,0,none⟩),.pointer (some ⟨w.heap.size+1+1,0,none⟩),.int .i64 (x:Nat),.pointer (some ⟨Bx,0,none⟩),.pointer (some ra),.bool false,.pointer (some ⟨bb,0,none⟩),.func (.func 213) #[] #[.pointer (some ⟨w.heap.size+1+1+1,0,none⟩)],.int .i64 (x:Nat),(e x).val,undef,undef,undef,undef,undef,undef,undef,undef,undef,undef,undef],defers:=[]})
  (fun x a' _ X Y row hs hg hr=>by obtain⟨Bx,h1,h2,h3⟩:=hs;exact⟨Bx,h1,(grownBy_keeps_cells hg (fun r e=>(hr r e).2) h2 rfl).trans h2,h3⟩)
  ?assign ?body ?done ?stop
 case assign=>
  rintro l pre x W K ⟨⟨⟨bR1,bD1⟩,bI1,bB1⟩,hB1,hP⟩ hK
  unfold iF.val
  gi_wp2
  have hWs:W0.heap.size<=W.heap.size:=by have:=bB1.lt;omega
  exact hK _ _ ((KeepsOthers.alloc _ _).from _) ((Below.refl _ W).alloc hWs _) ⟨⟨⟨bR1.alloc _,bD1.alloc _⟩,bI1.alloc _,bB1.alloc _⟩,hB1.alloc hB1.size _,hP⟩ ⟨W.heap.size,hWs,World.alloc_heap_new _ _,rfl⟩
 case body=>
  rintro l pre x a' W hl ⟨r,hr⟩ ⟨⟨⟨bR1,bD1⟩,bI1,bB1⟩,hB1,hP⟩ ⟨Bx,hBx,bX,rfl⟩ hlt
  have cR:=bR1.cell
  have cD:=bD1.cell
  have cI:=bI1.cell
  have fI:=bI1.frozen
  have hmx:Tryz.prog.follows .mixedOrders=true:=by kernel_rfl
  have x2:W.cell? ⟨Bx,2,none⟩=some (.int .u64 (e x).r):=by simp[World.cell?,bX]
  have x3:W.cell? ⟨Bx,3,none⟩=some (.int .u64 (e x).d):=by simp[World.cell?,bX]
  have hWs:W0.heap.size<=W.heap.size:=by have:=bB1.lt;omega
  gi_wp2
  ·have hle:(e x).d<=d:=by assumption
   refine⟨trivial,?_⟩
   refine(CallsIn.inRound l (callsIn_wide.2 (hq (e x).r W hB1))).mono ?_
   rintro en w' ⟨⟨b,rfl,hb'⟩,hk⟩
   have cI':=(hk.cell (p:=⟨w.heap.size+1+1,0,none⟩) bI1.lt).trans cI
   have fI':=(World.frozen?_of_block (a:=⟨w.heap.size+1+1,0,none⟩) (hk.block _ bI1.lt)).trans fI
   have bI2:Boxed w' (w.heap.size+1+1) 3 (.int .i64 0):=(hk.block _ bI1.lt).trans bI1
   have bR2:Boxed w' w.heap.size 66 (.pointer (some ra)):=(hk.block _ bR1.lt).trans bR1
   have bD2:Boxed w' (w.heap.size+1) 31 (.int .u64 d):=(hk.block _ bD1.lt).trans bD1
   have bB2:Boxed w' (w.heap.size+1+1+1) 87 (.pointer (some ⟨bb,0,none⟩)):=(hk.block _ bB1.lt).trans bB1
   have hk0:Below W0.heap.size W w':=hk.mono hWs
   have hk1:Below w.heap.size w w':=hB1.trans (hk.mono hB1.size)
   cases b with
   |true=>
    have hqx:q (e x).r:=hb'.1 rfl
    clear hb'
    gi_wp2
    exact⟨(qC hk).trans ((KeepsOthers.setCell _ _ _).from _),⟨rfl,pre,x,rfl,hP,⟨hle,hqx⟩,bI2.set _⟩,hk1.setCell (p:=⟨w.heap.size+1+1,0,none⟩) (by show w.heap.size<=w.heap.size+1+1;omega) _⟩
   |false=>
    have hqx: ¬q (e x).r:=fun h=>Bool.noConfusion (hb'.2 h)
    clear hb'
    gi_wp2
    refine⟨qC hk,hk0,⟨⟨bR2,bD2⟩,bI2,bB2⟩,hk1,fun y hy=> ?_⟩
    rcases List.mem_append.1 hy with hy|hy
    ·first|exact hP y hy|exact fun h1 h2=>hP y hy ⟨h1,h2⟩
    ·rw[List.mem_singleton.1 hy]
     first|exact fun h=>hqx h.2|exact fun _ h=>hqx h
  ·refine⟨trivial,?_⟩
   have hle:d<(e x).d:=by omega
   gi_wp2
   refine⟨KeepsFrom.refl _ _,Below.refl _ _,⟨⟨bR1,bD1⟩,bI1,bB1⟩,hB1,fun y hy=> ?_⟩
   rcases List.mem_append.1 hy with hy|hy
   ·first|exact hP y hy|exact fun h1 h2=>hP y hy ⟨h1,h2⟩
   ·rw[List.mem_singleton.1 hy]
    first|exact fun h=>absurd h.1 (by omega)|exact fun h _=>absurd h (by omega)
 case done=>
  rintro D ys W hD rfl ⟨⟨⟨bR1,bD1⟩,bI1,bB1⟩,hB1,hP⟩ hK
  have cI:=bI1.cell
  have fI:=bI1.frozen
  gi_wp2
  have hK':=(KeepsOthers.setCell W ⟨w.heap.size+1+1,0,none⟩ (.int .i64 (-1))).same D _ hK rfl
  refine⟨by simp,.inl ⟨_,_,rfl,run_takeDeferred hK',?_⟩⟩
  have hc5:=cell_kept (World.cell?_setCell_same' W ⟨w.heap.size+1+1,0,none⟩ (.int .i64 (-1)) (by rw[cI];rfl)) (grownBy_putObj' _ D (.deferred none)) (fun r e=>by cases e;exact⟨_,hK',rfl⟩)
  refine⟨.int .i64 (-1),?_,⟨_,rfl,.inl ⟨rfl,fun k hk=>hP k (by simp[upto,hk])⟩⟩,(hB1.setCell (p:=⟨w.heap.size+1+1,0,none⟩) (by show w.heap.size<=w.heap.size+1+1;omega) _).trans (belowK_b (w:=w) (aX _) _ D _ _ (by omega) hK' rfl rfl)⟩
  simp[results,Tryz.f109,go_sem,hc5]
 case stop=>
  rintro D c pre W hD ⟨k,hk,rfl⟩ ⟨⟨rfl,ini,x,e1,e2,e3,bI1⟩,hB⟩ hK
  have cI:=bI1.cell
  gi_wp2
  refine⟨by simp,.inl ⟨_,_,rfl,run_takeDeferred hK,?_⟩⟩
  have hc5:=cell_kept cI (grownBy_putObj' _ D (.deferred none)) (fun r e=>by cases e;exact⟨_,hK,rfl⟩)
  obtain⟨k',rfl⟩: ∃k',k=k'+1:=by
   cases k with
   |zero=>simp[upto]at e1
   |succ k'=>exact⟨k',rfl⟩
  rw[upto_succ]at e1
  obtain⟨rfl,e5⟩:=List.append_inj' e1 rfl
  obtain rfl:k'=x:=by simpa using e5
  refine⟨.int .i64 (k':Int),?_,⟨_,rfl,.inr ⟨k',by omega,rfl,e3,fun j hj=>e2 j (by simp[upto,hj])⟩⟩,hB.trans (belowK_b (w:=w) (aX _) W D _ _ (by omega) hK rfl rfl)⟩
  simp[results,Tryz.f109,go_sem,hc5]
end Go.Proofs.YtenfleoejgjklaaGreat
end
section
namespace Go.Proofs.YtenfleoejgjklaaGreat
open Go SE
theorem aoi{h:Heap}{ρ:SE.Ren}{T:Nat->Prop}{w w':World}(hR:Rel h ρ T w)(hb:Go.RowKit.Below w.heap.size w w'):Rel h ρ T w'/\Keeps T w w':=by
 obtain⟨S,h1,h2,h3,h4,h5⟩:=hR
 have hlt: ∀b,¬T b->b<w.heap.size:=fun b hbT=>by
  rcases Nat.lt_or_ge b w.heap.size with h'|h'
  ·exact h'
  ·exact(hbT (h5 b h')).elim
 refine⟨⟨S,fun i o hi=> ?_,h2,fun i o b hi hS=>⟨(h3 i o b hi hS).1,Nat.lt_of_lt_of_le (h3 i o b hi hS).2 hb.size⟩,h4,fun b h=>h5 b (Nat.le_trans hb.size h)⟩,⟨hb.size,hb.os,hb.tape,hb.output,fun b hbT=>hb.block b (hlt b hbT)⟩⟩
 obtain⟨a,ha,hh⟩:=h1 i o hi
 refine⟨a,ha,hh.stays fun b hbS=>hb.block b ?_⟩
 rcases hbS with hbS|hbS
 ·exact(h3 i o b hi hbS).2
 ·exact hlt b hbS
structure D6 where
 b:iV
 r:ZRd
 d:Int
def D6.rd(x:D6)(k:Nat):Prop:=(x.b.e k).d<=x.d/\x.r.quiet (x.b.e k).r
def D6.l(x:D6):List PO:=[.m x.b.os,.m x.r.os]
noncomputable def D6.os(x:D6):List dw:=[.abs (bK x.b.os),.abs (bK x.r.os)]
noncomputable def YO:Ctr:={X:=D6,args:=fun x=>[.ptr 0 0,.ptr 1 0,u64 x.d],k:=2,os:=D6.os,pre:=fun x=>Hd (x.b.ok/\x.r.ok),outs:=[
 {Y:=Unit,post:=fun x _=>Hd (∀k,k<x.b.n-> ¬x.rd k),ret:=fun _ _=>i64 (-1),m:=2,os:=fun x _=>x.os},
 {Y:=Nat,post:=fun x k=>Hd (k<x.b.n/\x.rd k/\ ∀j,j<k-> ¬x.rd j),ret:=fun _ k=>i64 k,m:=2,os:=fun x _=>x.os}]}
structure ars (w:World) (a:SE.Loc) (r:ZRd):Prop where
 base:a.base=0
 lt:a.blk<w.heap.size
 ar: ∃arr ty bh p cap,w.heap[a.blk]? =some (.cells arr ty (0,0))/\arr[0]? =some (.int .u64 r.now)/\arr[1]? =some (.slice (some ⟨bh,p,none⟩) r.t cap)/\cap=r.t/\p=0/\bh<w.heap.size/\
  ∃ar2 ty2,w.heap[bh]? =some (.cells ar2 ty2 (0,0))/\ ∀k,k<r.t->ar2[k]? =some (.int .u64 (r.has k))
theorem ars.quiet{w:World}{a:SE.Loc}{r:ZRd}(h:ars w a r)(hr:r.ok):acj ⟨a.blk,0,none⟩ r.quiet w:=fun x W hW=>by
 obtain⟨h0,hlt,arr,ty,bh,p,cap,q1,q2,q3,rfl,rfl,q4,ar2,ty2,q5,q6⟩:=h
 have q1:=(hW.block _ hlt).trans q1
 have q5:=(hW.block _ q4).trans q5
 have hlt:=Nat.lt_of_lt_of_le hlt hW.size
 have q4:=Nat.lt_of_lt_of_le q4 hW.size
 let ρ:SE.Ren:=fun i=>if i=0 then some a else if i=1 then some ⟨bh,0,0⟩else none
 let T:Nat->Prop:=fun b=>W.heap.size<=b
 have hR:Rel (hO 2 r.ro) ρ T W:=by
  refine⟨fun _ _=>False,fun i o hi=> ?_,fun _ _ _ _ _ _ _ _ h _=>h.elim,fun _ _ _ _ h=>h.elim,fun i hi=> ?_,fun b hb=>hb⟩
  ·rw[ase (n:=2) (os:=r.ro) rfl]at hi
   match i,hi with
   |0,hi=>
    cases hi
    refine⟨a,rfl,.inr ⟨fun hT=>by have hT:W.heap.size<=a.blk:=hT;omega,arr,ty,(0,0),q1,fun k v hk=> ?_⟩⟩
    rw[h0,ay]
    match k,hk with
    |0,hk=>cases hk;exact⟨_,q2,by show bV ρ (.lit _) _;simp only[bV]⟩
    |1,hk=>cases hk;exact⟨_,q3,by simp only[bV];exact⟨⟨bh,0,0⟩,0,rfl,rfl,aX _,fun _=>rfl⟩⟩
    |k+2,hk=>cases hk
   |1,hi=>
    cases hi
    refine⟨⟨bh,0,0⟩,rfl,.inr ⟨fun hT=>by have hT:W.heap.size<=bh:=hT;omega,ar2,ty2,(0,0),q5,fun k v hk=> ?_⟩⟩
    have hk2:=Cs.fB hk
    have hk2:k<r.t:=by simpa[Cs.size]using hk2
    have:=rZ (m:=1) (g:=fun k=>[Value.int .u64 (r.has k)]) (wr:=[]) (n:=r.t) (k:=k) (j:=0) (v:= .int .u64 (r.has k)) hk2 (by omega) rfl
    rw[Nat.mul_one,aH]at this
    rw[this]at hk
    cases hk
    exact⟨_,by show ar2[0+k]? =_;rw[ay];exact q6 k hk2,by simp only[bV]⟩
   |i+2,hi=>cases hi
  ·have hi:2<=i:=hi
   show(if i=0 then some a else if i=1 then _ else none)=none
   rw[if_neg (by omega),if_neg (by omega)]
 have hs:=(arp ⟨r,x⟩ (aY.2 hr)).2
 refine(hs.2 ρ T W #[.pointer (some ⟨a.blk,0,none⟩),.int .u64 x] hR (by
  show eP ρ [.ptr 0 0,u64 x] _
  simp only[eP,bV,u64]
  exact⟨_,_,rfl,⟨a,rfl,by rw[h0]⟩,_,_,rfl,rfl,rfl⟩)).mono ?_
 rintro en w' ⟨ρ2,v,u,h',_,_,_,hv,rfl,hk,ho⟩
 refine⟨?_,hk.os,hk.tape,hk.output,hk.size,fun k hk'=>hk.block k (fun hT=>by have hT:W.heap.size<=k:=hT;omega)⟩
 rcases qY ho with ⟨_,hp,rfl,_⟩|⟨_,hp,rfl,_⟩
 ·simp only[bV,boo]at hv
  exact⟨true,by rw[hv],fun _=>aY.1 hp,fun _=>rfl⟩
 ·simp only[bV,boo]at hv
  exact⟨false,by rw[hv],fun h=>Bool.noConfusion h,fun h=>absurd h (aY.1 hp)⟩
theorem aiE(w:World)(bb:Nat)(ra:Addr)(a:Option Addr)(m cap:Nat)(e:Nat->iF)(d:Int)(q:Int->Prop)(hb:J4 w.heap.size w bb a m cap e)(hm:m<=258)(hq:acj ra q w):
  Calls Tryz.prog 109 #[.pointer (some ⟨bb,0,none⟩),.pointer (some ra),.int .u64 d] w fun en W'=>
   (∃v,en= .returned (.int .i64 v)/\asI m (fun k=>(e k).d<=d/\q (e k).r) v)/\Go.RowKit.Below w.heap.size w W':=callsIn_wide.1 (aoh w bb ra a m cap e d q hb hm hq)
theorem YP{x:D6}{ρ:SE.Ren}{T:Nat->Prop}{w:World}{vs:Array Value}(hR:Rel (hO 2 x.os) ρ T w)(hl:eP ρ [.ptr 0 0,.ptr 1 0,u64 x.d] vs.toList)(hx:x.b.ok/\x.r.ok)
  {ρ':SE.Ren} (hle:ρ.le ρ') {a0 a1:SE.Loc} (h0:ρ' 0=some a0) (h1:ρ' 1=some a1) (hz0:a0.base=0) {a:Option Addr} {cap:Nat} (hb:J4 w.heap.size w a0.blk a x.b.n cap x.b.e) (hr:ars w a1 x.r):
  Calls Tryz.prog 109 vs w (fun e w'=> ∃ρ' v u h',(∀i,i<(hO 2 x.os).next->ρ' i=ρ i)/\(hO 2 x.os).next<=h'.next/\Rel h' ρ' T w'/\bV ρ' v u/\e= .returned u/\Keeps T w w'/\pU x v h' YO.outs):=by
 have hl:=eP.mono hle _ _ hl
 simp only[eP,bV,u64]at hl
 obtain⟨u0,_,hvs,⟨b0,hb0,rfl⟩,u1,_,rfl,⟨b1,hb1,rfl⟩,u2,_,rfl,rfl,rfl⟩:=hl
 obtain rfl:b0=a0:=Option.some.inj (hb0.symm.trans h0)
 obtain rfl:b1=a1:=Option.some.inj (hb1.symm.trans h1)
 rw[hz0,hr.base]at hvs
 obtain rfl:vs= #[.pointer (some ⟨b0.blk,0,none⟩),.pointer (some ⟨b1.blk,0,none⟩),.int .u64 x.d]:=vs3 hvs
 refine(aiE w b0.blk ⟨b1.blk,0,none⟩ a x.b.n cap x.b.e x.d x.r.quiet hb hx.1.1 (hr.quiet hx.2)).mono ?_
 rintro en w' ⟨⟨v,rfl,hv⟩,hB⟩
 obtain⟨R',K'⟩:=aoi hR hB
 refine⟨ρ,i64 v,.int .i64 v,_,fun _ _=>rfl,aX _,R',by simp only[bV,i64],rfl,K',?_⟩
 rcases hv with ⟨rfl,hv⟩|⟨k,hk,rfl,hv,hj⟩
 ·unfold YO
  rw[jh]
  exact .inl ⟨(),aY.2 hv,rfl,rfl⟩
 ·unfold YO
  rw[jh,jh]
  exact .inr (.inl ⟨k,aY.2 ⟨hk,hv,hj⟩,rfl,rfl⟩)
theorem aoj{w:World}{be:Nat}{arr:Array Value}{ty:TypeId}(hb:w.heap[be]? =some (.cells arr ty (0,0))){ρ:SE.Ren}{n:Nat}{e:Nat->iF}(hr:iq ρ (.row 5 n (fun i=>(e i).cs) []) arr 0){k:Nat}(hk:k<n):
  w.cell? ⟨be,0+k*5,none⟩=some (.int .i64 (e k).line)/\w.cell? ⟨be,0+k*5+1,none⟩=some (.int .i64 (e k).cls)/\w.cell? ⟨be,0+k*5+2,none⟩=some (.int .u64 (e k).r)/\w.cell? ⟨be,0+k*5+3,none⟩=some (.int .u64 (e k).d)/\w.cell? ⟨be,0+k*5+4,none⟩=some (.int .i64 (e k).anti):=by
 have key: ∀j v,(e k).cs[j]? =some v->w.cell? ⟨be,0+k*5+j,none⟩=some v:=fun j v hv=>by
  have hj:j<5:=by
   have:=(List.getElem?_eq_some_iff.1 hv).1
   exact this
  obtain⟨u,hu,hv2⟩:=hr (k*5+j) (.lit v) (rZ (g:=fun i=>(e i).cs) (wr:=[]) hk hj hv)
  simp only[bV]at hv2
  subst hv2
  simp only[World.cell?,hb,ay]at hu ⊢
  exact hu
 exact⟨key 0 _ rfl,key 1 _ rfl,key 2 _ rfl,key 3 _ rfl,key 4 _ rfl⟩
theorem Ub:zQ Tryz.prog 109:=⟨_,Tryz.func109,by kernel_rfl,by kernel_rfl⟩
theorem asJ{ρ:SE.Ren}{w:World}{T S2 S3:Nat->Prop}{r:ZRd}{i:Nat}{a1 a3:SE.Loc}(ht:1<=r.t)(h3:ρ i=some a3)(o1:dU ρ w T a1 S2 (.cells 149 (.av [u64 r.now,.slE i 0 1 r.t r.t])))(o3:dU ρ w T a3 S3 (.cells 111 (.row 1 r.t (fun k=>[.int .u64 (r.has k)]) [])))
  (l1:a1.blk<w.heap.size) (l3:a3.blk<w.heap.size):ars w a1 r:=by
 obtain⟨z1,_,arr,q1,_,_,c1⟩:=o1
 obtain⟨z3,_,ar2,q3,_,_,c3⟩:=o3
 obtain⟨u,hu,hv⟩:=c1 0 (u64 r.now) rfl
 simp only[bV,u64]at hv
 subst hv
 obtain⟨u2,hu2,hv2⟩:=c1 1 (.slE i 0 1 r.t r.t) rfl
 simp only[bV]at hv2
 obtain⟨a',p,ha',rfl,_,hp⟩:=hv2
 obtain rfl:a'=a3:=Option.some.inj (ha'.symm.trans h3)
 have hp:=hp (by omega)
 rw[z3]at hp
 refine⟨z1,l1,arr,_,a'.blk,p,r.t,q1,by simpa using hu,by simpa using hu2,rfl,by simpa using hp,l3,ar2,_,q3,fun k hk=> ?_⟩
 obtain⟨u,hu,hv⟩:=c3 k (.lit (.int .u64 (r.has k))) (by
  have:=rZ (m:=1) (g:=fun k=>[Value.int .u64 (r.has k)]) (wr:=[]) (n:=r.t) (k:=k) (j:=0) (v:= .int .u64 (r.has k)) hk (by omega) rfl
  rw[Nat.mul_one,aH]at this
  exact this)
 simp only[bV]at hv
 subst hv
 simpa using hu
theorem aru:bZ Tryz.prog 109 YO:=fun x hp=>⟨rfl,Ub,fun ρ T w vs hR hl=>by
 have hx:=aY.1 hp
 cases hz:x.b.z with
 |true=>
  have hg:x.l.all (PO.good x.l.length)=true:=by
   show(PO.good 2 (.m x.b.os)&&(PO.good 2 (.m x.r.os)&&true))=true
   unfold iV.os
   rw[hz]
   rfl
  have hn:x.b.n=0:=hx.1.2 hz
  obtain⟨ρ',r1,r2,r3⟩:=Rel.Qq (l:=x.l) hg (ρ:=ρ) (T:=T) (w:=w) hR
  have hfl:dO x.l.length x.l=[.cells 183 (.av [fO]),.cells 149 (.av [u64 x.r.now,.slE 2 0 1 x.r.t x.r.t]),.cells 111 (.row 1 x.r.t (fun k=>[.int .u64 (x.r.has k)]) [])]:=by
   show dO 2 [.m x.b.os,.m x.r.os]=_
   unfold iV.os
   rw[hz]
   rfl
  rw[hfl]at r3
  obtain⟨S,h1,h2,h3,h4,h5⟩:=r3
  obtain⟨a0,e0,o0⟩:=h1 0 _ (by rw[fG];rfl)
  obtain⟨a1,e1,o1⟩:=h1 1 _ (by rw[fG];rfl)
  obtain⟨a2,e2,o2⟩:=h1 2 _ (by rw[fG];rfl)
  have l0:=(h3 0 _ _ (by rw[fG];rfl) o0.2.1).2
  have l1:=(h3 1 _ _ (by rw[fG];rfl) o1.2.1).2
  have l2:=(h3 2 _ _ (by rw[fG];rfl) o2.2.1).2
  obtain⟨z0,_,arr,q0,_,_,c0⟩:=o0
  obtain⟨u,hu,hv⟩:=c0 0 fO rfl
  simp only[bV,fO]at hv
  subst hv
  refine YP (a:=none) (cap:=0) hR hl hx r2 e0 e1 z0 ⟨l0,?_,fun k hk=>by omega⟩ (asJ hx.2.1 e2 o1 o2 l1 l2)
  rw[hn]
  simp only[World.cell?,q0]
  simpa using hu
 |false=>
  have hg:x.l.all (PO.good x.l.length)=true:=by
   show(PO.good 2 (.m x.b.os)&&(PO.good 2 (.m x.r.os)&&true))=true
   unfold iV.os
   rw[hz]
   rfl
  obtain⟨ρ',r1,r2,r3⟩:=Rel.Qq (l:=x.l) hg (ρ:=ρ) (T:=T) (w:=w) hR
  have hfl:dO x.l.length x.l=[.cells 183 (.av [.slW 2 0 5 x.b.n]),.cells 149 (.av [u64 x.r.now,.slE 3 0 1 x.r.t x.r.t]),.room 70 x.b.row,.cells 111 (.row 1 x.r.t (fun k=>[.int .u64 (x.r.has k)]) [])]:=by
   show dO 2 [.m x.b.os,.m x.r.os]=_
   unfold iV.os
   rw[hz]
   rfl
  rw[hfl]at r3
  obtain⟨S,h1,h2,h3,h4,h5⟩:=r3
  obtain⟨a0,e0,o0⟩:=h1 0 _ (by rw[fG];rfl)
  obtain⟨a1,e1,o1⟩:=h1 1 _ (by rw[fG];rfl)
  obtain⟨a2,e2,o2⟩:=h1 2 _ (by rw[fG];rfl)
  obtain⟨a3,e3,o3⟩:=h1 3 _ (by rw[fG];rfl)
  have l0:=(h3 0 _ _ (by rw[fG];rfl) o0.2.1).2
  have l1:=(h3 1 _ _ (by rw[fG];rfl) o1.2.1).2
  have l2:=(h3 2 _ _ (by rw[fG];rfl) o2.2.1).2
  have l3:=(h3 3 _ _ (by rw[fG];rfl) o3.2.1).2
  obtain⟨z0,_,arr,q0,_,_,c0⟩:=o0
  obtain⟨u,hu,hv⟩:=c0 0 (.slW 2 0 5 x.b.n) rfl
  simp only[bV]at hv
  obtain⟨a',p,cap,ha',rfl,hcap,hp⟩:=hv
  obtain rfl:a'=a2:=Option.some.inj (ha'.symm.trans e2)
  obtain⟨z2,_,ar2,q2,_,_,c2⟩:=o2
  refine YP (a:=some ⟨a'.blk,p,none⟩) (cap:=cap) hR hl hx r2 e0 e1 z0 ⟨l0,?_,fun k hk=>⟨a'.blk,p,rfl,l2,?_⟩⟩ (asJ hx.2.1 e3 o1 o3 l1 l3)
  ·simp only[World.cell?,q0]
   simpa using hu
  ·have hp:=(hp (by omega)).1
   rw[z2]at hp
   obtain rfl:p=0:=by simpa using hp
   exact aoj q2 c2 hk⟩
structure CW (c0:fD) (d0:dS) (j:Nat) (c:fD) (d:dS) (ph:Nat):Prop where
 t:c.t=c0.t
 ok:c.ok
 now:c.now=c0.now+1
 N: ∀k,c.N k=false
 o: ∀k,c.o k=0
 dev:avj d d0 j
 ph:(ph=0/\c.jU=0)\/(c.jU≠0/\((ph=1/\j<=42/\ ∀k,c.L k=true->j<=k/\k<42)\/(ph=2/\j<=43)\/(ph=3/\j<=44)\/(ph=4/\j<=45)))
theorem CW.start{c0:fD}{d0:dS}(hc:c0.ok)(h1:1<=c0.now)(h2:c0.now+1<4611686018427387904)(hn: ∀k,c0.N k=true->k<42)(hd:d0.ok):CW c0 d0 0 c0.start d0 1:=by
 obtain⟨o1,o2,o3,o4,o5,o6⟩:=hc
 have b0:U64 (c0.now+1):=⟨by omega,h2⟩
 refine{t:=rfl,ok:=⟨o1,o2,b0,o4,o3,fun _=>⟨Int.le_refl 0,show(0:Int)<1099511627776 by decide⟩⟩,now:=rfl,N:=fun _=>rfl,o:=fun _=>rfl,dev:=⟨hd,rfl,by omega,by omega,by omega,fun _ _ _ _=>rfl⟩,ph:= .inr ⟨by show c0.now≠0;omega,.inl ⟨rfl,Nat.zero_le _,fun k hk=> ?_⟩⟩}
 have:=hn k hk
 omega
theorem CW.next{c0:fD}{d0:dS}{j:Nat}{c:fD}{d:dS}{ph:Nat}(h:CW c0 d0 j c d ph)(hb:d0.st<=1000000000/\d0.fl<=1000000000/\d0.fe<=1000000000)(hj:j<50)(hn:1<d0.n):wK c d ph (CW c0 d0 (j+1)):=by
 obtain⟨k1,k2,k3,k4,k5,⟨e1,e2,e3,e4,e5,e6⟩,k7⟩:=h
 have flu: ∀k,avj (d.flush k) d0 (j+1):=fun k=>⟨dS.Dp e1 _ (by omega),e2,by show d.st<=_;omega,by show(if k<d.n then d.fl+1 else d.fl)<=_;split<;>omega,by show d.fe<=_;omega,fun m r hm hr=>by rw[avk hr];exact e6 m r hm hr⟩
 have fen:avj d.fence d0 (j+1):=⟨dS.NP e1 (by omega),e2,by show d.st<=_;omega,by show d.fl<=_;omega,by show d.fe+1<=_;omega,fun m r hm hr=>by rw[avl hr];exact e6 m r hm hr⟩
 rcases k7 with ⟨rfl,k7⟩|⟨k8,⟨rfl,k7⟩|⟨rfl,k7⟩|⟨rfl,k7⟩|⟨rfl,k7⟩⟩
 ·exact .inl ⟨rfl,k7,k1,k2,k3,k4,k5,⟨e1,e2,by omega,by omega,by omega,e6⟩,.inl ⟨rfl,k7⟩⟩
 ·refine .inr (.inl ⟨rfl,⟨k2,e1,k8,by show 1<d.n;omega⟩,fun k hk hL hmin=>⟨k1,k2,k3,k4,k5,flu k,.inr ⟨k8,.inl ⟨rfl,?_,fun q hq=> ?_⟩⟩⟩,fun hL=>⟨k1,k2,k3,k4,k5,fen,.inr ⟨k8,.inr (.inl ⟨rfl,by omega⟩)⟩⟩⟩)
  ·have:=k7.2 k hL;omega
  ·have hq:(if q=k then false else c.L q)=true:=hq
   by_cases e:q=k
   ·rw[if_pos e]at hq;cases hq
   ·rw[if_neg e]at hq
    have h1:=k7.2 q hq
    have h2:=k7.2 k hL
    have: ¬q<k:=fun hlt=>by rw[hmin q hlt]at hq;cases hq
    omega
 ·refine .inr (.inr (.inl ⟨rfl,⟨k2,e1,k8,by show 1<d.n;omega⟩,k1,k2,k3,k4,k5,⟨dS.kY e1 _ _ _ (Au _) (by omega),e2,by show d.st+1<=_;omega,by show d.fl<=_;omega,by show d.fe<=_;omega,fun m r hm hr=> ?_⟩,.inr ⟨k8,.inr (.inr (.inl ⟨rfl,by omega⟩))⟩⟩))
  rw[zo _ _ _ _ _ hr,if_neg (by omega)];exact e6 m r hm hr
 ·exact .inr (.inr (.inr (.inl ⟨rfl,⟨k2,e1,k8,by show 1<d.n;omega⟩,k1,k2,k3,k4,k5,flu 1,.inr ⟨k8,.inr (.inr (.inr ⟨rfl,by omega⟩))⟩⟩)))
 ·exact .inr (.inr (.inr (.inr ⟨rfl,⟨k2,e1,k8,by show 1<d.n;omega⟩,k1,⟨k2.1,k2.2.1,k2.2.2.1,k2.2.2.2.2.1,⟨Int.le_refl 0,show(0:Int)<4611686018427387904 by decide⟩,k2.2.2.2.2.2⟩,k3,k4,k5,fen,.inl ⟨rfl,rfl⟩⟩)))
section
variable{n o M:Nat}{B:Nat->dN}{LN:Nat->Nat}{a:dF}
theorem HW.begin(w:HW n o M B LN a)(hM:M<=900000):CW a.c a.d 0 a.c.start a.d 1:=
 CW.start w.base.cok w.base.anT (by have:=w.base.aiZ;omega) w.nk w.base.dok
theorem HW.closing(w:HW n o M B LN a)(hM:M<=900000){j:Nat}(hj:j<50){c:fD}{d:dS}{ph:Nat}(h:CW a.c a.d j c d ph):wK c d ph (CW a.c a.d (j+1)):=by
 have:=w.base.dst;have:=w.base.dfl;have:=w.base.dfe;have:=w.dn
 exact h.next ⟨by omega,by omega,by omega⟩ hj (by omega)
theorem HW.closed(w:HW n o M B LN a)(hM:M<=900000){c:fD}{d:dS}{ph:Nat}(h:CW a.c a.d 50 c d ph):ph=0/\HW n o (M+60) B LN (a.YJ c d)/\c.now=a.c.now+1:=by
 obtain⟨k1,k2,k3,k4,k5,⟨e1,e2,e3,e4,e5,e6⟩,k7⟩:=h
 have g:=w.base
 have hp:ph=0/\c.jU=0:=by
  rcases k7 with k7|⟨_,⟨_,k7⟩|⟨_,k7⟩|⟨_,k7⟩|⟨_,k7⟩⟩
  ·exact k7
  all_goals (exfalso;omega)
 have:=g.dst;have:=g.dfl;have:=g.dfe;have:=g.anT;have:=g.aiZ
 have gD:Base (a.Ry d) 2 (M+60) (fun i=>B (o+i)):=g.dev (by omega) e1 e2 (by omega) (by omega) (by omega) (L:=0) (n:=0) (fun m r hm hr _=>e6 m r hm hr) (fun _ _ _ _=> .inr (Nat.zero_le _))
 refine⟨hp.1,{w with base:={gD with cok:=k2,ct:=by show c.t=2;rw[k1];exact g.ct,jU:=hp.2,anT:=by show 1<=c.now;omega,aiZ:=by show c.now<=((M+60:Nat):Int);omega,owed:=fun k=>by show c.o k<=_;rw[k5];omega},lie:=w.same e1 e2 e6,dn:=e2.trans w.dn,nk:=(fun k hk=>by rw[show(a.YJ c d).c.N k=c.N k from rfl,k4]at hk;cases hk),rn:=by have:=w.rn;show a.r.now<=_;omega},k3⟩
end
def dF.advance(a:dF):dF:={a with r:={a.r with now:=a.r.now+1}}
theorem HW.adv{n o M:Nat}{B:Nat->dN}{LN:Nat->Nat}{a:dF}(w:HW n o M B LN a)(hM:M<=900000):HW n o (M+1) B LN a.advance:=
 {w with rn:=by have:=w.rn;show a.r.now+1<=_;omega,base:={w.base.up (Nat.le_succ M)with rok:=⟨w.base.rok.1,w.base.rok.2.1,by have:=w.base.rok.2.2.1;show 1<=a.r.now+1;omega,by have:=w.rn;show a.r.now+1<_;omega⟩,rt:=w.base.rt}}
theorem HW.aok{n o M:Nat}{B:Nat->dN}{LN:Nat->Nat}{a:dF}(w:HW n o M B LN a)(h:a.r.has 1=1)(d:Int): ∀k,k<a.b.n-> ¬D6.rd ⟨a.b,a.r,d⟩ k:=fun k hk hr=>by
 have h1:=hr.2 1 (by show 1<a.r.t;rw[w.base.rt];decide) (by show a.r.has 1≠0;rw[h];decide)
 have h2:=w.br k hk
 have h1:(a.b.e k).r<a.r.has 1:=h1
 omega
def kJ:Prop:=Value.slice none 0 0=Value.slice none 0 0
def F6(a:ZFr)(b:ZFr):Prop:=kJ/\(0:Int)=0/\kJ/\a.code=b.code/\a.found=b.found/\a.ans=b.ans/\kJ/\kJ/\a.aep=b.aep/\True
def F7(a:ZFr)(b:ZFr):Prop:=a.cls=b.cls/\a.piece=b.piece/\F6 a b
def uG:Prop:=kJ/\kJ/\kJ/\kJ/\True
def O7(a:dF):Prop:=(a.n=a.n/\ ∀q:Nat,q<a.n->[Value.int .i64 (fZ.kind (a.e q)),Value.string (fZ.key (a.e q)),Value.string (fZ.value (a.e q)),Value.int .u64 (fZ.id (a.e q)),Value.int .u64 (fZ.ver (a.e q)),Value.int .u64 (fZ.epoch (a.e q)),Value.int .i64 (fZ.group (a.e q))]=[Value.int .i64 (fZ.kind (a.e q)),Value.string (fZ.key (a.e q)),Value.string (fZ.value (a.e q)),Value.int .u64 (fZ.id (a.e q)),Value.int .u64 (fZ.ver (a.e q)),Value.int .u64 (fZ.epoch (a.e q)),Value.int .i64 (fZ.group (a.e q))])/\True
def aiF(a:dF)(b:ZLn):Prop:=bK a.b.os=bK a.b.os/\bK lT=bK lT/\uG/\bK a.l.os=bK b.os/\O7 a
def kK:Prop:=ByteArray.mk #[]=ByteArray.mk #[]
def nR(a:ZRd):Prop:=bK a.os=bK a.os
def uH(a:dI):Prop:=bK a.os=bK a.os
def nS(a:dS):Prop:=bK a.os=bK a.os
def nT:Prop:=0=0/\(1:Int)=1/\(0:Int)=0/\(0:Int)=0/\True
def E8(a:dF):Prop:=0=0/\0=0/\0=0/\0=0/\0=0/\0=0/\0=0/\0=0/\a.id=a.id/\a.ver=a.ver/\kJ/\True
def rO(a:ZLn)(b:ZLn):Prop:=bK a.os=bK b.os/\True
def O8(a:dF)(b:ZLn):Prop:=bK a.b.os=bK a.b.os/\bK lT=bK lT/\uG/\rO a.l b
def YQ(a:dF)(b:ZLn):Prop:=E8 a/\nT/\nS a.d/\uH a.p/\nR a.r/\bK (a.c.os 0)=bK (a.c.os 0)/\O8 a b
def BL(a:ZFr)(b:ZFr):Prop:=a.old.key=b.old.key/\a.old.id=b.old.id/\a.old.ver=b.old.ver/\a.old.line=b.old.line/\a.old.cls=b.old.cls/\a.line=b.line/\F7 a b
def Fa(a:dF):Prop:=0=0/\0=0/\0=0/\0=0/\0=0/\0=0/\0=0/\0=0/\a.id=a.id/\a.ver=a.ver/\(0=0/\a.n=a.n)/\True
def YR(a:dF)(b:ZLn):Prop:=Fa a/\nT/\nS a.d/\uH a.p/\nR a.r/\bK (a.c.os 0)=bK (a.c.os 0)/\aiF a b
def afU(a:ZFr)(b:ZFr):Prop:=kK/\false=false/\(0:Int)=0/\false=false/\BL a b
def afV(a:ZSt)(b:ZRt):Prop:=(5:Int)=5/\a.f.key=b.f.key/\a.f.value=b.f.value/\kK/\kJ/\(1:Int)=1/\a.a.c.now=b.c.now/\kK/\false=false/\(0:Int)=0/\false=false/\kK/\(0:Int)=0/\(0:Int)=0/\(0:Int)=0/\(0:Int)=0/\a.f.line=b.f.line/\a.f.cls=b.f.cls/\a.f.piece=b.f.piece/\kJ/\(0:Int)=0/\kJ/\a.f.code=b.f.code/\a.f.found=b.f.found/\emp=emp/\kJ/\kJ/\a.f.aep=b.f.aep/\True
def afW(a:ZSt)(b:ZFi):Prop:=(5:Int)=5/\a.f.key=b.f.key/\a.f.value=b.f.value/\kK/\kJ/\(2:Int)=2/\a.f.epoch=b.f.epoch/\kK/\false=false/\(0:Int)=0/\true=true/\a.a.l.head.key=b.l.head.key/\a.a.l.head.id=b.l.head.id/\a.a.l.head.ver=b.l.head.ver/\a.a.l.head.line=b.l.head.line/\a.a.l.head.cls=b.l.head.cls/\a.f.line=b.f.line/\a.f.cls=b.f.cls/\(0:Int)=0/\F6 a.f b.f
def afX(a:ZGb)(b:anx):Prop:=0=0/\(a.t:Int)=(b.t:Int)/\((5:Int)=5/\a.f.key=b.f.key/\a.f.value=b.f.value/\kK/\kJ/\(1:Int)=1/\a.f.epoch=b.f.epoch/\kK/\false=false/\(0:Int)=0/\a.f.had=b.f.had/\a.f.old.key=b.f.old.key/\a.f.old.id=b.f.old.id/\a.f.old.ver=b.f.old.ver/\a.f.old.line=b.f.old.line/\a.f.old.cls=b.f.old.cls/\a.pb.line=b.pb.line/\F7 a.f b.f)/\True
def afY(a:ZSt)(b:ZFr):Prop:=(5:Int)=5/\a.f.key=b.key/\a.f.value=b.value/\kK/\kJ/\(2:Int)=6/\a.f.epoch=b.epoch/\kK/\false=false/\(0:Int)=0/\true=false/\a.a.l.head.key=ByteArray.mk #[]/\a.a.l.head.id=0/\a.a.l.head.ver=0/\a.a.l.head.line=0/\a.a.l.head.cls=0/\a.f.line=b.line/\a.f.cls=b.cls/\0=b.piece/\F6 a.f b
def afZ(a:ZFr)(b:ZFi):Prop:=(5:Int)=5/\a.key=b.f.key/\a.value=b.f.value/\kK/\kJ/\(6:Int)=2/\a.epoch=b.f.epoch/\kK/\false=false/\(0:Int)=0/\false=true/\ByteArray.mk #[]=b.l.head.key/\0=b.l.head.id/\0=b.l.head.ver/\0=b.l.head.line/\0=b.l.head.cls/\a.line=b.f.line/\a.cls=b.f.cls/\a.piece=0/\F6 a b.f
def uI:Prop:=True/\True/\True/\0=0/\True/\True/\True/\True
def af0(a:ZFr)(b:ZFr):Prop:=(5:Int)=5/\a.key=b.key/\a.value=b.value/\kK/\kJ/\(6:Int)=6/\a.epoch=b.epoch/\kK/\false=false/\(0:Int)=0/\false=false/\kK/\(0:Int)=0/\(0:Int)=0/\(0:Int)=0/\(0:Int)=0/\(-(1:Int))=(-(1:Int))/\F7 a b
def af2(a:ZFr)(b:ZFr):Prop:=(5:Int)=5/\a.key=b.key/\a.value=b.value/\kK/\kJ/\(6:Int)=6/\a.epoch=b.epoch/\kK/\false=false/\(0:Int)=0/\false=false/\kK/\(0:Int)=0/\(0:Int)=0/\(0:Int)=0/\(0:Int)=0/\a.line=b.line/\F7 a b
def af4(a:ZFi)(b:ZSt):Prop:=0=0/\(a.t:Int)=(b.t:Int)/\((5:Int)=5/\a.f.key=b.f.key/\a.f.value=b.f.value/\kK/\kJ/\(1:Int)=1/\a.f.epoch=b.f.epoch/\kK/\false=false/\(0:Int)=0/\a.f.had=b.f.had/\BL a.f b.f)/\True
def af5(a:ZRt)(b:ZSt):Prop:=0=0/\(a.t:Int)=(b.t:Int)/\((5:Int)=5/\a.f.key=b.f.key/\a.f.value=b.f.value/\kK/\kJ/\(5:Int)=5/\a.f.epoch=b.f.epoch/\kK/\false=false/\(0:Int)=0/\true=true/\BL a.f b.f)/\True
def af6(a:ZRt)(b:ZSt):Prop:=0=0/\(a.t:Int)=(b.t:Int)/\((4:Int)=4/\a.f.key=b.f.key/\a.f.value=b.f.value/\kK/\kJ/\(5:Int)=5/\a.f.epoch=b.f.epoch/\afU a.f b.f)/\True
def af7(a:ZSt)(b:ZRt):Prop:=(4:Int)=4/\a.f.key=b.f.key/\a.f.value=b.f.value/\kK/\kJ/\(5:Int)=5/\a.a.c.now=b.c.now/\afU a.f b.f
def wV(a:fD)(b:fD):Prop:=bK (a.os 0)=bK (b.os 0)
def af8(a:fD)(b:fD):Prop:=(True/\True/\True/\0=0/\True/\True/\True/\True/\True/\True/\True/\True)/\wV a b/\True
def D7(x:ZSt):Prop:=
 ∃x_1:ZRt,Hd (x_1.c.ok/\x_1.t<x_1.c.t/\x_1.c.now≠x_1.f.epoch/\0<=x_1.f.line)/\af6 x_1 x/\af8 x_1.c x.a.c/\ ∀y:Unit,True-> ∃y_1:Unit,True/\af7 x x_1/\E8 x.a/\nT/\nS x.a.d/\uH x.a.p/\nR x.a.r/\wV x.a.c x_1.c/\bK x.a.b.os=bK x.a.b.os/\bK lT=bK lT/\uG/\bK x.a.l.os=bK x.a.l.os/\True
theorem Uc(x:ZSt):D7 x=eG DY (sK.N.args x) (hO 10 (dO 1 (sK.N.l x))) (fun v h'=>dA 1 x v h' sK.N.outs):=by kernel_rfl
def D8(x:ZSt):Prop:=
 ∃x_1:ZRt,Hd (x_1.c.ok/\x_1.t<x_1.c.t/\x_1.c.now≠x_1.f.epoch/\0<=x_1.f.line)/\af6 x_1 x/\af8 x_1.c x.a.c/\ ∀y:Unit,True-> ∃y_1:Unit,True/\af7 x x_1/\Fa x.a/\nT/\nS x.a.d/\uH x.a.p/\nR x.a.r/\wV x.a.c x_1.c/\bK x.a.b.os=bK x.a.b.os/\bK lT=bK lT/\uG/\bK x.a.l.os=bK x.a.l.os/\O7 x.a
theorem Ud(x:ZSt):D8 x=eG DY (sK.P.args x) (hO 11 (dO 1 (sK.P.l x))) (fun v h'=>dA 1 x v h' sK.P.outs):=by kernel_rfl
def D9(x:ZSt):Prop:=
 ∃x_1:ZRt,Hd x_1.bad/\af5 x_1 x/\((True/\True/\True/\0=0/\uI)/\wV x_1.c x.a.c/\rO x_1.l x.a.l)/\ ∀y:Unit,True-> ∃y_1:Unit,True/\afV x x_1/\E8 x.a/\nT/\nS x.a.d/\uH x.a.p/\nR x.a.r/\wV x.a.c x_1.c/\O8 x.a x_1.l
theorem Ue(x:ZSt):D9 x=eG DZ (sN.N.args x) (hO 10 (dO 1 (sN.N.l x))) (fun v h'=>dA 1 x v h' sN.N.outs):=by kernel_rfl
def Ea(x:ZSt):Prop:=
 ∃x_1:ZRt,Hd x_1.bad/\af5 x_1 x/\((True/\True/\True/\0=0/\uI)/\wV x_1.c x.a.c/\rO x_1.l x.a.l)/\ ∀y:Unit,True-> ∃y_1:Unit,True/\afV x x_1/\Fa x.a/\nT/\nS x.a.d/\uH x.a.p/\nR x.a.r/\wV x.a.c x_1.c/\aiF x.a x_1.l
theorem Uf(x:ZSt):Ea x=eG DZ (sN.P.args x) (hO 11 (dO 1 (sN.P.l x))) (fun v h'=>dA 1 x v h' sN.P.outs):=by kernel_rfl
def J5(x:ZSt):Prop:=
 ∃x_1:ZFi,Hd (x_1.l.ok/\(x_1.l.n=0->x_1.f.line<0))/\af4 x_1 x/\((True/\True/\True/\True/\uI)/\rO x_1.l x.a.l)/\(∀y:Unit,Hd (x_1.l.n=0)->(∃y_1:Unit,Hd (x.a.l.n=0)/\af2 x.f x_1.f/\YQ x.a x_1.l)\/ ∃y_1:Unit,Hd (x.a.l.n≠0)/\afY x x_1.f/\YQ x.a x_1.l)/\ ∀y:Unit,Hd (x_1.l.n≠0)->(∃y_1:Unit,Hd (x.a.l.n=0)/\afZ x.f x_1/\YQ x.a x_1.l)\/ ∃y_1:Unit,Hd (x.a.l.n≠0)/\afW x x_1/\YQ x.a x_1.l
theorem YS(x:ZSt):J5 x=eG anw (BG.N.args x) (hO 10 (dO 1 (BG.N.l x))) (fun v h'=>dA 1 x v h' BG.N.outs):=by kernel_rfl
def J6(x:ZSt):Prop:=
 ∃x_1:ZFi,Hd (x_1.l.ok/\(x_1.l.n=0->x_1.f.line<0))/\af4 x_1 x/\((True/\True/\True/\True/\uI)/\rO x_1.l x.a.l)/\(∀y:Unit,Hd (x_1.l.n=0)->(∃y_1:Unit,Hd (x.a.l.n=0)/\af2 x.f x_1.f/\YR x.a x_1.l)\/ ∃y_1:Unit,Hd (x.a.l.n≠0)/\afY x x_1.f/\YR x.a x_1.l)/\ ∀y:Unit,Hd (x_1.l.n≠0)->(∃y_1:Unit,Hd (x.a.l.n=0)/\afZ x.f x_1/\YR x.a x_1.l)\/ ∃y_1:Unit,Hd (x.a.l.n≠0)/\afW x x_1/\YR x.a x_1.l
theorem YT(x:ZSt):J6 x=eG anw (BG.P.args x) (hO 11 (dO 1 (BG.P.l x))) (fun v h'=>dA 1 x v h' BG.P.outs):=by kernel_rfl
def J7(x:anx):Prop:=
 ∃x_1:ZGb,Hd (x_1.pb.ok/\x_1.l.ok/\x_1.l.n=0)/\afX x_1 x/\((True/\0=0/\True/\True/\uI)/\bK x_1.p.os=bK x.a.p.os/\rO x_1.l x.a.l)/\ ∀y:Unit,True-> ∃y_1:Unit,True/\af0 x.f x_1.f/\E8 x.a/\nT/\nS x.a.d/\bK (dI.os (x.a.p.give x.i x.k))=bK (dI.os (x_1.p.give x_1.i x_1.k))/\nR x.a.r/\bK (x.a.c.os 0)=bK (x.a.c.os 0)/\O8 x.a x_1.l
theorem YU(x:anx):J7 x=eG OQ (BH.N.args x) (hO 10 (dO 1 (BH.N.l x))) (fun v h'=>dA 1 x v h' BH.N.outs):=by kernel_rfl
def J8(x:anx):Prop:=
 ∃x_1:ZGb,Hd (x_1.pb.ok/\x_1.l.ok/\x_1.l.n=0)/\afX x_1 x/\((True/\0=0/\True/\True/\uI)/\bK x_1.p.os=bK x.a.p.os/\rO x_1.l x.a.l)/\ ∀y:Unit,True-> ∃y_1:Unit,True/\af0 x.f x_1.f/\Fa x.a/\nT/\nS x.a.d/\bK (dI.os (x.a.p.give x.i x.k))=bK (dI.os (x_1.p.give x_1.i x_1.k))/\nR x.a.r/\bK (x.a.c.os 0)=bK (x.a.c.os 0)/\aiF x.a x_1.l
theorem YV(x:anx):J8 x=eG OQ (BH.P.args x) (hO 11 (dO 1 (BH.P.l x))) (fun v h'=>dA 1 x v h' BH.P.outs):=by kernel_rfl
def pJ:Prop:=Value.slice none 0 0=Value.slice none 0 0
def kF:Prop:=ByteArray.mk #[]=ByteArray.mk #[]
def aol:Prop:=True/\True/\True/\0=0/\True/\True/\True/\True/\True/\True/\True/\True
def O9(a:fD)(b:fD):Prop:=bK (a.os 0)=bK (b.os 0)
def wW(a:fD)(b:fD):Prop:=O9 a b/\True
def Fb(a:Int):Prop:=pJ/\pJ/\a=a/\True
def arv(a:ZRt)(b:fD):Prop:=True/\ ∃y_1:Unit,True/\((4:Int)=4/\a.f.key=a.f.key/\a.f.value=a.f.value/\kF/\pJ/\(5:Int)=6/\a.c.now=a.f.epoch/\kF/\false=false/\(0:Int)=0/\false=false/\a.f.old.key=a.f.old.key/\a.f.old.id=a.f.old.id/\a.f.old.ver=a.f.old.ver/\a.f.old.line=a.f.old.line/\a.f.old.cls=a.f.old.cls/\a.f.line=(-(1:Int))/\a.f.cls=a.f.cls/\a.f.piece=a.f.piece/\pJ/\(0:Int)=0/\pJ/\a.f.code=1/\a.f.found=a.f.found/\a.f.ans=ByteArray.mk #[]/\Fb a.f.aep)/\aol/\wW a.c b
def aom(a:ZFr):Prop:=a.found=a.found/\emp=ByteArray.mk #[]/\Fb a.aep
def YW:Prop:=True/\True/\True/\0=0/\True/\True/\True/\True
def af9:Prop:=True/\True/\True/\0=0/\YW
def arw(a:ZRt)(b:fD):Prop:=True/\ ∃y_1:Unit,True/\((5:Int)=5/\a.f.key=a.f.key/\a.f.value=a.f.value/\kF/\pJ/\(1:Int)=6/\a.c.now=a.f.epoch/\kF/\false=false/\(0:Int)=0/\false=true/\ByteArray.mk #[]=a.f.old.key/\0=a.f.old.id/\0=a.f.old.ver/\0=a.f.old.line/\0=a.f.old.cls/\a.f.line=(-(1:Int))/\a.f.cls=a.f.cls/\a.f.piece=a.f.piece/\pJ/\(0:Int)=0/\pJ/\a.f.code=1/\aom a.f)/\af9/\O9 a.c b/\bK a.l.os=bK a.l.os/\True
def wX(a:dS)(b:dS):Prop:=a.ba=b.ba/\a.cu=b.cu/\True
def pK(a:Nat)(b:Nat):Prop:=0=0/\a=b/\a=b
def rP(a:fD)(b:fD):Prop:=a.t=b.t/\ ∀q:Nat,q<a.t->[Value.int .i64 (a.o q)]=[Value.int .i64 (b.o q)]
def YX(a:rU)(b:ZCd):Prop:=rP a.c b.c/\(pK a.d.n b.d.n/\a.d.st=b.d.st/\a.d.fl=b.d.fl/\a.d.fe=b.d.fe/\wX a.d b.d)/\(a.d.n*193=b.d.n*193/\ ∀q:Nat,q<a.d.n*193->Cs.eff (iL a.d) [] q=Cs.eff (iL b.d) [] q)/\True
def aon(a:ZRt)(b:Int):Prop:=(5:Int)=5/\a.f.key=a.f.key/\a.f.value=a.f.value/\kF/\pJ/\(1:Int)=1/\a.c.now=b/\kF/\false=false/\(0:Int)=0/\false=false/\kF/\(0:Int)=0/\(0:Int)=0/\(0:Int)=0/\(0:Int)=0/\a.f.line=a.f.line/\a.f.cls=a.f.cls/\a.f.piece=a.f.piece/\pJ/\(0:Int)=0/\pJ/\a.f.code=a.f.code/\aom a.f
def rQ(a:fD)(b:fD):Prop:=a.now=b.now/\a.dur=b.dur/\a.jU=b.jU/\pK a.t b.t/\True
def pO(a:fD)(b:fD):Prop:=258=258/\ ∀q:Nat,q<258->[Value.bool (a.N q)]=[Value.bool (b.N q)]
def Pg(a:ZFr):Prop:=pJ/\(0:Int)=0/\pJ/\a.code=a.code/\a.found=a.found/\a.ans=a.ans/\Fb a.aep
def J9(a:ZFr):Prop:=a.cls=a.cls/\a.piece=a.piece/\Pg a
def YZ(a:ZFr):Prop:=a.old.key=a.old.key/\a.old.id=a.old.id/\a.old.ver=a.old.ver/\a.old.line=a.old.line/\a.old.cls=a.old.cls/\a.line=a.line/\J9 a
def wY(a:fD)(b:fD):Prop:=258=258/\ ∀q:Nat,q<258->[Value.bool (a.L q)]=[Value.bool (b.L q)]
def aga(a:ZCd)(b:rU):Prop:=(pK a.d.n b.d.n/\a.d.st=b.d.st/\a.d.fl=b.d.fl/\a.d.fe+1=b.d.fe+1/\wX a.d b.d)/\rP a.c b.c/\(a.d.n*193=b.d.n*193/\ ∀q:Nat,q<a.d.n*193->Cs.eff (iL a.d.fence) [] q=Cs.eff (iL b.d.fence) [] q)/\True
def aoo(a:fD)(b:ZRt)(c:ZLn):Prop:=True/\ ∃x_5:fD,Hd x_5.ok/\(0=0/\True)/\wW x_5 a/\ ∀y_4:Unit,True-> ∃y_5:Unit,True/\aon b x_5.now/\af9/\O9 b.c x_5/\bK b.l.os=bK c.os/\True
def wZ:Prop:=(0=0/\True)/\True
def agb(a:ZFr):Prop:=a.key=a.key/\a.value=a.value/\kF/\pJ/\(7:Int)=7/\a.epoch=a.epoch/\kF/\false=false/\(0:Int)=0/\a.had=a.had/\YZ a
def Y0:Prop:=(@Fn.func (57: @FuncId)= @Fn.func (57: @FuncId)/\wZ)/\True
def agc(a:ZRt):Prop:=AV.lit (Value.int .u64 a.f.epoch)=AV.lit (Value.int .u64 a.f.epoch)/\AV.lit (Value.int .i64 (a.t:Int))=AV.lit (Value.int .i64 (a.t:Int))/\AV.ptr 0 0=AV.ptr 0 0/\True
def agd(a:gX)(b:ZFr):Prop:=a.old.key=b.old.key/\a.old.id=b.old.id/\a.old.ver=b.old.ver/\a.old.line=b.old.line/\a.old.cls=b.old.cls/\(a.k:Int)=b.line/\a.c=b.cls/\True
def agf(a:Nat)(b:fD):Prop:=Hd (a<258/\b.L a=true/\ ∀j:Nat,j<a->b.L j=false)
def aop(a:ZGb)(b:ZLn):Prop:=(True/\0=0/\True/\True/\YW)/\bK (dI.os (a.p.give a.i a.k))=bK a.p.os/\bK a.l.os=bK b.os/\True
def agh(a:fD)(b:fD):Prop:=rQ a b/\pO a b/\wY a b/\(@Fn.func (107: @FuncId)= @Fn.func (107: @FuncId)/\wZ)/\True
def agi(a:fD)(b:fD):Prop:=rQ a b/\pO a b/\wY a b/\(@Fn.func (165: @FuncId)= @Fn.func (165: @FuncId)/\wZ)/\True
def agj(a:fD)(b:fD):Prop:=rQ a b/\pO a b/\wY a b/\(@Fn.func (212: @FuncId)= @Fn.func (212: @FuncId)/\wZ)/\True
def Ph:Prop:=(0:Int)<=0/\(0:Int)<=0
def Ug(x:ZRt):Prop:=
 ((0:Int)<=5/\(0:Int)<=1)/\agc x/\ ∃x_1:fD,Hd x_1.ok/\(0=0/\True)/\wW x_1 x.c/\ ∀y:Unit,True->cP (decide ((x.t:Int)>=(x_1.t:Int))) (True/\(AV.lit (Value.int .i64 x.f.line)=AV.lit (Value.int .i64 x.f.line)/\True)/\cP (decide (x.f.line<2)) (arv x x_1) (cP (decide (x.f.line>=(258:Int))) (arv x x_1) (I64 (x.f.line-2)/\((8:Int)=0->False)/\I64 (Int.tdiv (x.f.line-2) (8:Int))/\cP (decide (Int.tdiv (x.f.line-2) (8:Int)<0)) (arv x x_1) False))) (∃x_2:gX,Hd True/\((0=0/\1=1/\1=1)/\True)/\(((4:Int)=4/\x_2.key=ByteArray.mk #[]/\x_2.v=x.f.value/\false=false/\agd x_2 x.f)/\True)/\ ∀y_1:Unit,True-> ∃x_3:fD,Hd x_3.ok/\(0=0/\True)/\wW x_3 x_1/\ ∀y_2:Unit,True->cP (bne x_3.now x.f.epoch) (True/\ ∃x_4:fD,Hd x_4.ok/\(0=0/\True)/\wW x_4 x_3/\ ∀y_3:Unit,True-> ∃y_4:Unit,True/\((4:Int)=4/\x.f.key=x.f.key/\x.f.value=x.f.value/\kF/\pJ/\(5:Int)=5/\x.c.now=x_4.now/\kF/\false=false/\(0:Int)=0/\false=false/\YZ x.f)/\aol/\wW x.c x_4) (Ph/\I64 (1:Int)/\Ph/\False))
theorem acn(x:ZRt):Ug x=wpF Tryz.prog axa tt (noA x) 200 6 19 (DY.args x) (hO 2 (DY.os x)) (fun v h'=>fA 2 x v h' DY.outs):=by kernel_rfl
def Uh(x:ZRt):Prop:=
 ((0:Int)<=5/\(0:Int)<=1)/\agc x/\ ∃x_1:fD,Hd x_1.ok/\(0=0/\True)/\wW x_1 x.c/\ ∀y:Unit,True->cP (decide ((x.t:Int)>=(x_1.t:Int))) (True/\(AV.lit (Value.int .i64 x.f.line)=AV.lit (Value.int .i64 x.f.line)/\True)/\cP (decide (x.f.line<2)) (arw x x_1) (cP (decide (x.f.line>=(258:Int))) (arw x x_1) (I64 (x.f.line-2)/\((8:Int)=0->False)/\I64 (Int.tdiv (x.f.line-2) (8:Int))/\cP (decide (Int.tdiv (x.f.line-2) (8:Int)<0)) (arw x x_1) False))) (∃x_2:gX,Hd True/\((0=0/\1=1/\1=1)/\True)/\(((5:Int)=5/\x_2.key=ByteArray.mk #[]/\x_2.v=x.f.value/\true=true/\agd x_2 x.f)/\True)/\ ∀y_1:Unit,True-> ∃x_3:fD,Hd x_3.ok/\(0=0/\True)/\wW x_3 x_1/\ ∀y_2:Unit,True->cP (bne x_3.now x.f.epoch) (True/\ ∃x_4:fD,Hd x_4.ok/\(0=0/\True)/\wW x_4 x_3/\ ∀y_3:Unit,True-> ∃y_4:Unit,True/\aon x x_4.now/\af9/\O9 x.c x_4/\bK x.l.os=bK x.l.os/\True) (Ph/\ ∃x_4:ZLn,Hd x_4.ok/\(0=0/\True)/\(bK x_4.os=bK x.l.os/\True)/\ ∀y_3:Unit,True->cP (decide (x_4.n≠0)) (cP (Bool.not (BEq.beq (ByteArray.toList x_4.head.key) (ByteArray.toList x.f.old.key)&&(BEq.beq x_4.head.id x.f.old.id&&(BEq.beq x_4.head.ver x.f.old.ver&&(BEq.beq x_4.head.line x.f.old.line&&(BEq.beq x_4.head.cls x.f.old.cls&&true)))))) (aoo x_3 x x_4) (I64 (1:Int)/\Ph/\False)) (aoo x_3 x x_4)))
theorem aco(x:ZRt):Uh x=wpF Tryz.prog axb tt (noA x) 200 6 19 (DZ.args x) (hO 3 (DZ.os x)) (fun v h'=>fA 3 x v h' DZ.outs):=by kernel_rfl
def Ui(x:ZGb):Prop:=
 ((0:Int)<=1/\(0:Int)<=5)/\ ∃x_1:ZLn,Hd x_1.ok/\(0=0/\True)/\(bK x_1.os=bK x.l.os/\True)/\ ∀y:Unit,True->(AV.agg [AV.lit (Value.string x_1.head.key),AV.lit (Value.int .u64 x_1.head.id),AV.lit (Value.int .u64 x_1.head.ver),AV.lit (Value.int .i64 x_1.head.line),AV.lit (Value.int .i64 x_1.head.cls)]=AV.agg [AV.lit (Value.string x_1.head.key),AV.lit (Value.int .u64 x_1.head.id),AV.lit (Value.int .u64 x_1.head.ver),AV.lit (Value.int .i64 x_1.head.line),AV.lit (Value.int .i64 x_1.head.cls)]/\True)/\True/\cP (Bool.not (decide (x_1.n≠0))) (cP (decide (x.pb.line>=(0:Int))) ((AV.lit (Value.int .i64 x.pb.line)=AV.lit (Value.int .i64 x.pb.line)/\True)/\ ∃x_2:gY,Hd x_2.ok/\(0=0/\x_2.line=x.pb.line/\True)/\(bK x_2.p.os=bK x.p.os/\True)/\ ∀y_1:Unit,True->True/\True/\ ∃y_2:Unit,True/\((5:Int)=5/\x.f.key=x.f.key/\x.f.value=x.f.value/\kF/\pJ/\(6:Int)=6/\x.f.epoch=x.f.epoch/\kF/\false=false/\(0:Int)=0/\false=decide (x_1.n≠0)/\ByteArray.mk #[]=x_1.head.key/\0=x_1.head.id/\0=x_1.head.ver/\0=x_1.head.line/\0=x_1.head.cls/\(-(1:Int))=(-(1:Int))/\J9 x.f)/\(True/\0=0/\True/\True/\YW)/\bK (dI.os (x.p.give x.i x.k))=bK (dI.os (x_2.p.give x_2.i x_2.k))/\bK x.l.os=bK x_1.os/\True) (∃y_1:Unit,True/\((5:Int)=5/\x.f.key=x.f.key/\x.f.value=x.f.value/\kF/\pJ/\(6:Int)=6/\x.f.epoch=x.f.epoch/\kF/\false=false/\(0:Int)=0/\false=decide (x_1.n≠0)/\ByteArray.mk #[]=x_1.head.key/\0=x_1.head.id/\0=x_1.head.ver/\0=x_1.head.line/\0=x_1.head.cls/\(-(1:Int))=x.pb.line/\J9 x.f)/\aop x x_1)) (∃y_1:Unit,True/\((5:Int)=5/\x.f.key=x.f.key/\
 x.f.value=x.f.value/\kF/\pJ/\(6:Int)=2/\x.f.epoch=x.f.epoch/\kF/\false=false/\(0:Int)=0/\false=decide (x_1.n≠0)/\ByteArray.mk #[]=x_1.head.key/\0=x_1.head.id/\0=x_1.head.ver/\0=x_1.head.line/\0=x_1.head.cls/\(-(1:Int))=x.pb.line/\x.f.cls=x.f.cls/\x.f.piece=0/\Pg x.f)/\aop x x_1)
theorem acp(x:ZGb):Ui x=wpF Tryz.prog axd tt (noA x) 200 6 19 (OQ.args x) (hO 3 (OQ.os x)) (fun v h'=>fA 3 x v h' OQ.outs):=by kernel_rfl
def acr(x:ZSt):Prop:=
 ∃y:Unit,True/\((4:Int)=4/\agb x.f)/\bK x.a.os=bK x.a.os/\True
theorem aiG(x:ZSt):acr x=wpF Tryz.prog Bv tt (noA x) 200 6 19 ((Yn 4).args x) (hO 1 ((Yn 4).os x)) (fun v h'=>fA 1 x v h' (Yn 4).outs):=by kernel_rfl
def acs(x:ZSt):Prop:=
 ∃y:Unit,True/\((5:Int)=5/\agb x.f)/\bK x.a.os=bK x.a.os/\True
theorem aiH(x:ZSt):acs x=wpF Tryz.prog Bv tt (noA x) 200 6 19 ((Yn 5).args x) (hO 1 ((Yn 5).os x)) (fun v h'=>fA 1 x v h' (Yn 5).outs):=by kernel_rfl
def Uj(x:fD):Prop:=
 ∃x_1:fD,Hd (x_1.ok/\x_1.jU=0)/\(0=0/\True)/\((rQ x_1 x/\pO x_1 x/\wY x_1 x/\Value.nilFunc=Value.nilFunc/\True)/\rP x_1 x/\True)/\ ∀y:Unit,True-> ∃y_1:Unit,True/\(0:Int)=0/\((x.now+1=x_1.now+1/\x.dur=x_1.dur/\x.now=x_1.now/\pK x.t x_1.t/\True)/\(258=258/\ ∀q:Nat,q<258->[Value.bool false]=[Value.bool false])/\pO x x_1/\Y0)/\(x.t=x_1.t/\ ∀q:Nat,q<x.t->[Value.int .i64 0]=[Value.int .i64 0])/\True
theorem acu(x:fD):Uj x=eG Io (Yo.args x) (hO 2 (dO 1 (Yo.l x))) (fun v h'=>dA 1 x v h' Yo.outs):=by kernel_rfl
def Uk(x:ZCd):Prop:=
 ∃x_1:rU,Hd x_1.ok/\(0=0/\0=0/\True)/\((rQ x_1.c x.c/\pO x_1.c x.c/\wY x_1.c x.c/\Y0)/\YX x_1 x)/\(∀y:Nat,agf y x_1.c->(∃y_1:Nat,agf y_1 x.c/\((1:Int)=1/\(0:Int)=0/\True)/\(rQ x.c x_1.c/\pO x.c x_1.c/\(258=258/\ ∀q:Nat,q<258->[Value.bool (ite (q=y_1) false (x.c.L q))]=[Value.bool (ite (q=y) false (x_1.c.L q))])/\Y0)/\(pK x.d.n x_1.d.n/\x.d.st=x_1.d.st/\ite (y_1<x.d.n) (x.d.fl+1) x.d.fl=ite (y<x_1.d.n) (x_1.d.fl+1) x_1.d.fl/\x.d.fe=x_1.d.fe/\wX x.d x_1.d)/\rP x.c x_1.c/\(x.d.n*193=x_1.d.n*193/\ ∀q:Nat,q<x.d.n*193->Cs.eff (iL (x.d.flush y_1)) [] q=Cs.eff (iL (x_1.d.flush y)) [] q)/\True)\/ ∃y_1:Unit,Hd (∀j:Nat,j<258->x.c.L j=false)/\((2:Int)=1/\(0:Int)=0/\True)/\(rQ x.c x_1.c/\pO x.c x_1.c/\(258=258/\ ∀q:Nat,q<258->[Value.bool (x.c.L q)]=[Value.bool (ite (q=y) false (x_1.c.L q))])/\(@Fn.func (107: @FuncId)= @Fn.func (57: @FuncId)/\wZ)/\True)/\(pK x.d.n x_1.d.n/\x.d.st=x_1.d.st/\x.d.fl=ite (y<x_1.d.n) (x_1.d.fl+1) x_1.d.fl/\x.d.fe+1=x_1.d.fe/\wX x.d x_1.d)/\rP x.c x_1.c/\(x.d.n*193=x_1.d.n*193/\ ∀q:Nat,q<x.d.n*193->Cs.eff (iL x.d.fence) [] q=Cs.eff (iL (x_1.d.flush y)) [] q)/\True)/\ ∀y:Unit,Hd (∀j:Nat,j<258->x_1.c.L j=false)->(∃y_1:Nat,agf y_1 x.c/\((1:Int)=2/\(0:Int)=0/\True)/\(rQ x.c x_1.c/\pO x.c x_1.c/\(258=258/\ ∀q:Nat,q<258->[Value.bool (ite (q=y_1) false (x.c.L q))]=[Value.bool (x_1.c.L q)])/\(@Fn.func (57: @FuncId)= @Fn.func (107: @FuncId)/\wZ)/\True)/\(pK x.d.n x_1.d.n/\x.d.st=x_1.d.st/\
 ite (y_1<x.d.n) (x.d.fl+1) x.d.fl=x_1.d.fl/\x.d.fe=x_1.d.fe+1/\wX x.d x_1.d)/\rP x.c x_1.c/\(x.d.n*193=x_1.d.n*193/\ ∀q:Nat,q<x.d.n*193->Cs.eff (iL (x.d.flush y_1)) [] q=Cs.eff (iL x_1.d.fence) [] q)/\True)\/ ∃y_1:Unit,Hd (∀j:Nat,j<258->x.c.L j=false)/\((2:Int)=2/\(0:Int)=0/\True)/\agh x.c x_1.c/\aga x x_1
theorem acv(x:ZCd):Uk x=eG Ip (afn.args x) (hO 4 (dO 2 (afn.l x))) (fun v h'=>dA 2 x v h' afn.outs):=by kernel_rfl
def Ul(x:ZCd):Prop:=
 ∃x_1:rU,Hd x_1.ok/\(0=0/\0=0/\True)/\(agh x_1.c x.c/\YX x_1 x)/\ ∀y:Unit,True-> ∃y_1:Unit,True/\((3:Int)=3/\(0:Int)=0/\True)/\agi x.c x_1.c/\(pK x.d.n x_1.d.n/\x.d.st+1=x_1.d.st+1/\x.d.fl=x_1.d.fl/\x.d.fe=x_1.d.fe/\wX x.d x_1.d)/\rP x.c x_1.c/\(x.d.n*193=x_1.d.n*193/\ ∀q:Nat,q<x.d.n*193->Cs.eff (iL (x.d.store 1 0 64 (jw x.c.jU))) [] q=Cs.eff (iL (x_1.d.store 1 0 64 (jw x_1.c.jU))) [] q)/\True
theorem acw(x:ZCd):Ul x=eG Iq (afo.args x) (hO 4 (dO 2 (afo.l x))) (fun v h'=>dA 2 x v h' afo.outs):=by kernel_rfl
def Um(x:ZCd):Prop:=
 ∃x_1:rU,Hd x_1.ok/\(0=0/\0=0/\True)/\(agi x_1.c x.c/\YX x_1 x)/\ ∀y:Unit,True-> ∃y_1:Unit,True/\((1:Int)=1/\(0:Int)=0/\True)/\agj x.c x_1.c/\(pK x.d.n x_1.d.n/\x.d.st=x_1.d.st/\ite (1<x.d.n) (x.d.fl+1) x.d.fl=ite (1<x_1.d.n) (x_1.d.fl+1) x_1.d.fl/\x.d.fe=x_1.d.fe/\wX x.d x_1.d)/\rP x.c x_1.c/\(x.d.n*193=x_1.d.n*193/\ ∀q:Nat,q<x.d.n*193->Cs.eff (iL (x.d.flush 1)) [] q=Cs.eff (iL (x_1.d.flush 1)) [] q)/\True
theorem acy(x:ZCd):Um x=eG Ir (afp.args x) (hO 4 (dO 2 (afp.l x))) (fun v h'=>dA 2 x v h' afp.outs):=by kernel_rfl
def Un(x:ZCd):Prop:=
 ∃x_1:rU,Hd x_1.ok/\(0=0/\0=0/\True)/\(agj x_1.c x.c/\YX x_1 x)/\ ∀y:Unit,True-> ∃y_1:Unit,True/\((2:Int)=2/\(0:Int)=0/\True)/\((x.c.now=x_1.c.now/\x.c.jU=x_1.c.jU/\(0:Int)=0/\pK x.c.t x_1.c.t/\True)/\pO x.c x_1.c/\wY x.c x_1.c/\Value.nilFunc=Value.nilFunc/\True)/\aga x x_1
theorem acz(x:ZCd):Un x=eG Iu (afq.args x) (hO 4 (dO 2 (afq.l x))) (fun v h'=>dA 2 x v h' afq.outs):=by kernel_rfl
def Uo(x:ZCd):Prop:=
 cP (BEq.beq x.c.jU (0:Int)) (∃y:Unit,True/\((0:Int)=0/\(12:Int)=12/\True)/\((x.c.now=x.c.now/\x.c.dur=x.c.dur/\x.c.jU=x.c.jU/\(0=0/\x.c.t=x.c.t/\x.c.t=x.c.t)/\True)/\(258=258/\ ∀q:Nat,q<258->[Value.bool (x.c.N q)]=[Value.bool (x.c.N q)])/\(258=258/\ ∀q:Nat,q<258->[Value.bool (x.c.L q)]=[Value.bool (x.c.L q)])/\Value.nilFunc=Value.nilFunc/\True)/\((0=0/\x.d.n=x.d.n/\x.d.n=x.d.n)/\x.d.st=x.d.st/\x.d.fl=x.d.fl/\x.d.fe=x.d.fe/\x.d.ba=x.d.ba/\x.d.cu=x.d.cu/\True)/\(x.c.t=x.c.t/\ ∀q:Nat,q<x.c.t->[Value.int .i64 (x.c.o q)]=[Value.int .i64 (x.c.o q)])/\(x.d.n*193=x.d.n*193/\ ∀q:Nat,q<x.d.n*193->Cs.eff (iL x.d) [] q=Cs.eff (iL x.d) [] q)/\True) False
theorem acA(x:ZCd):Uo x=wpF Tryz.prog tV tt (noA x) 200 5 24 (afr.args x) (hO 4 (dO 2 (afr.l x))) (fun v h'=>dA 2 x v h' afr.outs):=by kernel_rfl
noncomputable def ZRt.chg(x:ZRt)(b:Bool):gX:=⟨ru 10 1 (xZ 10),x.t,x.f.epoch,x.f.value,⟨#[]⟩,b,x.f.old,x.f.line.toNat,x.f.cls⟩
theorem Ur(x:ZRt)(hx:x.c.ok/\x.t<x.c.t/\x.c.now≠x.f.epoch/\0<=x.f.line):Ug x:=by
 obtain⟨h1,h2,h3,h4⟩:=hx
 unfold Ug
 simp only[agc,wW,arv,agd,kF,pJ,YZ,aol,Ph,J9,Pg,Fb,O9]
 simp only[aY,aU,aT,ay,aH,bP,bC,aN,aJ,au,aW,aV,bQ,bF,bG,bH,bT,bf,bJ,aZ,dZ,aG,aK,ah,aj,aA,aC,aB,aF]
 exact⟨by decide,x.c,h1,rfl,bg (fun h=>absurd (aQ h) (by omega)) fun _=>⟨x.chg false,⟨rfl,rfl,rfl,rfl,rfl,rfl,rfl,Int.toNat_of_nonneg h4,rfl⟩,x.c,h1,rfl,bg (fun _=>⟨x.c,h1,rfl,rfl,rfl⟩) fun h=>absurd (bne_eq_false_iff_eq.1 h) h3⟩⟩
theorem Us(x:ZRt)(hx:x.bad):Uh x:=by
 obtain⟨h1,h2,h3,h4,h5⟩:=hx
 unfold Uh
 simp only[agc,wW,arw,agd,aon,af9,O9,Ph,aoo,YW,kF,pJ,aom,Fb]
 simp only[aY,aU,aT,ay,aH,bP,bC,aN,aJ,au,aW,aV,bQ,bF,bG,bH,bT,bf,bJ,aZ,dZ,aG,aK,ah,aj,aA,aC,aB,aF]
 refine⟨by decide,x.c,h1,rfl,bg (fun h=>absurd (aQ h) (by omega)) fun _=>⟨x.chg true,⟨rfl,rfl,rfl,rfl,rfl,rfl,rfl,Int.toNat_of_nonneg h5,rfl⟩,x.c,h1,rfl,bg (fun _=>⟨x.c,h1,rfl,(by repeat' (first|exact rfl|refine And.intro ?_ ?_|exact fun _ _=>rfl))⟩) fun h=>⟨by decide,x.l,h2,rfl,bg (fun hn=>bg (fun _=>⟨x.c,h1,rfl,(by repeat' (first|exact rfl|refine And.intro ?_ ?_|exact fun _ _=>rfl))⟩) fun hb=> ?_) fun _=>⟨x.c,h1,rfl,(by repeat' (first|exact rfl|refine And.intro ?_ ?_|exact fun _ _=>rfl))⟩⟩⟩⟩
 exfalso
 have hn:=aQ hn
 have aix:=bne_eq_false_iff_eq.1 h
 rcases h4 with h4|h4|h4
 ·exact h4 aix
 ·exact hn h4
 ·simp only[Bool.not_eq_false',aI,beq_iff_eq]at hb
  exact h4 (dM.ext5 ((NJ _ _).1 (beq_iff_eq.2 hb.1)) hb.2.1 hb.2.2.1 hb.2.2.2.1 hb.2.2.2.2.1)
theorem Ut(x:ZGb)(hx:x.pb.ok/\x.l.ok/\x.l.n=0):Ui x:=by
 obtain⟨h1,h2,h3⟩:=hx
 unfold Ui
 simp only[kF,pJ,J9,YW,aop,Pg,Fb]
 simp only[aY,aU,aT,ay,aH,bP,bC,aN,aJ,au,aW,aV,bQ,bF,bG,bH,bT,bf,bJ,aZ,dZ,aG,aK,ah,aj,aA,aC,aB,aF]
 refine⟨by decide,x.l,h2,rfl,bg (fun _=>bg (fun _=>⟨x.pb,h1,rfl,rfl,?_,rfl,rfl⟩) fun h=> ?_) fun h=> ?_⟩
 ·rw[Bf h3,h3]
  exact⟨rfl,rfl,rfl,rfl,rfl,rfl⟩
 ·have h:=aS h
  have:0<=x.pb.line:=by
   unfold gY.line
   have:=dX (x.pb.p.cls x.pb.i)
   rcases iy (x.pb.p.cls x.pb.i)with m|m|m|m|m<;>obtain⟨m1,m2,m3⟩:=m<;>rw[m2]<;>omega
  omega
 ·simp[h3]at h
theorem Y1(x:ZSt):acr x:=by
 unfold acr
 simp only[agb,kF,pJ,YZ,J9,Pg,Fb]
 simp only[aY,aU,aT,ay,aH,bP,bC,aN,aJ,au,aW,aV,bQ,bF,bG,bH,bT,bf,bJ,aZ,dZ,aG,aK,ah,aj,aA,aC,aB,aF]
theorem Y2(x:ZSt):acs x:=by
 unfold acs
 simp only[agb,kF,pJ,YZ,J9,Pg,Fb]
 simp only[aY,aU,aT,ay,aH,bP,bC,aN,aJ,au,aW,aV,bQ,bF,bG,bH,bT,bf,bJ,aZ,dZ,aG,aK,ah,aj,aA,aC,aB,aF]
theorem Uu(x:fD)(hx:x.ok/\x.jU=0):Uj x:=by
 unfold Uj
 simp only[rQ,pO,wY,rP,pK,Y0,wZ]
 simp only[aY,aU,aT,ay,aH,bP,bC,aN,aJ,au,aW,aV,bQ,bF,bG,bH,bT,bf,bJ,aZ,dZ,aG,aK,ah,aj,aA,aC,aB,aF]
 refine⟨x,hx,?_⟩
 repeat' (first|exact rfl|refine And.intro ?_ ?_|exact fun _ _=>rfl)
theorem Uw(x:ZCd)(hx:x.cd.ok):Uk x:=by
 unfold Uk
 simp only[rQ,pO,wY,Y0,YX,agf,pK,wX,rP,wZ,agh,aga]
 simp only[aY,aU,aT,ay,aH,bP,bC,aN,aJ,au,aW,aV,bQ,bF,bG,bH,bT,bf,bJ,aZ,dZ,aG,aK,ah,aj,aA,aC,aB,aF]
 refine⟨x.cd,hx,?_,fun y hy=> .inl ⟨y,hy,?_⟩,fun y=> .inr ⟨y,?_⟩⟩
 all_goals (repeat' (first|exact rfl|refine And.intro ?_ ?_|exact fun _ _=>rfl))
theorem Ux(x:ZCd)(hx:x.cd.ok):Ul x:=by
 unfold Ul
 simp only[agh,YX,agi,pK,wX,rP,rQ,pO,wY,wZ]
 simp only[aY,aU,aT,ay,aH,bP,bC,aN,aJ,au,aW,aV,bQ,bF,bG,bH,bT,bf,bJ,aZ,dZ,aG,aK,ah,aj,aA,aC,aB,aF]
 refine⟨x.cd,hx,?_⟩
 all_goals (repeat' (first|exact rfl|refine And.intro ?_ ?_|exact fun _ _=>rfl))
theorem Uy(x:ZCd)(hx:x.cd.ok):Um x:=by
 unfold Um
 simp only[agi,YX,agj,pK,wX,rP,rQ,pO,wY,wZ]
 simp only[aY,aU,aT,ay,aH,bP,bC,aN,aJ,au,aW,aV,bQ,bF,bG,bH,bT,bf,bJ,aZ,dZ,aG,aK,ah,aj,aA,aC,aB,aF]
 refine⟨x.cd,hx,?_⟩
 all_goals (repeat' (first|exact rfl|refine And.intro ?_ ?_|exact fun _ _=>rfl))
theorem Uz(x:ZCd)(hx:x.cd.ok):Un x:=by
 unfold Un
 simp only[agj,YX,pK,pO,wY,aga,wX,rP,rQ,wZ]
 simp only[aY,aU,aT,ay,aH,bP,bC,aN,aJ,au,aW,aV,bQ,bF,bG,bH,bT,bf,bJ,aZ,dZ,aG,aK,ah,aj,aA,aC,aB,aF]
 refine⟨x.cd,hx,?_⟩
 all_goals (repeat' (first|exact rfl|refine And.intro ?_ ?_|exact fun _ _=>rfl))
theorem UA(x:ZCd)(hx:x.c.jU=0):Uo x:=by
 unfold Uo
 simp only[aY,aU,aT,ay,aH,bP,bC,aN,aJ,au,aW,aV,bQ,bF,bG,bH,bT,bf,bJ,aZ,dZ,aG,aK,ah,aj,aA,aC,aB,aF]
 exact bg (fun _=>trivial) fun h=>absurd hx (by simpa using h)
theorem arx:fJ Tryz.prog axa:= .append ku (.cons (bU Xu) (.cons (bU Gu) (.cons (bU AU) .nil)))
theorem arz:fJ Tryz.prog axb:= .append ku (.cons (bU Oh) (.cons (bU Gu) (.cons (bU AU) (.cons (bU sG) .nil))))
theorem arA:fJ Tryz.prog axd:= .append ku (.cons (bU sG) (.cons (bU at1) .nil))
theorem Pj:bZ Tryz.prog 19 DY:=dV dB mixed arx noA 200 6 (fun _=>rfl) (fun _=>rfl) fun x hx=>Eq.mp (acn x) (Ur x (aY.1 hx))
theorem Pm:bZ Tryz.prog 19 DZ:=dV dB mixed arz noA 200 6 (fun _=>rfl) (fun _=>rfl) fun x hx=>Eq.mp (aco x) (Us x (aY.1 hx))
theorem Y3:bZ Tryz.prog 19 OQ:=dV dB mixed arA noA 200 6 (fun _=>rfl) (fun _=>rfl) fun x hx=>Eq.mp (acp x) (Ut x (aY.1 hx))
theorem arB:bZ Tryz.prog 19 (Yn 4):=dV dB mixed ku noA 200 6 (fun _=>rfl) (fun _=>rfl) fun x _=>Eq.mp (aiG x) (Y1 x)
theorem arC:bZ Tryz.prog 19 (Yn 5):=dV dB mixed ku noA 200 6 (fun _=>rfl) (fun _=>rfl) fun x _=>Eq.mp (aiH x) (Y2 x)
theorem UC(x:ZFi)(hx:x.l.ok/\(x.l.n=0->x.f.line<0)):Jt x:=by
 obtain⟨h1,h2⟩:=hx
 unfold Jt
 simp only[Jl,bY,dD,dP,bM,mZ,Oq,nI,pz,vM,kH,rF]
 simp only[aY,aU,aT,ay,aH,bP,bC,aN,aJ,au,aW,aV,bQ,bF,bG,bH,bT,bf,bJ,aZ,dZ,aG,aK,ah,aj,aA,aC,aB,aF]
 refine⟨by decide,x.l,h1,rfl,bg (fun h=> ?_) fun h=> .inr ?_⟩
 ·have hn:x.l.n=0:=by simpa using h
  refine bg (fun h'=>absurd (aQ h') (by have:=h2 hn;omega)) fun _=> .inl ?_
  rw[Bf hn]
  exact⟨hn,⟨by rw[hn];rfl,rfl,rfl,rfl,rfl,rfl⟩,rfl⟩
 ·have hn:x.l.n≠0:=by simpa using h
  exact⟨hn,⟨(decide_eq_true hn).symm,rfl,rfl,rfl,rfl,rfl⟩,rfl⟩
theorem Y4:bZ Tryz.prog 19 anw:=gB dB mixed ae2 noA 200 6 (fun _=>rfl) (fun _=>⟨fun _=>rfl,fun _=>rfl,trivial⟩) fun x hx=>Eq.mp (Ov x) (UC x (aY.1 hx))
theorem aoq:bZ Tryz.prog 23 Yo.ctr:=dH (bU ap4) 2 (fun _=>⟨rfl,rfl,rfl,rfl⟩) fun x hx=>Eq.mp (acu x) (Uu x (aY.1 hx))
theorem aor:bZ Tryz.prog 24 afn.ctr:=dH (bU ap5) 4 (fun _=>⟨rfl,rfl,rfl,rfl⟩) fun x hx=>Eq.mp (acv x) (Uw x (aY.1 hx))
theorem aos:bZ Tryz.prog 24 afo.ctr:=dH (bU ap6) 4 (fun _=>⟨rfl,rfl,rfl,rfl⟩) fun x hx=>Eq.mp (acw x) (Ux x (aY.1 hx))
theorem aot:bZ Tryz.prog 24 afp.ctr:=dH (bU ap7) 4 (fun _=>⟨rfl,rfl,rfl,rfl⟩) fun x hx=>Eq.mp (acy x) (Uy x (aY.1 hx))
theorem aou:bZ Tryz.prog 24 afq.ctr:=dH (bU ap8) 4 (fun _=>⟨rfl,rfl,rfl,rfl⟩) fun x hx=>Eq.mp (acz x) (Uz x (aY.1 hx))
theorem aov:bZ Tryz.prog 24 afr.ctr:=dK dB mixed fC 4 noA 200 5 (fun _=>⟨rfl,rfl,rfl,rfl⟩) fun x hx=>Eq.mp (acA x) (UA x (aY.1 hx))
theorem Ko(x:ZSt)(hx:sK.pre x):D7 x:=by
 have hx:=aY.1 hx
 unfold D7
 simp only[af6,af8,af7,E8,nT,nS,uH,nR,wV,uG,kJ,kK,afU,BL,F7,F6]
 simp only[aY,aU,aT,ay,aH,bP,bC,aN,aJ,au,aW,aV,bQ,bF,bG,bH,bT,bf,bJ,aZ,dZ,aG,aK,ah,aj,aA,aC,aB,aF]
 refine⟨⟨x.a.c,x.a.l,x.t,x.f⟩,hx,?_⟩
 repeat' (first|exact rfl|refine And.intro ?_ ?_|exact fun _ _=>rfl)
theorem Kq(x:ZSt)(hx:sK.pre x):D8 x:=by
 have hx:=aY.1 hx
 unfold D8
 simp only[af6,af8,af7,Fa,nT,nS,uH,nR,wV,uG,O7,kJ,kK,afU,BL,F7,F6]
 simp only[aY,aU,aT,ay,aH,bP,bC,aN,aJ,au,aW,aV,bQ,bF,bG,bH,bT,bf,bJ,aZ,dZ,aG,aK,ah,aj,aA,aC,aB,aF]
 refine⟨⟨x.a.c,x.a.l,x.t,x.f⟩,hx,?_⟩
 repeat' (first|exact rfl|refine And.intro ?_ ?_|exact fun _ _=>rfl)
theorem Kr(x:ZSt)(hx:sN.pre x):D9 x:=by
 have hx:=aY.1 hx
 unfold D9
 simp only[af5,uI,wV,rO,afV,E8,nT,nS,uH,nR,O8,uG,kJ,kK,BL,F7,F6]
 simp only[aY,aU,aT,ay,aH,bP,bC,aN,aJ,au,aW,aV,bQ,bF,bG,bH,bT,bf,bJ,aZ,dZ,aG,aK,ah,aj,aA,aC,aB,aF]
 refine⟨⟨x.a.c,x.a.l,x.t,x.f⟩,hx,?_⟩
 repeat' (first|exact rfl|refine And.intro ?_ ?_|exact fun _ _=>rfl)
theorem Kt(x:ZSt)(hx:sN.pre x):Ea x:=by
 have hx:=aY.1 hx
 unfold Ea
 simp only[af5,uI,wV,rO,afV,Fa,nT,nS,uH,nR,aiF,uG,O7,kJ,kK,BL,F7,F6]
 simp only[aY,aU,aT,ay,aH,bP,bC,aN,aJ,au,aW,aV,bQ,bF,bG,bH,bT,bf,bJ,aZ,dZ,aG,aK,ah,aj,aA,aC,aB,aF]
 refine⟨⟨x.a.c,x.a.l,x.t,x.f⟩,hx,?_⟩
 repeat' (first|exact rfl|refine And.intro ?_ ?_|exact fun _ _=>rfl)
theorem LZ(x:ZSt)(hx:BG.pre x):J5 x:=by
 have hx:=aY.1 hx
 unfold J5
 simp only[af4,uI,rO,af2,YQ,afY,afZ,afW,kK,kJ,F6,E8,nT,nS,uH,nR,O8,uG,F7,BL]
 simp only[aY,aU,aT,ay,aH,bP,bC,aN,aJ,au,aW,aV,bQ,bF,bG,bH,bT,bf,bJ,aZ,dZ,aG,aK,ah,aj,aA,aC,aB,aF]
 refine⟨⟨x.a.l,x.t,x.f⟩,hx,?_⟩
 simp only[aY,aU,aT,ay,aH,bP,bC,aN,aJ,au,aW,aV,bQ,bF,bG,bH,bT,bf,bJ,aZ,dZ,aG,aK,ah,aj,aA,aC,aB,aF]
 exact⟨fun h=> .inl h,fun h=> .inr h⟩
theorem L6(x:ZSt)(hx:BG.pre x):J6 x:=by
 have hx:=aY.1 hx
 unfold J6
 simp only[af4,uI,rO,af2,YR,afY,afZ,afW,kK,kJ,F6,Fa,nT,nS,uH,nR,aiF,uG,O7,F7,BL]
 simp only[aY,aU,aT,ay,aH,bP,bC,aN,aJ,au,aW,aV,bQ,bF,bG,bH,bT,bf,bJ,aZ,dZ,aG,aK,ah,aj,aA,aC,aB,aF]
 refine⟨⟨x.a.l,x.t,x.f⟩,hx,?_⟩
 simp only[aY,aU,aT,ay,aH,bP,bC,aN,aJ,au,aW,aV,bQ,bF,bG,bH,bT,bf,bJ,aZ,dZ,aG,aK,ah,aj,aA,aC,aB,aF]
 exact⟨fun h=> .inl h,fun h=> .inr h⟩
theorem L8(x:anx)(hx:BH.pre x):J7 x:=by
 have hx:=aY.1 hx
 unfold J7
 simp only[afX,uI,rO,af0,E8,nT,nS,nR,O8,uG,kJ,kK,F7,F6]
 simp only[aY,aU,aT,ay,aH,bP,bC,aN,aJ,au,aW,aV,bQ,bF,bG,bH,bT,bf,bJ,aZ,dZ,aG,aK,ah,aj,aA,aC,aB,aF]
 refine⟨⟨x.a.p,x.i,x.k,x.a.l,x.t,x.f⟩,hx,?_⟩
 repeat' (first|exact rfl|refine And.intro ?_ ?_|exact fun _ _=>rfl)
theorem L9(x:anx)(hx:BH.pre x):J8 x:=by
 have hx:=aY.1 hx
 unfold J8
 simp only[afX,uI,rO,af0,Fa,nT,nS,nR,aiF,uG,O7,kJ,kK,F7,F6]
 simp only[aY,aU,aT,ay,aH,bP,bC,aN,aJ,au,aW,aV,bQ,bF,bG,bH,bT,bf,bJ,aZ,dZ,aG,aK,ah,aj,aA,aC,aB,aF]
 refine⟨⟨x.a.p,x.i,x.k,x.a.l,x.t,x.f⟩,hx,?_⟩
 repeat' (first|exact rfl|refine And.intro ?_ ?_|exact fun _ _=>rfl)
theorem aiI:bZ Tryz.prog 19 sK.M.ctr:=wR (fun _=>⟨fun _=>rfl,trivial⟩) (dH (bU Pj) 10 (fun _=>⟨rfl,rfl,rfl,rfl⟩) fun x hx=>Eq.mp (Uc x) (Ko x hx.1)) (dH (bU Pj) 11 (fun _=>⟨rfl,rfl,rfl,rfl⟩) fun x hx=>Eq.mp (Ud x) (Kq x hx.1))
theorem aiJ:bZ Tryz.prog 19 sN.M.ctr:=wR (fun _=>⟨fun _=>rfl,trivial⟩) (dH (bU Pm) 10 (fun _=>⟨rfl,rfl,rfl,rfl⟩) fun x hx=>Eq.mp (Ue x) (Kr x hx.1)) (dH (bU Pm) 11 (fun _=>⟨rfl,rfl,rfl,rfl⟩) fun x hx=>Eq.mp (Uf x) (Kt x hx.1))
theorem aow:bZ Tryz.prog 19 BG.M.ctr:=wR (fun _=>⟨fun _=>rfl,fun _=>rfl,trivial⟩) (dH (bU Y4) 10 (fun _=>⟨rfl,rfl,rfl,rfl⟩) fun x hx=>Eq.mp (YS x) (LZ x hx.1)) (dH (bU Y4) 11 (fun _=>⟨rfl,rfl,rfl,rfl⟩) fun x hx=>Eq.mp (YT x) (L6 x hx.1))
theorem aox:bZ Tryz.prog 19 BH.M.ctr:=wR (fun _=>⟨fun _=>rfl,trivial⟩) (dH (bU Y3) 10 (fun _=>⟨rfl,rfl,rfl,rfl⟩) fun x hx=>Eq.mp (YU x) (L8 x hx.1)) (dH (bU Y3) 11 (fun _=>⟨rfl,rfl,rfl,rfl⟩) fun x hx=>Eq.mp (YV x) (L9 x hx.1))
theorem arD:bZ Tryz.prog 19 axe:=qw fun x hx=>by
 obtain⟨⟨a,f,ph⟩,t,q⟩:=x
 have hx:=aY.1 hx
 rcases hx with ⟨hp,h,q1,q2⟩|⟨hp,h,q1,q2⟩|⟨hp,ln,p,hf,h,q1,q2⟩|⟨hp,hd,ln,hl,h,q1⟩|⟨hp,hd,h,q1⟩|⟨hp,h,q1⟩|⟨hp,q1⟩
 all_goals (have hp:ph=_:=hp;subst hp)
 ·refine⟨_,OJ,rfl,⟨a,f,t⟩,⟨aY.2 h,trivial⟩,rfl,rfl,fun v h' hh=> ?_⟩
  rcases qY hh with ⟨y,h0,e1,e2⟩|⟨y,h0,e1,e2⟩
  ·exact fK ⟨⟨a,{f with code:=5},7⟩,aY.2 (q1 (aY.1 h0).2),e1,e2⟩
  ·exact fK ⟨⟨a.sJ t a.r.now,{f with epoch:=a.c.now},3⟩,aY.2 (q2 ((aY.1 h0) rfl)),e1,e2⟩
 ·refine⟨_,Yh,rfl,⟨a,f,t⟩,⟨aY.2 h,trivial⟩,rfl,rfl,fun v h' hh=> ?_⟩
  have hc:(ZSt.mk a f t).c 4=ned f.value.size:=if_pos rfl
  rcases qY hh with ⟨y,h0,e1,e2⟩|⟨y,h0,e1,e2⟩
  ·have h0:=aY.1 h0
   rw[hc]at h0
   exact fK ⟨⟨a,{f with cls:=ned f.value.size,ans:=emp,code:=4},6⟩,aY.2 (q1 h0),e1,e2⟩
  ·have h0:=aY.1 h0
   rw[hc]at h0
   exact fK ⟨⟨a.UR (a.p.take (ned f.value.size) y.1 y.2),{f with cls:=ned f.value.size,line:=2+y.1*8+y.2*spn (ned f.value.size),piece:=0},4⟩,aY.2 (q2 _ _ h0),e1,e2⟩
 ·have hf:f={f with line:=(ln:Int),cls:=f.cls,piece:=(p:Int)}:=hf
  refine⟨_,Yr,rfl,⟨a,f,t,ln,f.cls,p⟩,⟨aY.2 h,trivial⟩,by show [_,_,_]=[_,_,_];rw[hf];first|done|rfl,rfl,fun v h' hh=> ?_⟩
  rcases qY hh with ⟨y,h0,e1,e2⟩|⟨y,h0,e1,e2⟩
  ·exact fK ⟨⟨a.Ry (ZWr.mk a.d t f ln f.cls p).d',{f with piece:=(p+1:Nat)},4⟩,aY.2 (q1 (aY.1 h0)),e1.trans (by rw[hf];first|done|rfl),e2⟩
  ·exact fK ⟨⟨a.Ry (ZWr.mk a.d t f ln f.cls p).d',{f with piece:=0},5⟩,aY.2 (q2 (aY.1 h0)),e1.trans (by rw[hf];first|done|rfl),e2⟩
 ·have hf:f={f with had:=false,line:=(ln:Int)}:=by
   have hd:f.had=false:=hd
   have hl:f.line=ln:=hl
   rw[<-hd,<-hl]
  refine⟨_,afl,rfl,⟨a,f,t,ln⟩,aY.2 h,by show [_,_,_]=[_,_,_];rw[hf];first|done|rfl,rfl,fun v h' hh=> ?_⟩
  obtain⟨y,h0,e1,e2⟩:=lK hh
  exact fK ⟨⟨(ZTs.pb ⟨a,f,5⟩ t ln).chg.enq,{f with found:=false,aep:=f.epoch,line:= -1},6⟩,aY.2 q1,e1.trans (by rw[hf];first|done|rfl),e2⟩
 ·have hf:f={f with had:=false}:=by
   have hd:f.had=false:=hd
   rw[<-hd]
  refine⟨_,aiI,rfl,⟨a,f,t⟩,⟨aY.2 h,trivial⟩,by show [_,_,_]=[_,_,_];rw[hf];first|done|rfl,rfl,fun v h' hh=> ?_⟩
  obtain⟨y,h0,e1,e2⟩:=lK hh
  exact fK ⟨⟨a,{f with epoch:=a.c.now},5⟩,aY.2 q1,e1.trans (by rw[hf];first|done|rfl),e2⟩
 ·refine⟨_,OM,rfl,⟨a,f,t⟩,⟨aY.2 h,trivial⟩,rfl,rfl,fun v h' hh=> ?_⟩
  obtain⟨y,h0,e1,e2⟩:=lK hh
  exact fK ⟨⟨a.sJ t 0,f,7⟩,aY.2 q1,e1,e2⟩
 ·refine⟨_,arB,rfl,⟨a,f,t⟩,aY.2 trivial,rfl,rfl,fun v h' hh=> ?_⟩
  obtain⟨y,h0,e1,e2⟩:=lK hh
  exact fK ⟨⟨a,f,7⟩,aY.2 q1,e1,e2⟩
theorem aoy:bZ Tryz.prog 19 asE:=qw fun x hx=>by
 obtain⟨⟨a,f,ph⟩,t,b,n,q⟩:=x
 obtain⟨hn,hx⟩:=aY.1 hx
 have hn:n=0:=hn
 subst hn
 rcases hx with ⟨hp,_,h,q1⟩|⟨hp,_,h,q1,q2⟩|⟨hp,_,i,k,h,hl,q1⟩|⟨hp,ln,hf,h,q1,q2⟩|⟨hp,_,h,q1,q2⟩|⟨hp,_,hc,ln,hf,h,q1⟩|⟨hp,_,hd,ln,hl,h,q1⟩|⟨hp,_,hd,h,q1⟩|⟨hp,_,h,q1⟩|⟨hp,_,q1⟩
 all_goals (have hp:ph=_:=hp;subst hp)
 ·refine⟨_,OL,rfl,⟨a,f,t⟩,⟨aY.2 h,trivial⟩,rfl,rfl,fun v h' hh=> ?_⟩
  rcases qY hh with ⟨y,h0,e1,e2⟩|⟨y,h0,e1,e2⟩
  ·exact absurd (aY.1 h0).1 (by decide)
  ·exact fK ⟨⟨a.sJ t a.r.now,{f with epoch:=a.c.now},1⟩,aY.2 q1,e1,e2⟩
 ·refine⟨_,aow,rfl,⟨a,f,t⟩,⟨aY.2 h,trivial⟩,rfl,rfl,fun v h' hh=> ?_⟩
  rcases qY hh with ⟨y,h0,e1,e2⟩|⟨y,h0,e1,e2⟩
  ·exact fK ⟨⟨a,{f with had:=false,old:=qO},6⟩,aY.2 (q1 (aY.1 h0)),e1,e2⟩
  ·exact fK ⟨⟨a,{f with had:=true,old:=a.l.head,piece:=0},2⟩,aY.2 (q2 (aY.1 h0)),e1,e2⟩
 ·have hl:f.line=gY.line ⟨a.p,i,k⟩:=hl
  have hf:f={f with line:=gY.line ⟨a.p,i,k⟩}:=by rw[<-hl]
  refine⟨_,aox,rfl,⟨a,f,t,i,k⟩,⟨aY.2 h,trivial⟩,by show [_,_,_]=[_,_,_];rw[hf];first|done|rfl,rfl,fun v h' hh=> ?_⟩
  obtain⟨y,h0,e1,e2⟩:=lK hh
  exact fK ⟨⟨a.UR (a.p.give i k),{f with had:=false,old:=qO,line:= -1},6⟩,aY.2 q1,e1,e2⟩
 ·have hf:f=(ZRe.mk a.d t f b ln 0).fr 0:=hf
  have h1:=h.2.2.2.2.1
  have h1:((0:Nat):Int)<spn b.cls:=h1
  refine⟨_,Yj,rfl,⟨a,f,t,b,ln,0⟩,⟨aY.2 ⟨h,rfl⟩,trivial⟩,by show [_,_,_]=[_,_,_];rw[hf];first|done|rfl,rfl,fun v h' hh=> ?_⟩
  rcases afJ hh with ⟨y,h0,e1,e2⟩|⟨y,h0,e1,e2⟩|⟨y,h0,e1,e2⟩
  ·exact WS ⟨⟨a,{f with piece:=(1:Nat)},2⟩,aY.2 ⟨q1 (aY.1 h0),rfl⟩,e1.trans (by rw[hf];first|done|rfl),e2⟩
  ·obtain⟨h0,h2⟩:=aY.1 h0
   have h2:f.line<0:=h2
   refine fK ⟨⟨a,{f with piece:=(1:Nat),ans:=b.value},if f.line<0 then 3 else 5⟩,aY.2 (q2 h0),e1.trans ?_,e2⟩
   show _=ZFr.av _ 5 (if f.line<0 then 3 else 5) fO
   rw[if_pos h2,hf];rfl
  ·obtain⟨h0,h2⟩:=aY.1 h0
   have h2:0<=f.line:=h2
   refine fK ⟨⟨a,{f with piece:=(1:Nat),ans:=b.value},if f.line<0 then 3 else 5⟩,aY.2 (q2 h0),e1.trans ?_,e2⟩
   show _=ZFr.av _ 5 (if f.line<0 then 3 else 5) fO
   rw[if_neg (by omega),hf];rfl
 ·refine⟨_,Yi,rfl,⟨a,f,t⟩,⟨aY.2 h,trivial⟩,rfl,rfl,fun v h' hh=> ?_⟩
  have hc:(ZSt.mk a f t).c 5=0:=if_neg (by decide)
  rcases qY hh with ⟨y,h0,e1,e2⟩|⟨y,h0,e1,e2⟩
  ·have h0:=aY.1 h0
   rw[hc]at h0
   exact fK ⟨⟨a,{f with cls:=0,ans:=emp,code:=4},6⟩,aY.2 (q1 h0),e1,e2⟩
  ·have h0:=aY.1 h0
   rw[hc]at h0
   exact fK ⟨⟨a.UR (a.p.take 0 y.1 y.2),{f with cls:=0,line:=2+y.1*8+y.2*spn 0,piece:=0},4⟩,aY.2 (q2 _ _ h0),e1,e2⟩
 ·have hf:f={f with line:=(ln:Int),cls:=0,piece:=0}:=hf
  refine⟨_,JW,rfl,⟨a,f,t,ln,0,0⟩,⟨aY.2 ⟨h,rfl⟩,trivial⟩,by show [_,_,_]=[_,_,_];rw[hf];first|done|rfl,rfl,fun v h' hh=> ?_⟩
  rcases qY hh with ⟨y,h0,e1,e2⟩|⟨y,h0,e1,e2⟩
  ·exact absurd (show(1:Int)=spn 0 from rfl) (aY.1 h0)
  ·exact fK ⟨⟨a.Ry (ZWr.mk a.d t f ln 0 0).d',{f with piece:=0},5⟩,aY.2 q1,e1.trans (by rw[hf];first|done|rfl),e2⟩
 ·have hf:f={f with had:=true,line:=(ln:Int)}:=by
   have hd:f.had=true:=hd
   have hl:f.line=ln:=hl
   rw[<-hd,<-hl]
  refine⟨_,afm,rfl,⟨a,f,t,ln⟩,aY.2 h,by show [_,_,_]=[_,_,_];rw[hf];first|done|rfl,rfl,fun v h' hh=> ?_⟩
  obtain⟨y,h0,e1,e2⟩:=lK hh
  exact fK ⟨⟨(ZTs.pb ⟨a,f,5⟩ t ln).chg.deq,{f with found:=true,aep:=f.epoch,line:= -1},6⟩,aY.2 q1,e1.trans (by rw[hf];first|done|rfl),e2⟩
 ·have hf:f={f with had:=true}:=by
   have hd:f.had=true:=hd
   rw[<-hd]
  refine⟨_,aiJ,rfl,⟨a,f,t⟩,⟨aY.2 h,trivial⟩,by show [_,_,_]=[_,_,_];rw[hf];first|done|rfl,rfl,fun v h' hh=> ?_⟩
  obtain⟨y,h0,e1,e2⟩:=lK hh
  exact fK ⟨⟨a,{f with had:=false,old:=qO,ans:=emp,epoch:=a.c.now},1⟩,aY.2 q1,e1,e2⟩
 ·refine⟨_,OO,rfl,⟨a,f,t⟩,⟨aY.2 h,trivial⟩,rfl,rfl,fun v h' hh=> ?_⟩
  obtain⟨y,h0,e1,e2⟩:=lK hh
  exact fK ⟨⟨a.sJ t 0,f,7⟩,aY.2 q1,e1,e2⟩
 ·refine⟨_,arC,rfl,⟨a,f,t⟩,aY.2 trivial,rfl,rfl,fun v h' hh=> ?_⟩
  obtain⟨y,h0,e1,e2⟩:=lK hh
  exact fK ⟨⟨a,f,7⟩,aY.2 q1,e1,e2⟩
theorem aoz:bZ Tryz.prog 19 asF:=qw fun x hx=>by
 obtain⟨⟨a,f,ph⟩,t,b,n,q⟩:=x
 obtain⟨hn,hp,hx⟩:=aY.1 hx
 have hn:n≠0:=hn
 have hp:ph=2:=hp
 subst hp
 rcases hx with ⟨hp,_⟩|⟨hp,_⟩|⟨hp,_⟩|⟨hp,ln,hf,h,q1,q2⟩|⟨hp,_⟩|⟨hp,_⟩|⟨hp,_⟩|⟨hp,_⟩|⟨hp,_⟩|⟨hp,_⟩
 all_goals try exact absurd hp (by show¬(2:Int)=_;decide)
 have hf:f=(ZRe.mk a.d t f b ln n).fr n:=hf
 refine⟨_,Yk,rfl,⟨a,f,t,b,ln,n⟩,⟨aY.2 ⟨h,hn⟩,trivial⟩,by show [_,_,_]=[_,_,_];rw[hf];first|done|rfl,rfl,fun v h' hh=> ?_⟩
 rcases afJ hh with ⟨y,h0,e1,e2⟩|⟨y,h0,e1,e2⟩|⟨y,h0,e1,e2⟩
 ·exact WS ⟨⟨a,{f with piece:=(n+1:Nat)},2⟩,aY.2 ⟨q1 (aY.1 h0),rfl⟩,e1.trans (by rw[hf];first|done|rfl),e2⟩
 ·obtain⟨h0,h2⟩:=aY.1 h0
  have h2:f.line<0:=h2
  refine fK ⟨⟨a,{f with piece:=(n+1:Nat),ans:=b.value},if f.line<0 then 3 else 5⟩,aY.2 (q2 h0),e1.trans ?_,e2⟩
  show _=ZFr.av _ 5 (if f.line<0 then 3 else 5) fO
  rw[if_pos h2,hf];rfl
 ·obtain⟨h0,h2⟩:=aY.1 h0
  have h2:0<=f.line:=h2
  refine fK ⟨⟨a,{f with piece:=(n+1:Nat),ans:=b.value},if f.line<0 then 3 else 5⟩,aY.2 (q2 h0),e1.trans ?_,e2⟩
  show _=ZFr.av _ 5 (if f.line<0 then 3 else 5) fO
  rw[if_neg (by omega),hf];rfl

def pOf:AV->Nat
 | .ptr i _=>i
 |_=>0
def oz(h:Heap)(i:Nat):List Nat:=match h.get i with
 |some (.cells _ (.av [d0,p,r,c,b,t,o,l,_,_,ef]))=>match h.get (pOf d0)with
  |some (.cells _ (.av (d::_)))=>[i,pOf d0,pOf d,pOf p,pOf r,pOf c,pOf b,pOf t,pOf o,pOf l]++(match ef with
   | .slW j _ _ _=>[j]
   |_=>[])
  |_=>[]
 |_=>[]
def axB(a:dF)(ids:List Nat)(h:Heap):Prop:=bif Nat.beq ids.length 10 then a.n=0/\He (atL ids) 10 h 0 a.osN else a.n≠0/\He (atL ids) 11 h 0 a.osP
def aoA(A:SE.Own)(ids:List Nat)(h:Heap):Heap:=(agF ids h).set (atL ids 0) (.abs A)
def isAbs:Option dw->Bool
 |some (.abs _)=>true
 |_=>false
noncomputable def aoB(T:WTr):WTr:=fun args h K=>match args with
 | .ptr i z::r=>bif isAbs (h.get i)then T (.ptr i z::r) h K else
  bif Vb 0 (oz h i) (oz h i).length&&(Nat.beq (oz h i).length 10||Nat.beq (oz h i).length 11)then∃a:dF,axB a (oz h i) h/\T (.ptr i z::r) (aoA (bK a.os) (oz h i) h) K else False
 |_=>False
theorem UD{P:Program}{f:FuncId}{T:WTr}(hT: ∀args h K,T args h K->Sp P f args h K)(args:List AV)(h:Heap)(K:AV->Heap->Prop)(hq:aoB T args h K):Sp P f args h K:=by
 unfold aoB at hq
 split at hq
 ·rename_i i z r
  cases ha:isAbs (h.get i)<;>rw[ha]at hq
  ·generalize oz h i=ids at hq
   cases hb:(Vb 0 ids ids.length&&(Nat.beq ids.length 10||Nat.beq ids.length 11))<;>rw[hb]at hq
   ·exact hq.elim
   ·simp only[aI,Bool.or_eq_true]at hb
    obtain⟨b1,b2⟩:=hb
    obtain⟨a,hs,hq⟩:=hq
    unfold axB at hs
    cases hl:Nat.beq ids.length 10<;>rw[hl]at hs
    ·have hl:ids.length=11:=by
      rcases b2 with b2|b2
      ·rw[b2]at hl;cases hl
      ·exact ak b2
     rw[hl]at b1
     refine VK (Φ:=fun h=>h=hOf a.osP) 11 ids a.osP rfl rfl b1 rfl hs.2 (hT _ _ _ ?_)
     have e:uS (fun h=>h=hOf a.osP) ids h=aoA (bK a.os) ids h:=by
      unfold uS aoA;rw[Qp,sH hs.1];rfl
     rw[e];exact hq
    ·have hl:ids.length=10:=ak hl
     rw[hl]at b1
     refine VK (Φ:=fun h=>h=hOf a.osN) 10 ids a.osN rfl rfl b1 rfl hs.2 (hT _ _ _ ?_)
     have e:uS (fun h=>h=hOf a.osN) ids h=aoA (bK a.os) ids h:=by
      unfold uS aoA;rw[Qp,y5 hs.1];rfl
     rw[e];exact hq
  ·exact hT _ _ _ hq
 ·exact hq.elim
structure ZWk where
 c:fD
 d:dS
 ph:Nat
 q:fD->dS->Nat->Prop
structure aoC where
 c:fD
 d:dS
 ph:Nat
 u:Int
 v:Int
noncomputable def axC:Ctr:={X:=ZWk,args:=fun _=>[.ptr 0 0,.ptr 1 0],k:=2,os:=fun x=>[.abs (bK (x.c.os x.ph)),.abs (bK x.d.os)],pre:=fun x=>Hd (wK x.c x.d x.ph x.q),outs:=[{Y:=aoC,post:=fun x y=>Hd (x.q y.c y.d y.ph),ret:=fun _ y=> .tup [i64 y.u,i64 y.v],m:=2,os:=fun _ y=>[.abs (bK (y.c.os y.ph)),.abs (bK y.d.os)]}]}
theorem arE:bZ Tryz.prog 24 axC:=qw fun x hx=>by
 obtain⟨c,d,ph,q⟩:=x
 rcases aY.1 hx with ⟨hp,h,q1⟩|⟨hp,h,q1,q2⟩|⟨hp,h,q1⟩|⟨hp,h,q1⟩|⟨hp,h,q1⟩
 all_goals (have hp:ph=_:=hp;subst hp)
 ·refine⟨_,aov,rfl,⟨c,d,0⟩,aY.2 h,rfl,rfl,fun v h' hh=> ?_⟩
  obtain⟨y,h0,e1,e2⟩:=lK hh
  exact fK ⟨⟨c,d,0,0,12⟩,aY.2 q1,e1,e2⟩
 ·refine⟨_,aor,rfl,⟨c,d,1⟩,aY.2 h,rfl,rfl,fun v h' hh=> ?_⟩
  rcases qY hh with ⟨y,h0,e1,e2⟩|⟨y,h0,e1,e2⟩
  ·have h0:=aY.1 h0
   exact fK ⟨⟨c.adL y,d.flush y,1,1,0⟩,aY.2 (q1 y h0.1 h0.2.1 h0.2.2),e1,e2⟩
  ·have h0:=aY.1 h0
   exact fK ⟨⟨c,d.fence,2,2,0⟩,aY.2 (q2 h0),e1,e2⟩
 ·refine⟨_,aos,rfl,⟨c,d,2⟩,aY.2 h,rfl,rfl,fun v h' hh=> ?_⟩
  obtain⟨y,h0,e1,e2⟩:=lK hh
  exact fK ⟨⟨c,d.store 1 0 64 (jw c.jU),3,3,0⟩,aY.2 q1,e1,e2⟩
 ·refine⟨_,aot,rfl,⟨c,d,3⟩,aY.2 h,rfl,rfl,fun v h' hh=> ?_⟩
  obtain⟨y,h0,e1,e2⟩:=lK hh
  exact fK ⟨⟨c,d.flush 1,4,1,0⟩,aY.2 q1,e1,e2⟩
 ·refine⟨_,aou,rfl,⟨c,d,4⟩,aY.2 h,rfl,rfl,fun v h' hh=> ?_⟩
  obtain⟨y,h0,e1,e2⟩:=lK hh
  exact fK ⟨⟨c.fin,d.fence,0,2,0⟩,aY.2 q1,e1,e2⟩
structure asK where
 z:Int
 m:Nat
noncomputable def lowC:Ctr:={X:=asK,args:=fun x=>[i64 x.z,i64 x.m],k:=0,os:=fun _=>[],pre:=fun x=>Hd (1<=x.m/\x.m<=1000),outs:=[{Y:=Nat,post:=fun x k=>Hd (k<x.m),ret:=fun _ k=>i64 k,m:=0,os:=fun _ _=>[]}]}
noncomputable def agk:WTr:=fun args h K=>match args with
 |[a,t,.agg l]=>(bif decide (axj l 0=4)then eG axe else bif hasB l then eG asF else eG asE) [a,t,.agg l] h K
 |_=>False
theorem Y5(args:List AV)(h:Heap)(K:AV->Heap->Prop)(hq:agk args h K):Sp Tryz.prog 19 args h K:=by
 unfold agk at hq
 split at hq
 ·exact nO _ (bU arD) (nO _ (bU aoz) (bU aoy)) _ _ _ hq
 ·exact hq.elim
structure ZGh where
 c:fD
 d:dS
 lo:Nat
structure ZEj where
 c:fD
 d:dS
 ph:Nat
 j:Nat
structure ZRq where
 a:dF
 key:ByteArray
 v:ByteArray
 b:dN
 I:Nat->Nat->ZTs->Prop
 q:ZTs->Prop
structure ZRk where
 s:ZTs
 k:Nat
 m:Nat
noncomputable def axD:Ctr:={X:=ZRq,args:=fun x=>[.ptr 0 0,i64 0,aiv 5 x.key x.v],k:=1,os:=fun x=>[.abs (bK x.a.os)],pre:=fun x=>Hd (x.I 1 0 ⟨x.a,f0 x.key x.v,0⟩/\ ∀k m s,x.I k m s->k<=50/\s.ph≠7/\wD 0 x.b m s (fun m' y=>(y.ph=7/\m'=0/\x.q y)\/x.I (k+1) m' y)),outs:=[
 {Y:=ZRk,post:=fun x y=>Hd (x.q y.s),ret:=fun _ y=> .tup [asG y.s.f.code y.s.f.found y.s.f.ans y.s.f.aep,i64 y.k,boo true],m:=1,os:=fun _ y=>[.abs (bK y.s.a.os)]}]}
noncomputable def annQ(x:ZRq):FuncId->tK:=fun f=>bif Nat.beq f 15 then(fun b _ h=>bif Nat.beq b 0 then [
 {σ:=ZRk,fr:=fun s=>[(10,i64 s.k)],ob:=fun s=>[(0,some (.abs (bK s.s.a.os))),(3,some (au3 s.s.f 5 s.s.ph fO))],inv:=fun s=>Hd (1<=s.k/\x.I s.k 0 s.s),meas:=fun s=>101-s.k,test:=fun _ h=> !byAt h},
 {σ:=ZRk,fr:=fun s=>[(10,i64 s.k)],ob:=fun s=>[(0,some (.abs (bK s.s.a.os))),(3,some (au3 s.s.f 5 2 (.slW h.next 0 1 (64*s.m)))),(h.next,some (GN x.b.enc (64*s.m)))],nx:=1,inv:=fun s=>Hd (1<=s.k/\s.m≠0/\s.s.ph=2/\x.I s.k s.m s.s),meas:=fun s=>101-s.k,test:=fun _ h=>byAt h}]else [])else fun _ _ _=>[]
noncomputable def axE:jY:=[(17,Yt),(19,agk)]
def uM:Prop:=Value.slice none 0 0=Value.slice none 0 0
def aoD(a:ZFr)(b:ZFr):Prop:=a.code=b.code/\a.found=b.found/\a.ans=b.ans/\uM/\uM/\a.aep=b.aep/\True
def BM:Prop:=ByteArray.mk #[]=ByteArray.mk #[]
def aoE:Prop:=false=false/\BM/\uM/\uM/\(0:Int)=0/\True
def Pn(a:dF)(b:dF):Prop:=bK a.os=bK b.os/\True
def agl(a:ZRq)(b:dF)(c:dF):Prop:=((0:Int)=0/\aoE)/\((5:Int)=5/\a.key=a.key/\a.v=a.v/\BM/\uM/\True)/\Pn b c
def Y6(a:ZFr)(b:ZFr):Prop:=(0:Int)=0/\uM/\aoD a b
def avq(a:ZTs)(b:ZTs):Prop:=(5:Int)=5/\a.f.key=b.f.key/\a.f.value=b.f.value/\BM/\uM/\a.ph=b.ph/\a.f.epoch=b.f.epoch/\BM/\false=false/\(0:Int)=0/\a.f.had=b.f.had/\a.f.old.key=b.f.old.key/\a.f.old.id=b.f.old.id/\a.f.old.ver=b.f.old.ver/\a.f.old.line=b.f.old.line/\a.f.old.cls=b.f.old.cls/\a.f.line=b.f.line/\a.f.cls=b.f.cls/\a.f.piece=b.f.piece/\uM/\Y6 a.f b.f
def avr(a:ZWd)(b:ZRq)(c:Nat):Prop:= ∀y:ZTs,Hd (a.q 0 y)->cP (BEq.beq y.ph (7:Int)) (∃y_1:ZRk,Hd (b.q y_1.s)/\(aoD y_1.s.f y.f/\(y_1.k:Int)=(c:Int)/\true=true/\True)/\Pn y_1.s.a y.a) (I64 ((c:Int)+1)/\ ∃s_1:ZRk,Hd (1<=s_1.k/\b.I s_1.k 0 s_1.s)/\101-s_1.k<101-c/\((s_1.k:Int)=(c:Int)+1/\True)/\avq s_1.s y/\agl b s_1.s.a y.a)
def aoF(a:ZFr):Prop:=a.code=0/\a.found=false/\a.ans=ByteArray.mk #[]/\uM/\uM/\a.aep=0/\True
def aoG(a:ZRq)(b:dF):Prop:= ∃y:ZRk,Hd (a.q y.s)/\(aoF y.s.f/\(y.k:Int)=0/\true=false/\True)/\Pn y.s.a b
def agm(a:ZRk)(b:ZRq):Prop:=Hd (1<=a.k/\a.m≠0/\a.s.ph=2/\b.I a.k a.m a.s)
def aoH(x:ZRq):Prop:=
 (∃s:ZRk,Hd (1<=s.k/\x.I s.k 0 s.s)/\True/\((s.k:Int)=1/\True)/\((5:Int)=5/\s.s.f.key=x.key/\s.s.f.value=x.v/\BM/\uM/\s.s.ph=0/\s.s.f.epoch=0/\BM/\false=false/\(0:Int)=0/\s.s.f.had=false/\s.s.f.old.key=ByteArray.mk #[]/\s.s.f.old.id=0/\s.s.f.old.ver=0/\s.s.f.old.line=0/\s.s.f.old.cls=0/\s.s.f.line=(-(1:Int))/\s.s.f.cls=0/\s.s.f.piece=0/\uM/\(0:Int)=0/\uM/\aoF s.s.f)/\((0:Int)=0/\aoE)/\((5:Int)=5/\x.key=x.key/\x.v=x.v/\BM/\uM/\True)/\Pn s.s.a x.a)/\(∀s:ZRk,Hd (1<=s.k/\x.I s.k 0 s.s)->cP (decide ((s.k:Int)<=100)) (∃x_1:ZWd,Hd (x_1.n=0/\wD x_1.t x_1.b 0 x_1.s x_1.q)/\(0=0/\(x_1.t:Int)=0/\avq x_1.s s.s/\True)/\Pn x_1.s.a s.s.a/\avr x_1 x s.k/\ ∀y:ZTs,Hd (x_1.q 1 y/\y.ph=2)->I64 ((s.k:Int)+1)/\ ∃s_1:ZRk,agm s_1 x/\101-s_1.k<101-s.k/\((s_1.k:Int)=(s.k:Int)+1/\True)/\(64*s_1.m=64/\ ∀q:Nat,q<64*s_1.m->[Value.int .u8 (x.b.enc q)]=[Value.int .u8 (x_1.b.enc q)])/\((5:Int)=5/\s_1.s.f.key=y.f.key/\s_1.s.f.value=y.f.value/\BM/\uM/\(2:Int)=2/\s_1.s.f.epoch=y.f.epoch/\BM/\false=false/\(0:Int)=0/\s_1.s.f.had=y.f.had/\s_1.s.f.old.key=y.f.old.key/\s_1.s.f.old.id=y.f.old.id/\s_1.s.f.old.ver=y.f.old.ver/\s_1.s.f.old.line=y.f.old.line/\s_1.s.f.old.cls=y.f.old.cls/\s_1.s.f.line=y.f.line/\s_1.s.f.cls=y.f.cls/\s_1.s.f.piece=y.f.piece/\(0=0/\64*s_1.m=64)/\Y6 s_1.s.f y.f)/\agl x s_1.s.a y.a) (aoG x s.s.a))/\(∀s:ZRk,agm s x->cP (decide ((s.k:Int)<=100)) (∃x_1:ZWd,Hd (x_1.n≠0/\x_1.s.ph=2/\wD x_1.t x_1.b x_1.n x_1.s x_1.q)/\(0=0/\(x_1.t:Int)=0/\((5:Int)=5/\
 x_1.s.f.key=s.s.f.key/\x_1.s.f.value=s.s.f.value/\BM/\uM/\(2:Int)=2/\x_1.s.f.epoch=s.s.f.epoch/\BM/\false=false/\(0:Int)=0/\x_1.s.f.had=s.s.f.had/\x_1.s.f.old.key=s.s.f.old.key/\x_1.s.f.old.id=s.s.f.old.id/\x_1.s.f.old.ver=s.s.f.old.ver/\x_1.s.f.old.line=s.s.f.old.line/\x_1.s.f.old.cls=s.s.f.old.cls/\x_1.s.f.line=s.s.f.line/\x_1.s.f.cls=s.s.f.cls/\x_1.s.f.piece=s.s.f.piece/\(0=0/\64*x_1.n=64*s.m)/\Y6 x_1.s.f s.s.f)/\True)/\(bK x_1.s.a.os=bK s.s.a.os/\(64*x_1.n=64*s.m/\ ∀q:Nat,q<64*x_1.n->[Value.int .u8 (x_1.b.enc q)]=[Value.int .u8 (x.b.enc q)])/\True)/\avr x_1 x s.k/\ ∀y:ZTs,Hd (x_1.q (x_1.n+1) y/\y.ph=2)->I64 ((s.k:Int)+1)/\ ∃s_1:ZRk,agm s_1 x/\101-s_1.k<101-s.k/\((s_1.k:Int)=(s.k:Int)+1/\True)/\(64*s_1.m=64*(x_1.n+1)/\ ∀q:Nat,q<64*s_1.m->[Value.int .u8 (x.b.enc q)]=[Value.int .u8 (x_1.b.enc q)])/\((5:Int)=5/\s_1.s.f.key=y.f.key/\s_1.s.f.value=y.f.value/\BM/\uM/\(2:Int)=2/\s_1.s.f.epoch=y.f.epoch/\BM/\false=false/\(0:Int)=0/\s_1.s.f.had=y.f.had/\s_1.s.f.old.key=y.f.old.key/\s_1.s.f.old.id=y.f.old.id/\s_1.s.f.old.ver=y.f.old.ver/\s_1.s.f.old.line=y.f.old.line/\s_1.s.f.old.cls=y.f.old.cls/\s_1.s.f.line=y.f.line/\s_1.s.f.cls=y.f.cls/\s_1.s.f.piece=y.f.piece/\(0=0/\64*s_1.m=64*(x_1.n+1))/\Y6 s_1.s.f y.f)/\agl x s_1.s.a y.a) (aoG x s.s.a))/\True
theorem aoI(x:ZRq):aoH x=wpF Tryz.prog axE tt (annQ x) 200 6 15 (axD.args x) (hO 1 (axD.os x)) (fun v h'=>fA 1 x v h' axD.outs):=by kernel_rfl
set_option maxHeartbeats 1000000 in
theorem acB(x:ZRq)(hx:axD.pre x):aoH x:=by
 obtain⟨h0,hI⟩:=aY.1 hx
 have end0: ∀(k:Nat) (y:ZTs),1<=k->k<=50->((y.ph=7/\(0:Nat)=0/\x.q y)\/x.I (k+1) 0 y)->(y.ph=7->x.q y)/\(y.ph≠7->x.I (k+1) 0 y):=fun k y _ _ h=>by
  rcases h with ⟨h1,_,h2⟩|h
  ·exact⟨fun _=>h2,fun h3=>absurd h1 h3⟩
  ·exact⟨fun h3=>absurd h3 (hI _ _ _ h).2.1,fun _=>h⟩
 have i64k: ∀k:Nat,k<=50->I64 ((k:Int)+1):=fun k hk=>by unfold I64;omega
 unfold aoH
 simp only[BM,uM,aoF,aoE,Pn,avq,avr,agm,Y6,agl,aoG,aoD]
 simp only[aY,aU,aT,ay,aH,bP,bC,aN,aJ,au,aW,aV,bQ,bF,bG,bH,bT,bf,bJ,aZ,dZ,aG,aK,ah,aj,aA,aC,aB,aF]
 refine⟨⟨⟨⟨x.a,f0 x.key x.v,0⟩,1,0⟩,⟨aX _,h0⟩,rfl,by repeat' (first|exact rfl|refine And.intro ?_ ?_),rfl⟩,fun s hs=> ?_,fun s hs=> ?_⟩
 ·obtain⟨h1,h2⟩:=hs
  obtain⟨k50,h7,hw⟩:=hI _ _ _ h2
  refine bg (fun _=>⟨⟨s.s,0,x.b,0,_⟩,⟨rfl,hw⟩,by repeat' (first|exact rfl|refine And.intro ?_ ?_),rfl,fun y hy=> ?_,fun y hy=> ?_⟩) fun h=>absurd (aS h) (by omega)
  ·obtain⟨e1,e2⟩:=end0 s.k y h1 k50 hy
   refine bg (fun h=>⟨⟨y,s.k,0⟩,e1 (beq_iff_eq.1 h),by repeat' (first|exact rfl|refine And.intro ?_ ?_),rfl⟩) fun h=>⟨i64k _ k50,⟨y,s.k+1,0⟩,⟨by show 1<=s.k+1;omega,e2 (by simpa using h)⟩,by show 101-(s.k+1)<_;omega,by show((s.k+1:Nat):Int)=_;omega,by repeat' (first|exact rfl|refine And.intro ?_ ?_),rfl⟩
  ·obtain⟨hy,hp⟩:=hy
   rcases hy with ⟨h3,_⟩|hy
   ·exact absurd (hp.symm.trans h3) (by decide)
   ·exact⟨i64k _ k50,⟨y,s.k+1,1⟩,⟨by show 1<=s.k+1;omega,by show¬(1:Nat)=0;decide,hp,hy⟩,by show 101-(s.k+1)<_;omega,by show((s.k+1:Nat):Int)=_;omega,⟨rfl,fun _ _=>rfl⟩,by repeat' (first|exact rfl|refine And.intro ?_ ?_),rfl⟩
 ·obtain⟨h1,hm,hph,h2⟩:=hs
  obtain⟨k50,h7,hw⟩:=hI _ _ _ h2
  refine bg (fun _=>⟨⟨s.s,0,x.b,s.m,_⟩,⟨hm,hph,hw⟩,by repeat' (first|exact rfl|refine And.intro ?_ ?_),⟨rfl,rfl,fun _ _=>rfl⟩,fun y hy=> ?_,fun y hy=> ?_⟩) fun h=>absurd (aS h) (by omega)
  ·obtain⟨e1,e2⟩:=end0 s.k y h1 k50 hy
   refine bg (fun h=>⟨⟨y,s.k,0⟩,e1 (beq_iff_eq.1 h),by repeat' (first|exact rfl|refine And.intro ?_ ?_),rfl⟩) fun h=>⟨i64k _ k50,⟨y,s.k+1,0⟩,⟨by show 1<=s.k+1;omega,e2 (by simpa using h)⟩,by show 101-(s.k+1)<_;omega,by show((s.k+1:Nat):Int)=_;omega,by repeat' (first|exact rfl|refine And.intro ?_ ?_),rfl⟩
  ·obtain⟨hy,hp⟩:=hy
   rcases hy with ⟨h3,_⟩|hy
   ·exact absurd (hp.symm.trans h3) (by decide)
   ·exact⟨i64k _ k50,⟨y,s.k+1,s.m+1⟩,⟨by show 1<=s.k+1;omega,by show s.m+1≠0;omega,hp,hy⟩,by show 101-(s.k+1)<_;omega,by show((s.k+1:Nat):Int)=_;omega,⟨rfl,fun _ _=>rfl⟩,by repeat' (first|exact rfl|refine And.intro ?_ ?_),rfl⟩
theorem arF:fJ Tryz.prog axE:= .cons JX (.cons Y5 .nil)
theorem avs:bZ Tryz.prog 15 axD:=gB dB mixed arF annQ 200 6 (fun _=>rfl) (fun _=>⟨fun _=>rfl,trivial⟩) fun x hx=>Eq.mp (aoI x) (acB x hx)
def zEnt:iF:=⟨0,0,0,0,0⟩
noncomputable def axF:Ctr:=det D6 (fun x=>[.ptr 0 0,.ptr 1 0,u64 x.d]) 2 D6.os (fun x=>Hd (x.b.ok/\x.r.ok/\ ∀k,k<x.b.n-> ¬x.rd k)) (fun _=> .tup [zEnt.av,boo false]) 2 D6.os
noncomputable def asL:jY:=[(109,eG YO)]
def axG(ph:Nat):jR:=nG fD (fun _=>[.ptr 0 0]) 1 (fun c=>[.m (c.os ph)]) (fun c=>Hd c.ok) (fun c=>u64 c.dur) 1 (fun c=>[.m (c.os ph)])
def axH:jR:=nG ZRd (fun _=>[.ptr 0 0]) 1 (fun r=>[.m r.os]) (fun r=>Hd r.ok) (fun r=>u64 (r.now+1)) 1 (fun r=>[.m (ZRd.os {r with now:=r.now+1})])
structure ai1 where
 b:iV
 r:ZRd
 c:fD
noncomputable def ai1.os(x:ai1):List dw:=[abp .any (.ptr 2 0) (.ptr 3 0) (.ptr 1 0) .any .any .any,.abs (bK x.b.os),.abs (bK x.r.os),.abs (bK (x.c.os 0))]
noncomputable def avQ:Ctr:=det ai1 (fun _=>[.ptr 0 0]) 4 ai1.os (fun x=>Hd (x.b.ok/\x.r.ok/\x.c.ok/\ ∀k,k<x.b.n-> ¬D6.rd ⟨x.b,x.r,x.c.dur⟩ k)) (fun _=> .tup [zEnt.av,i64 12]) 4 ai1.os
noncomputable def asM:jY:=[(60,eG axF),(61,eG (axG 0).ctr)]
def arG:Prop:=(0:Int)=0/\(0:Int)=0/\(0:Int)=0/\(0:Int)=0/\(0:Int)=0/\True
def avt(x:D6):Prop:=
 ∃x_1:D6,Hd (x_1.b.ok/\x_1.r.ok)/\(0=0/\0=0/\x_1.d=x.d/\True)/\(bK x_1.b.os=bK x.b.os/\bK x_1.r.os=bK x.r.os/\True)/\(∀y:Unit,Hd (∀k:Nat,k<x_1.b.n->Not (x_1.rd k))-> ∃y_1:Unit,True/\(arG/\false=false/\True)/\bK x.b.os=bK x_1.b.os/\bK x.r.os=bK x_1.r.os/\True)/\ ∀y:Nat,Hd (y<x_1.b.n/\x_1.rd y/\ ∀j:Nat,j<y->Not (x_1.rd j))->False
theorem arH(x:D6):avt x=wpF Tryz.prog asL tt (noA x) 200 5 60 (axF.args x) (hO 2 (axF.os x)) (fun v h'=>fA 2 x v h' axF.outs):=by kernel_rfl
def avu(x:fD):Prop:=
 ∃y:Unit,True/\x.dur=x.dur/\((x.now=x.now/\x.dur=x.dur/\x.jU=x.jU/\(0=0/\x.t=x.t/\x.t=x.t)/\True)/\(258=258/\ ∀q:Nat,q<258->[Value.bool (x.N q)]=[Value.bool (x.N q)])/\(258=258/\ ∀q:Nat,q<258->[Value.bool (x.L q)]=[Value.bool (x.L q)])/\Value.nilFunc=Value.nilFunc/\True)/\(x.t=x.t/\ ∀q:Nat,q<x.t->[Value.int .i64 (x.o q)]=[Value.int .i64 (x.o q)])/\True
theorem arI(x:fD):avu x=wpF Tryz.prog tV tt (noA x) 200 5 61 ((axG 0).args x) (hO 2 (dO 1 ((axG 0).l x))) (fun v h'=>dA 1 x v h' (axG 0).outs):=by kernel_rfl
def avv(x:ZRd):Prop:=
 ∃y:Unit,True/\x.now+1=IntKind.wrap .u64 (x.now+1)/\(x.now+1=IntKind.wrap .u64 (x.now+1)/\(0=0/\x.t=x.t/\x.t=x.t)/\True)/\(x.t=x.t/\ ∀q:Nat,q<x.t->[Value.int .u64 (x.has q)]=[Value.int .u64 (x.has q)])/\True
theorem arJ(x:ZRd):avv x=wpF Tryz.prog tV tt (noA x) 200 5 28 (axH.args x) (hO 2 (dO 1 (axH.l x))) (fun v h'=>dA 1 x v h' axH.outs):=by kernel_rfl
def avw(x:ai1):Prop:=
 ∃x_1:fD,Hd x_1.ok/\(0=0/\True)/\(bK (x_1.os 0)=bK (x.c.os 0)/\True)/\ ∀y:Unit,True-> ∃x_2:D6,Hd (x_2.b.ok/\x_2.r.ok/\ ∀k:Nat,k<x_2.b.n->Not (x_2.rd k))/\(0=0/\0=0/\x_2.d=x_1.dur/\True)/\(bK x_2.b.os=bK x.b.os/\bK x_2.r.os=bK x.r.os/\True)/\ ∀y_1:Unit,True-> ∃y_2:Unit,True/\(arG/\(12:Int)=12/\True)/\(True/\True/\0=0/\0=0/\0=0/\True/\True/\True/\True/\True/\True/\True)/\bK x.b.os=bK x_2.b.os/\bK x.r.os=bK x_2.r.os/\bK (x.c.os 0)=bK (x_1.os 0)/\True
theorem arK(x:ai1):avw x=wpF Tryz.prog asM tt (noA x) 200 5 29 (avQ.args x) (hO 4 (avQ.os x)) (fun v h'=>fA 4 x v h' avQ.outs):=by kernel_rfl
theorem aiK(x:D6)(hx:x.b.ok/\x.r.ok/\ ∀k,k<x.b.n-> ¬x.rd k):avt x:=by
 unfold avt
 simp only[arG]
 simp only[aY,aU,aT,ay,aH,bP,bC,aN,aJ,au,aW,aV,bQ,bF,bG,bH,bT,bf,bJ,aZ,dZ,aG,aK,ah,aj,aA,aC,aB,aF]
 exact⟨x,⟨hx.1,hx.2.1⟩,rfl,⟨rfl,rfl⟩,fun _=>⟨rfl,rfl⟩,fun y hy=>hx.2.2 y hy.1 hy.2.1⟩
theorem aiL(x:fD)(hx:x.ok):avu x:=by
 unfold avu
 simp only[aY,aU,aT,ay,aH,bP,bC,aN,aJ,au,aW,aV,bQ,bF,bG,bH,bT,bf,bJ,aZ,dZ,aG,aK,ah,aj,aA,aC,aB,aF]
theorem aiM(x:ZRd)(hx:x.ok):avv x:=by
 obtain⟨_,_,h1,h2⟩:=hx
 unfold avv
 simp only[aY,aU,aT,ay,aH,bP,bC,aN,aJ,au,aW,aV,bQ,bF,bG,bH,bT,bf,bJ,aZ,dZ,aG,aK,ah,aj,aA,aC,aB,aF]
 show x.now+1=(x.now+1)%18446744073709551616
 omega
theorem aiN(x:ai1)(hx:x.b.ok/\x.r.ok/\x.c.ok/\ ∀k,k<x.b.n-> ¬D6.rd ⟨x.b,x.r,x.c.dur⟩ k):avw x:=by
 unfold avw
 simp only[arG]
 simp only[aY,aU,aT,ay,aH,bP,bC,aN,aJ,au,aW,aV,bQ,bF,bG,bH,bT,bf,bJ,aZ,dZ,aG,aK,ah,aj,aA,aC,aB,aF]
 exact⟨x.c,hx.2.2.1,rfl,⟨x.b,x.r,x.c.dur⟩,⟨hx.1,hx.2.1,hx.2.2.2⟩,rfl,⟨rfl,rfl⟩,rfl,rfl,rfl⟩
theorem aoJ:fJ Tryz.prog asL:= .cons (bU aru) .nil
theorem acC:bZ Tryz.prog 60 axF:=dV dB mixed aoJ noA 200 5 (fun _=>rfl) (fun _=>rfl) fun x hx=>Eq.mp (arH x) (aiK x (aY.1 hx))
theorem axI:bZ Tryz.prog 61 (axG 0).ctr:=dK dB mixed fC 2 noA 200 5 (fun _=>⟨rfl,rfl,rfl,rfl⟩) fun x hx=>Eq.mp (arI x) (aiL x (aY.1 hx))
theorem axJ:bZ Tryz.prog 28 axH.ctr:=dK dB mixed fC 2 noA 200 5 (fun _=>⟨rfl,rfl,rfl,rfl⟩) fun x hx=>Eq.mp (arJ x) (aiM x (aY.1 hx))
theorem aoK:fJ Tryz.prog asM:= .cons (bU acC) (.cons (bU axI) .nil)
theorem Ku:bZ Tryz.prog 29 avQ:=dV dB mixed aoK noA 200 5 (fun _=>rfl) (fun _=>rfl) fun x hx=>Eq.mp (arK x) (aiN x (aY.1 hx))
structure ZTh where
 f:ZFr
 ph:Int
 tk:Nat
 hl:Nat
 q:Nat
 fd:Nat
def HH(a:dF)(x:ZTh):Prop:=(x.f.line= -1/\x.tk=0)\/(x.f.cls=0/\x.f.line=x.hl/\Hold a x.hl 0/\x.tk=1)
def FQ(n o:Nat)(B:Nat->dN)(LN:Nat->Nat)(x:ZTh):Prop:=x.q<=o/\x.q<n/\x.f.had=true/\x.f.old=lk B LN x.q
def TI(n o:Nat)(B:Nat->dN)(LN:Nat->Nat)(a:dF)(has:Int)(x:ZTh):Prop:=x.f.value.size=0/\x.f.code=0/\(
 (x.ph=0/\has=0/\x.f.line= -1/\x.tk=0/\x.fd=0/\x.f.found=false)\/
 (x.ph=1/\x.f.epoch=1/\HH a x/\x.fd=0/\x.f.found=false)\/
 (x.ph=2/\x.f.epoch=1/\HH a x/\x.fd=0/\x.f.found=false/\FQ n o B LN x/\x.f.piece=0)\/
 (x.ph=3/\x.f.epoch=1/\x.tk=0/\x.fd=0/\x.f.found=false/\FQ n o B LN x/\x.f.ans=(B x.q).value)\/
 (x.ph=4/\x.f.epoch=1/\x.f.cls=0/\x.f.piece=0/\x.f.line=x.hl/\Hold a x.hl 0/\x.tk=1/\x.fd=0/\x.f.found=false/\FQ n o B LN x/\x.f.ans=(B x.q).value)\/
 (x.ph=5/\x.f.epoch=1/\x.f.cls=0/\x.f.line=x.hl/\Hold a x.hl 0/\x.tk=1/\x.fd=0/\x.f.found=false/\FQ n o B LN x/\x.f.ans=(B x.q).value)\/
 ((x.ph=6\/x.ph=7)/\((x.f.found=true/\x.tk=1/\x.fd=1)\/(x.f.found=false/\x.tk=0/\x.fd=0/\o=n))))
def axK(x:ZTh):Nat:=if x.ph=0 then 7 else if x.ph=1 then(if x.tk=1 then 4 else 6)else if x.ph=2 then(if x.tk=1 then 3 else 5)else if x.ph=3 then 4 else if x.ph=4 then 3 else 2
def phi(o:Nat)(x:ZTh):Nat:=if x.ph=7 then 0 else if x.ph=6 then 1 else axK x+(if x.q<o/\2<=x.ph then 3 else 0)+3*(2-o)
theorem axL{x:jr}(k:Int)(i j:Nat): ∀p,(x.dW k i j p).fl=x.a.d.fl/\(x.dW k i j p).fe=x.a.d.fe
 |0=>⟨rfl,rfl⟩
 |p+1=>by
  have ih:=axL (x:=x) k i j p
  show(ZWr.d' ⟨x.dW k i j p,x.t,x.f1,x.ln k i j,x.c k,p⟩).fl=_/\(ZWr.d' ⟨x.dW k i j p,x.t,x.f1,x.ln k i j,x.c k,p⟩).fe=_
  unfold ZWr.d'
  split
  ·exact ih
  ·exact ih
theorem axM{x:jr}(i j:Nat):(x.aE i j).d.fl=x.a.d.fl/\(x.aE i j).d.fe=x.a.d.fe:=axL 4 i j (x.sp 4)
theorem avx{x:jr}(i j:Nat):(x.aE i j).c.jU=x.a.c.jU:=by
 have hc: ∀n,(x.a.c.notes x.t ((x.ln 4 i j:Nat):Int) n).jU=x.a.c.jU:=fun n=>by
  induction n with
  |zero=>rfl
  |succ n ih=>exact ih
 exact hc _
theorem aE_t{x:jr}(i j:Nat):(x.aE i j).c.t=x.a.c.t:=qL _ _ _ _
theorem axN{x:jr}(i j:Nat):(x.aE i j).l.n=x.a.l.n+1:=YC _ _
theorem aE_id{x:jr}(i j:Nat):(x.aE i j).id=x.a.id+1:=rfl
theorem aE_r{x:jr}(i j:Nat):(x.aE i j).r=(x.a.r.put x.t x.a.r.now).put x.t 0:=rfl
theorem aE_b{x:jr}(i j:Nat):(x.aE i j).b=x.a.b:=rfl
noncomputable def acD(A B:WTr):WTr:=fun args h K=>A args h K\/B args h K
theorem Po{P:Program}{f:FuncId}{A B:WTr}(hA: ∀args h K,A args h K->Sp P f args h K)(hB: ∀args h K,B args h K->Sp P f args h K)(args:List AV)(h:Heap)(K:AV->Heap->Prop)(hq:acD A B args h K):Sp P f args h K:=hq.elim (hA args h K) (hB args h K)
structure ZRh where
 n:Nat
 o:Nat
 M:Nat
 B:Nat->dN
 LN:Nat->Nat
 a:dF
 key:ByteArray
 v:ByteArray
structure avR where
 o:Nat
 y:ai0
noncomputable def axO:Ctr:={X:=ZRh,args:=fun x=>[.ptr 0 0,i64 0,aiv 5 x.key x.v],k:=1,os:=fun x=>[.abs (bK x.a.os)],pre:=fun x=>Hd (x.v.size<=400/\HW x.n x.o x.M x.B x.LN x.a/\x.M<=800000/\x.a.r.has 0=0),outs:=[
 {Y:=avR,post:=fun x y=>Hd (HW x.n y.o (x.M+1000) x.B x.LN y.y.a/\y.y.a.r.has 0=0/\y.y.a.r.has 1=x.a.r.has 1/\((y.y.found=true/\y.o=x.o+1)\/(y.y.found=false/\y.o=x.o))),ret:=fun _ y=>y.y.av,m:=1,os:=fun _ y=>[.abs (bK y.y.a.os)]}]}
def ZRh.I(x:ZRh)(k m:Nat)(s:ZTs):Prop:= ∃o' X,m=ZDq.m X/\s.f=X.f/\s.ph=X.ph/\X.q=x.o/\HW x.n o' (x.M+20*k) x.B x.LN s.a/\DJ x.n x.o o' x.B x.LN s.a (s.a.r.has 0) X/\s.a.r.has 1=x.a.r.has 1/\s.a.c.now=x.a.c.now/\rk o' x.a.c.now X+k<=30/\s.ph≠7
def ZRh.q(x:ZRh)(s:ZTs):Prop:= ∃o' X,s.f=ZDq.f X/\HW x.n o' (x.M+1000) x.B x.LN s.a/\EJ x.n x.o o' x.B X/\s.a.r.has 0=0/\s.a.r.has 1=x.a.r.has 1
theorem arL:bZ Tryz.prog 15 axO:=qw fun x hx=>by
 obtain⟨hv,hw,hM,h0⟩:=aY.1 hx
 refine⟨_,avs,rfl,⟨x.a,x.key,x.v,x.B x.o,x.I,x.q⟩,aY.2 ⟨⟨x.o,⟨f0 x.key x.v,0,0,0,x.o⟩,rfl,rfl,rfl,rfl,hw.up (by omega),⟨hv,.inl ⟨rfl,rfl,rfl,h0,rfl,rfl,rfl⟩⟩,rfl,rfl,by show 14+0+1<=30;decide,by show¬(0:Int)=7;decide⟩,fun k m s hI=> ?_⟩,rfl,rfl,fun v h' hh=> ?_⟩
 ·obtain⟨o',X,rfl,e1,e2,e3,e4,e5,e6,e7,e8,e9⟩:=hI
  refine⟨by omega,e9,?_⟩
  have hs:s=⟨s.a,X.f,X.ph⟩:=by cases s;cases e1;cases e2;rfl
  have st:=DJ.step (t:=0) e4 (by omega) (by decide) e5
  rw[e3,<-hs]at st
  refine avn st fun m' y ⟨o2,X2,hy⟩=> ?_
  have hk:=hy.rk
  rw[e7]at hk
  have hk:rk o2 x.a.c.now X2+1<=rk o' x.a.c.now X:=hk.resolve_right (by rw[<-e2];exact e9)
  by_cases h7:y.ph=7
  ·obtain⟨d1,d2,d3⟩:=hy.dj.done (by rw[<-hy.ph];exact h7)
   exact .inl ⟨h7,hy.m.trans d1,o2,X2,hy.f,hy.w.up (by omega),d3,d2,(hy.has 1 (by decide)).trans e6⟩
  ·refine .inr ⟨o2,X2,hy.m,hy.f,hy.ph,?_,hy.w.up (by omega),hy.dj,(hy.has 1 (by decide)).trans e6,hy.now.trans e7,by omega,h7⟩
   rcases hy.q with hq|hq
   ·exact hq.trans e3
   ·rw[hq]
    rcases e5.2 with ⟨_,e,_⟩|⟨_,e,_⟩|⟨_,e,_⟩|⟨_,e,_⟩|⟨_,e,_⟩|⟨_,e,_⟩|⟨e,_,e'⟩
    ·exact e
    ·exact e
    ·exact e
    ·exact e
    ·exact e
    ·exact e
    ·exfalso
     have hr:=hy.rk
     rcases e with e|⟨e,_⟩
     ·have:X2.ph=7:=by
       have h1:rk o' x.a.c.now X=1:=by rw[lQ e];rfl
       have h0:rk o2 x.a.c.now X2=0:=by omega
       have h2:=hy.dj.2
       unfold rk at h0
       by_cases e7:X2.ph=7
       ·exact e7
       ·rw[if_neg e7]at h0
        by_cases e6:X2.ph=6
        ·rw[if_pos e6]at h0;cases h0
        ·rw[if_neg e6]at h0
         unfold rkB at h0
         exfalso
         repeat' (split at h0)
         all_goals omega
      exact h7 (by rw[hy.ph];exact this)
     ·exact e9 (by rw[e2];exact e)
 ·obtain⟨y,h1,h2,h3⟩:=lK hh
  obtain⟨o',X,f1,f2,f3,f4,f5⟩:=aY.1 h1
  refine fK ⟨⟨o',⟨y.s.f.code,y.s.f.found,y.s.f.ans,y.s.f.aep,y.k,y.s.a⟩⟩,aY.2 ⟨f2,f4,f5,?_⟩,h2,h3⟩
  show(y.s.f.found=true/\o'=x.o+1)\/(y.s.f.found=false/\o'=x.o)
  rw[f1]
  rcases f3 with ⟨g1,_,g2,_⟩|⟨g1,_,g2,_⟩|⟨g1,_,_,g2⟩
  ·exact .inl ⟨g1,g2⟩
  ·exact .inr ⟨g1,g2⟩
  ·exact .inr ⟨g1,g2⟩
noncomputable def avy:WTr:=fun args h K=>match args with
 |[a,t,.agg l]=>(bif decide (axj l 0=4)then eG ave else eG axO) [a,t,.agg l] h K
 |_=>False
theorem arM(args:List AV)(h:Heap)(K:AV->Heap->Prop)(hq:avy args h K):Sp Tryz.prog 15 args h K:=by
 unfold avy at hq
 split at hq
 ·exact nO _ (bU afK) (bU arL) _ _ _ hq
 ·exact hq.elim
structure OH (i:Nat) (a:dF) (b:Nat->dN):Prop where
 g:Good a 0 i b
 ct:a.c.t=2
 rt:a.r.t=2
 jU:a.c.jU=0
 fl:a.d.fl=2
 fe:a.d.fe=1
 len:a.l.n=i
 id:a.id=i
 has: ∀t,a.r.has t=0
 bn:a.b.n=0
 bid: ∀j,j<i->(b j).id=(j:Int)+1
 dn:a.d.n=42
 nk: ∀k,a.c.N k=true->k<42
 rn:a.r.now=1
theorem OH.new{d:dS}(hd:d.ok/\d.n=42/\d.st=2/\d.fl=2/\d.fe=1):OH 0 (ru 42 2 d) (fun _=>zB):=
 ⟨afI (n:=42) (t:=0) (T:=2) (m:=4) hd.1 hd.2.1 hd.2.2.1 rfl (by decide) (by decide) (by decide) _,rfl,rfl,rfl,hd.2.2.2.1,hd.2.2.2.2,rfl,rfl,fun _=>rfl,rfl,fun j hj=>absurd hj (Nat.not_lt_zero j),hd.2.1,fun k hk=>Bool.noConfusion hk,rfl⟩
theorem dW_n{x:jr}(k:Int)(i j:Nat): ∀p,(x.dW k i j p).n=x.a.d.n
 |0=>rfl
 |p+1=>by
  have ih:=dW_n (x:=x) k i j p
  show(ZWr.d' ⟨x.dW k i j p,x.t,x.f1,x.ln k i j,x.c k,p⟩).n=_
  unfold ZWr.d'
  split
  ·exact ih
  ·exact ih
theorem agn{c:fD}{t:Nat}{L:Nat}: ∀(n:Nat) {k:Nat},(c.notes t (L:Int) n).N k=true->c.N k=true\/(L<=k/\k<L+n)
 |0,_,h=> .inl h
 |n+1,k,h=>by
  have h:((c.notes t (L:Int) n).N k||decide ((L:Int)+((n:Nat):Int)=(k:Nat)))=true:=h
  rcases Bool.or_eq_true _ _▸h with h|h
  ·rcases agn n h with h|h
   ·exact .inl h
   ·exact .inr (by omega)
  ·have:=aQ h
   exact .inr (by omega)
theorem OH.next{i:Nat}{a:dF}{b:Nat->dN}(h:OH i a b)(hi:i<30){key v:ByteArray}(hv:v.size<=60){bb:dN}{y:ai0}(r:resE ⟨a,0,key,v,bb⟩ y):(y.code=4/\OH i y.a b)\/(y.code=0/\ ∃b',OH (i+1) y.a b'):=by
 rcases r with ⟨h1,_⟩|⟨_,_,h2,_,_,e⟩|⟨h1,h2,_,_,_,i',j',ht,e⟩
 ·have h1:400<v.size:=h1
  omega
 ·exact .inl ⟨h2,by rw[e];exact h⟩
 ·refine .inr ⟨h2,?_⟩
  have ht':a.p.takes (ned (v.size:Int)) i' j':=ht
  have g:=afH h.g (by omega) key v bb (by omega) ht'
  have hln:=h.len
  rw[e]
  generalize hx:jr.mk a 0 key v bb=x at g ⊢
  have ea:x.a=a:=by rw[<-hx]
  have et:x.t=0:=by rw[<-hx]
  have ev:x.v=v:=by rw[<-hx]
  have el:(x.aE i' j').l.n=a.l.n+1:=by rw[axN,ea]
  have hd42:(x.aE i' j').d.n=42:=by
   show(x.dW 4 i' j' (x.sp 4)).n=42
   rw[dW_n,ea];exact h.dn
  refine⟨_,g,?_,?_,?_,?_,?_,?_,?_,fun t=> ?_,?_,fun j hj=> ?_,hd42,fun k hk=> ?_,?_⟩
  ·rw[aE_t,ea];exact h.ct
  ·rw[aE_r,ea];exact h.rt
  ·rw[avx,ea];exact h.jU
  ·rw[(axM _ _).1,ea];exact h.fl
  ·rw[(axM _ _).2,ea];exact h.fe
  ·rw[el,hln]
  ·rw[aE_id,ea,h.id];rfl
  ·rw[aE_r,ea,et]
   show(if t=0 then(0:Int)else if t=0 then _ else a.r.has t)=0
   by_cases e:t=0
   ·rw[if_pos e]
   ·rw[if_neg e,if_neg e];exact h.has t
  ·rw[aE_b,ea];exact h.bn
  ·unfold pushB
   by_cases ej:j=a.l.n
   ·rw[if_pos ej]
    show a.id+1=_
    rw[h.id];omega
   ·rw[if_neg ej];exact h.bid j (by omega)
  ·obtain⟨ln,q1,q2,_⟩:=g.q a.l.n (by rw[el];omega)
   have aoc:((x.aE i' j').l.get a.l.n).line=((x.ln 4 i' j':Nat):Int):=by
    show((x.a.l.push _).get a.l.n).line=_
    rw[ea,TU h.g.lok _ (by omega),if_pos rfl]
    rfl
   rw[q1]at aoc
   have aoc:(ln:Int)=((x.ln 4 i' j':Nat):Int):=aoc
   have q4:=q2.2.2.2.1
   have hk:(x.a.c.notes x.t ((x.ln 4 i' j':Nat):Int) (ZPb.chg (x.pb 4 i' j' x.f1)).blk.dJ).N k=true:=hk
   rcases agn _ hk with hk|hk
   ·rw[ea]at hk;exact h.nk k hk
   ·have q4:(ln:Int)+spn (pushB b a.l.n ⟨ned v.size,2,a.id+1,a.ver+1,1,⟨#[]⟩,v⟩ a.l.n).cls<=((x.aE i' j').d.n:Int):=q4
    unfold pushB at q4
    rw[if_pos rfl,hd42]at q4
    have q4:(ln:Int)+spn (ned (v.size:Int))<=42:=q4
    have hs:(ZPb.chg (x.pb 4 i' j' x.f1)).blk.dJ=(spn (ned (v.size:Int))).toNat:=by
     show(spn (x.c 4)).toNat=_
     rw[show x.c 4=ned (x.v.size:Int) from if_pos rfl,ev]
    have:=dX (ned (v.size:Int))
    omega
  ·rw[aE_r,ea];exact h.rn
theorem OH.start{n:Nat}{a:dF}{b:Nat->dN}(h:OH n a b)(hn:n<=30):HW n 0 (20*n+20) b (fun i=>(a.l.get i).line.toNat) a:=by
 have g:=h.g
 have d1:=g.dst
 have hln:=h.len
 have hq: ∀i,i<n->a.l.get i=lk b (fun i=>(a.l.get i).line.toNat) i/\ZBy.ok ⟨a.d,b i,(a.l.get i).line.toNat⟩/\ ∃i' j',a.p.at_ ((a.l.get i).line.toNat:Nat) i' j'/\a.p.cls i'=(b i).cls:=fun i hi=>by
  obtain⟨ln,q1,q2,q3⟩:=g.q i (by omega)
  have e:(a.l.get i).line.toNat=ln:=by rw[q1];rfl
  rw[e]
  refine⟨?_,q2,q3⟩
  unfold lk
  simp only[e]
  exact q1
 have base:Base a 2 (20*n+20) (fun i=>b (0+i)):=by
  rw[show(fun i=>b (0+i))=b from funext fun i=>by rw[ay]]
  exact{dok:=g.dok,dst:=by omega,dfl:=by rw[h.fl];omega,dfe:=by rw[h.fe];omega,rok:=g.rok,rt:=h.rt,cok:=g.cok,ct:=h.ct,jU:=h.jU,pg:=g.pg,fit:=g.fit,bok:=g.bok,lok:=g.lok,ao5:=by have:=g.ao5;omega,ln:=by have:=g.ln;omega,id0:=g.id0,id1:=by have:=g.id1;omega,v0:=g.v0,v1:=by have:=g.v1;omega,nn:=by have:=g.nn;omega,anT:=by rw[g.now];decide,aiZ:=by rw[g.now];omega,owed:=fun k=>by have:=g.owed k;omega,nz:=g.nz,used:=g.used,q:=g.q}
 exact{base:=base,on:=Nat.zero_le _,n20:=by omega,len:=hln,lie:=fun i hi=>(hq i hi).2.1,at_:=fun i hi=>(hq i hi).2.2,lnk:=fun i hi=>by rw[ay];exact(hq i hi).1,bag:=fun i hi=>absurd hi (Nat.not_lt_zero i),bn:=h.bn,br:=fun j hj=>by rw[h.bn]at hj;exact absurd hj (Nat.not_lt_zero j),ids:=fun i j hi hj e=>by rw[h.bid i hi,h.bid j hj]at e;omega,dn:=h.dn,nk:=h.nk,rn:=by rw[h.rn];omega}
noncomputable def ao6:xR:={X:=dF,args:=fun _=>[.ptr 0 0],a:=fun a=>a,k:=1,ex:=fun _=>[],pre:=fun a=>Hd (a.b.ok/\a.r.ok/\a.c.ok/\ ∀k,k<a.b.n-> ¬D6.rd ⟨a.b,a.r,a.c.dur⟩ k),outs:=[
 {Y:=Unit,post:=fun _ _=>True,ret:=fun _ _=> .tup [zEnt.av,i64 12],a:=fun a _=>a,m:=1,ex:=fun _ _=>[]}]}
def uJ:Prop:=Value.slice none 0 0=Value.slice none 0 0
def arN(a:dF):Prop:=(0=0/\(1:Int)=1/\(0:Int)=0/\(0:Int)=0/\True)/\bK a.d.os=bK a.d.os/\bK a.p.os=bK a.p.os/\bK a.r.os=bK a.r.os/\bK (a.c.os 0)=bK (a.c.os 0)/\bK a.b.os=bK a.b.os/\bK lT=bK lT/\(uJ/\uJ/\uJ/\uJ/\True)/\bK a.l.os=bK a.l.os/\(a.n=a.n/\ ∀q:Nat,q<a.n->[Value.int .i64 (fZ.kind (a.e q)),Value.string (fZ.key (a.e q)),Value.string (fZ.value (a.e q)),Value.int .u64 (fZ.id (a.e q)),Value.int .u64 (fZ.ver (a.e q)),Value.int .u64 (fZ.epoch (a.e q)),Value.int .i64 (fZ.group (a.e q))]=[Value.int .i64 (fZ.kind (a.e q)),Value.string (fZ.key (a.e q)),Value.string (fZ.value (a.e q)),Value.int .u64 (fZ.id (a.e q)),Value.int .u64 (fZ.ver (a.e q)),Value.int .u64 (fZ.epoch (a.e q)),Value.int .i64 (fZ.group (a.e q))])/\True
def arO(a:dF):Prop:=0=0/\0=0/\0=0/\0=0/\0=0/\0=0/\0=0/\0=0/\a.id=a.id/\a.ver=a.ver/\(0=0/\a.n=a.n)/\True
def avz(x:asK):Prop:=
 (IntKind.wrap .u64 (x.m:Int)=0->False)/\I64 (Int.tmod (IntKind.wrap .u64 x.z) (IntKind.wrap .u64 (x.m:Int)))/\ ∃y:Nat,Hd (y<x.m)/\(y:Int)=Int.tmod (IntKind.wrap .u64 x.z) (IntKind.wrap .u64 (x.m:Int))/\True
theorem arP(x:asK):avz x=wpF Tryz.prog [] tt (noA x) 200 6 14 (lowC.args x) (hO 0 []) (fun v h'=>fA 0 x v h' lowC.outs):=by kernel_rfl
def acE(x:dF):Prop:=
 ∃y:Unit,True/\0=0/\(0=0/\0=0/\0=0/\0=0/\0=0/\0=0/\0=0/\0=0/\x.id=x.id/\x.ver=x.ver/\uJ/\True)/\(0=0/\(1:Int)=1/\(0:Int)=0/\(0:Int)=0/\True)/\bK x.d.os=bK x.d.os/\bK x.p.os=bK x.p.os/\bK x.r.os=bK x.r.os/\bK (x.c.os 0)=bK (x.c.os 0)/\bK x.b.os=bK x.b.os/\bK lT=bK lT/\(uJ/\uJ/\uJ/\uJ/\True)/\bK x.l.os=bK x.l.os/\True
theorem aiO(x:dF):acE x=wpF Tryz.prog [] tt (noA x) 200 6 22 ((rM dF.osN 10 5).args x) (hO 10 (dO 1 ((rM dF.osN 10 5).l x))) (fun v h'=>dA 1 x v h' (rM dF.osN 10 5).outs):=by kernel_rfl
def acF(x:dF):Prop:=
 ∃y:Unit,True/\0=0/\arO x/\arN x
theorem aiP(x:dF):acF x=wpF Tryz.prog [] tt (noA x) 200 6 22 ((rM dF.osP 11 5).args x) (hO 11 (dO 1 ((rM dF.osP 11 5).l x))) (fun v h'=>dA 1 x v h' (rM dF.osP 11 5).outs):=by kernel_rfl
def UE(x:dF):Prop:=
 ∃y:Unit,True/\0=0/\arO x/\arN x
theorem acG(x:dF):UE x=wpF Tryz.prog [] tt (noA x) 200 6 20 ((rM dF.osP 11 9).args x) (hO 11 (dO 1 ((rM dF.osP 11 9).l x))) (fun v h'=>dA 1 x v h' (rM dF.osP 11 9).outs):=by kernel_rfl
theorem u64_nonneg(z:Int):0<=IntKind.wrap .u64 z:=by
 unfold IntKind.wrap;simp[IntKind.bits,IntKind.signed];omega
theorem aiQ(x:asK)(hx:1<=x.m/\x.m<=1000):avz x:=by
 have e:IntKind.wrap .u64 (x.m:Int)=x.m:=jZ (by omega) (by omega)
 have hz:=u64_nonneg x.z
 unfold avz
 simp only[aY,aU,aT,ay,aH,bP,bC,aN,aJ,au,aW,aV,bQ,bF,bG,bH,bT,bf,bJ,aZ,dZ,aG,aK,ah,aj,aA,aC,aB,aF,e]
 have h1:Int.tmod (IntKind.wrap .u64 x.z) (x.m:Int)=IntKind.wrap .u64 x.z%(x.m:Int):=Int.tmod_eq_emod_of_nonneg hz
 have h2:=Int.emod_nonneg (IntKind.wrap .u64 x.z) (show(x.m:Int)≠0 by omega)
 have h3:=Int.emod_lt_of_pos (IntKind.wrap .u64 x.z) (show 0<(x.m:Int) by omega)
 rw[h1]
 exact⟨by omega,by unfold I64;omega,(IntKind.wrap .u64 x.z%(x.m:Int)).toNat,by omega,by omega⟩
theorem axP:bZ Tryz.prog 14 lowC:=gB dB mixed .nil noA 200 6 (fun _=>rfl) (fun _=>⟨fun _=>rfl,trivial⟩) fun x hx=>Eq.mp (arP x) (aiQ x (aY.1 hx))
theorem Y7(a:dF):acE a:=by
 unfold acE
 simp only[uJ]
 simp only[aY,aU,aT,ay,aH,bP,bC,aN,aJ,au,aW,aV,bQ,bF,bG,bH,bT,bf,bJ,aZ,dZ,aG,aK,ah,aj,aA,aC,aB,aF]
theorem Y8(a:dF):acF a:=by
 unfold acF
 simp only[arO,arN,uJ]
 simp only[aY,aU,aT,ay,aH,bP,bC,aN,aJ,au,aW,aV,bQ,bF,bG,bH,bT,bf,bJ,aZ,dZ,aG,aK,ah,aj,aA,aC,aB,aF]
theorem UF(a:dF):UE a:=by
 unfold UE
 simp only[arO,arN,uJ]
 simp only[aY,aU,aT,ay,aH,bP,bC,aN,aJ,au,aW,aV,bQ,bF,bG,bH,bT,bf,bJ,aZ,dZ,aG,aK,ah,aj,aA,aC,aB,aF]
theorem arQ:bZ Tryz.prog 22 (rM dF.osN 10 5).ctr:=dK dB mixed .nil 10 noA 200 6 (fun _=>⟨rfl,rfl,rfl,rfl⟩) fun x _=>Eq.mp (aiO x) (Y7 x)
theorem arR:bZ Tryz.prog 22 (rM dF.osP 11 5).ctr:=dK dB mixed .nil 11 noA 200 6 (fun _=>⟨rfl,rfl,rfl,rfl⟩) fun x _=>Eq.mp (aiP x) (Y8 x)
theorem aoL:bZ Tryz.prog 20 (rM dF.osP 11 9).ctr:=dK dB mixed .nil 11 noA 200 6 (fun _=>⟨rfl,rfl,rfl,rfl⟩) fun x _=>Eq.mp (acG x) (UF x)

structure GU where
 m:Nat
 g:Nat->ByteArray
 turns:Int
def GU.os(x:GU):List dw:=[.ro (.row 1 x.m (fun i=>[.string (x.g i)]) [])]
structure avA where
 i:Nat
 c:Nat
 a:dF
 b:Nat->dN
structure avS where
 n:Nat
 B:Nat->dN
 LN:Nat->Nat
structure Pq where
 j:Nat
 o:Nat
 a:dF
structure Cj where
 n:Nat
 o:Nat
 B:Nat->dN
 LN:Nat->Nat
structure iG where
 k:Nat
 o:Nat
 a:dF
 x:ZDq
def avC(fr:Fr):Nat:=match SE.look fr 12 with
 | .ptr j _=>j
 |_=>0
def axQ(fr:Fr)(h:Heap):Bool:=match cellAt h (avC fr) 19 with
 |some (.slW _ _ _ _)=>true
 |_=>false
def Aj{α:Type 1}(n:Nat)(k:Nat->α):α:=match n with
 |0=>k 0
 |m+1=>k (m+1)
noncomputable def axR:LGh:={G:=avS,forms:=fun g=>[{σ:=Pq,fr:=fun s=>[(13,i64 s.j),(7,i64 ((g.n:Int)-s.o))],ob:=fun s=>[(1,some (.abs (bK s.a.os)))],inv:=fun s=>Hd (s.j<=8/\HW g.n s.o (2000*s.j+1000) g.B g.LN s.a/\s.a.r.has 0=0/\s.a.r.has 1=1),meas:=fun s=>8-s.j}]}
noncomputable def axS(h:Heap):LGh:=Aj ((oz h 1).getD 5 0) fun ic=>Aj ((oz h 1).getD 2 0) fun id=>{G:=ZGh,forms:=fun g=>[{σ:=ZEj,fr:=fun s=>[(17,i64 s.j)],ob:=fun s=>[(ic,some (.abs (bK (s.c.os s.ph)))),(id,some (.abs (bK s.d.os)))],inv:=fun s=>Hd (s.j<=50/\CW g.c g.d s.j s.c s.d s.ph),meas:=fun s=>50-s.j}]}
noncomputable def axT(fr:Fr)(h:Heap):LGh:=Aj (avC fr) fun fi=>Aj h.next fun nx=>{G:=Cj,forms:=fun g=>[
 {σ:=iG,fr:=fun s=>[(19,i64 s.k)],ob:=fun s=>[(1,some (.abs (bK s.a.os))),(fi,some (au3 s.x.f 5 s.x.ph fO))],inv:=fun s=>Hd (s.k<=60/\s.x.m=0/\HW g.n s.o (20*s.k+50000) g.B g.LN s.a/\DJ g.n g.o s.o g.B g.LN s.a (s.a.r.has 1) s.x/\rk s.o s.a.c.now s.x+s.k<=40),meas:=fun s=>60-s.k,test:=fun fr h=> !axQ fr h},
 {σ:=iG,fr:=fun s=>[(19,i64 s.k)],ob:=fun s=>[(1,some (.abs (bK s.a.os))),(fi,some (au3 s.x.f 5 2 (.slW nx 0 1 (64*s.x.m)))),(nx,some (GN (g.B s.x.q).enc (64*s.x.m)))],nx:=1,inv:=fun s=>Hd (s.k<=60/\s.x.m≠0/\s.x.ph=2/\HW g.n s.o (20*s.k+50000) g.B g.LN s.a/\DJ g.n g.o s.o g.B g.LN s.a (s.a.r.has 1) s.x/\rk s.o s.a.c.now s.x+s.k<=40),meas:=fun s=>60-s.k,test:=fun fr h=>axQ fr h}]}
noncomputable def avD:LGh:={G:=Int,forms:=fun g=>[{σ:=Unit,fr:=fun _=>[(7,i64 g)],ob:=fun _=>[],inv:=fun _=>True,meas:=fun _=>0}]}
noncomputable def avE(fr:Fr):LGh:=Aj (avC fr) fun fi=>{G:=Cj,forms:=fun g=>[
 {σ:=iG,fr:=fun _=>[],ob:=fun s=>[(1,some (.abs (bK s.a.os))),(fi,some (au3 s.x.f 5 7 fO))],inv:=fun s=>Hd (s.x.m=0/\s.x.ph=7/\HW g.n s.o (20*s.k+50000) g.B g.LN s.a/\DJ g.n g.o s.o g.B g.LN s.a (s.a.r.has 1) s.x),meas:=fun _=>0}]}
noncomputable def axU(x:GU):FuncId->tK:=fun f=>bif Nat.beq f 5 then(fun b fr h=>bif Nat.beq b 0 then [
 {σ:=avA,fr:=fun s=>[(8,i64 s.i),(7,i64 s.c)],ob:=fun s=>[(1,some (.abs (bK s.a.os)))],inv:=fun s=>Hd (s.i<=x.m/\s.c<=s.i/\OH s.c s.a s.b),meas:=fun s=>x.m-s.i}]else bif Nat.beq b 2 then axR.an else bif Nat.beq b 4 then(axS h).an else bif Nat.beq b 6 then(axT fr h).an else bif Nat.beq b 1024 then avD.an else bif Nat.beq b 1036 then(avE fr).an else [])else fun _ _ _=>[]
noncomputable def acH:WTr:=fun args h K=>match args with
 |[.ptr i z]=>bif isAbs (h.get i)then acD (eG (rM dF.osN 10 5).ctr) (eG (rM dF.osP 11 5).ctr) [.ptr i z] h K else wpF Tryz.prog [] tt aqV 200 6 22 [.ptr i z] h K
 |_=>False
theorem aiR(args:List AV)(h:Heap)(K:AV->Heap->Prop)(hq:acH args h K):Sp Tryz.prog 22 args h K:=by
 unfold acH at hq
 split at hq
 ·rename_i i z
  cases ha:isAbs (h.get i)<;>rw[ha]at hq
  ·exact xY dB mixed .nil _ _ _ _ _ _ _ hq
  ·exact Po (bU arQ) (bU arR) _ _ _ hq
 ·exact hq.elim
noncomputable def axV:jY:=[(12,aoa),(13,eG ah0.ctr),(15,aoB avy),(14,eG lowC),(17,Yt),(19,aoB agk),(22,acH),(23,eG Yo.ctr),(24,eG axC),(28,eG axH.ctr),(29,aoB (eG ao6.M.ctr)),(30,eG uF.M.ctr),(31,avi),(20,acD (eG (rM dF.osN 10 9).ctr) (eG (rM dF.osP 11 9).ctr)),(21,eG aec.ctr)]
def xX(a:GU):Prop:=(Cs.row 1 a.m (fun(i:Nat)=>[Value.string (a.g i)]) (@List.nil (Prod Nat (List Value)))=Cs.row 1 a.m (fun(i:Nat)=>[Value.string (a.g i)]) (@List.nil (Prod Nat (List Value)))/\true=true)/\True
def jA:Prop:=Value.slice none 0 0=Value.slice none 0 0
def Kv(a:ZFr)(b:ZFr):Prop:=(0:Int)=0/\jA/\a.code=b.code/\a.found=b.found/\a.ans=b.ans/\jA/\jA/\a.aep=b.aep/\True
def iW:Prop:=ByteArray.mk #[]=ByteArray.mk #[]
def aoM(a:ZFr)(b:ZFr):Prop:=a.epoch=b.epoch/\iW/\false=false/\(0:Int)=0/\a.had=b.had/\a.old.key=b.old.key/\a.old.id=b.old.id/\a.old.ver=b.old.ver/\a.old.line=b.old.line/\a.old.cls=b.old.cls/\a.line=b.line/\a.cls=b.cls/\a.piece=b.piece/\jA/\Kv a b
def iY:Prop:=(5:Int)=5/\iW/\iW/\iW/\jA/\True
def pX(a:dF)(b:dF)(c:GU):Prop:=iY/\bK a.os=bK b.os/\xX c
def UG(a:ZFr):Prop:=(0:Int)=0/\jA/\a.code=a.code/\a.found=a.found/\a.ans=a.ans/\jA/\jA/\a.aep=a.aep/\True
def sQ(a:ZTs):Prop:=(5:Int)=5/\a.f.key=a.f.key/\a.f.value=a.f.value/\iW/\jA/\a.ph=a.ph/\a.f.epoch=a.f.epoch/\iW/\false=false/\(0:Int)=0/\a.f.had=a.f.had/\a.f.old.key=a.f.old.key/\a.f.old.id=a.f.old.id/\a.f.old.ver=a.f.old.ver/\a.f.old.line=a.f.old.line/\a.f.old.cls=a.f.old.cls/\a.f.line=a.f.line/\a.f.cls=a.f.cls/\a.f.piece=a.f.piece/\jA/\UG a.f
def kG(a:GU):Prop:=true=false/\xX a
def aoN(a:ZLn)(b:Nat)(c:Nat)(d:GU):Prop:= ∀y_5:Unit,True->True/\ ∃x_7:ZLn,Hd x_7.ok/\(0=0/\True)/\(bK x_7.os=bK a.os/\True)/\ ∀y_6:Unit,True->True/\cP (BEq.beq (x_7.n:Int) (imax ((b:Int)-(c:Int)-1) (0:Int))) (True/\true=true/\xX d) (True/\kG d)
def yC(a:Nat)(b:Nat)(c:dF)(d:GU):Prop:=I64 ((a:Int)-(b:Int)-1)/\((∃x_6:dF,Hd True/\(0=0/\True)/\(bK x_6.osN=bK c.os/\True)/\aoN x_6.l a b d)\/ ∃x_6:dF,Hd True/\(0=0/\True)/\(bK x_6.osP=bK c.os/\True)/\aoN x_6.l a b d)
def yD(a:GU):Prop:=True/\True/\True/\kG a
def Kw(a:UU):Prop:=Hd (a.a.l.ok/\a.a.l.n<1099511627776/\qok a.a.d a.a.l a.b)/\True
def iM(a:dF)(b:dF):Prop:=bK a.os=bK b.os/\True
def Eb(a:Nat):Prop:=(0:Int)<=0/\1<=(a:Int)
def iO(a:iG)(b:Cj):Prop:=Hd (a.x.m=0/\a.x.ph=7/\HW b.n a.o (20*a.k+50000) b.B b.LN a.a/\ @DJ b.n b.o a.o b.B b.LN a.a (a.a.r.has 1) a.x)
def Y9(a:Cj)(b:GU)(c:Nat)(d:Nat):Prop:=(∀s_2:iG,iO s_2 a->cP (BEq.beq s_2.x.f.code (6:Int)) (kG b) (cP (bne (0:Int) ((c:Int)-(d:Int))) (kG b) (cP (bne s_2.x.f.code (0:Int)) (cP (BEq.beq s_2.x.f.code (4:Int)) (cP (Bool.not s_2.x.f.found) (cP (BEq.beq (ByteArray.toList s_2.x.f.ans) (ByteArray.toList (ByteArray.mk #[]))) (∃x_6:UU,Kw x_6/\(0=0/\True)/\iM x_6.a s_2.a/\(∀y_5:Unit,Hd (x_6.a.l.n=0)->true=true/\xX b)/\ ∀y_5:Unit,Hd (x_6.a.l.n≠0)->cP (bne (x_6.a.l.n:Int) (0:Int)) (kG b) (cP (decide (0<(x_6.a.l.n:Int))) (Eb x_6.a.l.n/\0<x_6.a.l.n/\False) (true=true/\xX b))) (kG b)) (kG b)) (kG b)) (cP (@BEq.beq Bool (@instBEqOfDecidableEq Bool @instDecidableEqBool) s_2.x.f.found (decide ((c:Int)-(d:Int)>(0:Int)))) (cP (BEq.beq ((c:Int)-(d:Int)) (0:Int)) (yC c d s_2.a b) False) (yD b)))))/\True
def jl(a:iG)(b:Cj):Prop:=Hd (a.k<=60/\a.x.m≠0/\a.x.ph=2/\HW b.n a.o (20*a.k+50000) b.B b.LN a.a/\ @DJ b.n b.o a.o b.B b.LN a.a (a.a.r.has 1) a.x/\rk a.o a.a.c.now a.x+a.k<=40)
def acI:Prop:=true=true/\false=false/\some (dw.abs (bK lT))=some (dw.abs (bK lT))
def acJ(a:ZRd)(b:ZRd):Prop:=true=true/\false=false/\some (dw.abs (bK (ZRd.os (ZRd.mk a.t (a.now+1) a.has))))=some (dw.abs (bK b.os))
def acK(a:ZEj)(b:fD):Prop:=true=true/\false=false/\some (dw.abs (bK (a.c.os a.ph)))=some (dw.abs (bK (b.os 0)))
def aoO:Prop:=true=true/\false=false/\some (dw.cells (255: @TypeId) (Cs.av [AV.lit (Value.slice none 0 0),AV.lit (Value.slice none 0 0),AV.lit (Value.slice none 0 0),AV.lit (Value.slice none 0 0)]))=some (dw.cells (255: @TypeId) (Cs.av [AV.lit (Value.slice none 0 0),AV.lit (Value.slice none 0 0),AV.lit (Value.slice none 0 0),AV.lit (Value.slice none 0 0)]))
def agp(a:ZEj)(b:dF)(c:dF)(d:ZRd):Prop:=(true=true/\false=false/\some (dw.abs (bK a.d.os))=some (dw.abs (bK b.d.os)))/\(true=true/\false=false/\some (dw.abs (bK c.p.os))=some (dw.abs (bK b.p.os)))/\acJ d b.r/\acK a b.c/\(true=true/\false=false/\some (dw.abs (bK c.b.os))=some (dw.abs (bK b.b.os)))/\acI/\aoO/\(true=true/\false=false/\some (dw.abs (bK c.l.os))=some (dw.abs (bK b.l.os)))/\(true=true/\false=false/\some (dw.room (95: @TypeId) (Cs.row 7 c.n (fun(i:Nat)=>[Value.int .i64 (fZ.kind (c.e i)),Value.string (fZ.key (c.e i)),Value.string (fZ.value (c.e i)),Value.int .u64 (fZ.id (c.e i)),Value.int .u64 (fZ.ver (c.e i)),Value.int .u64 (fZ.epoch (c.e i)),Value.int .i64 (fZ.group (c.e i))]) (@List.nil (Prod Nat (List Value)))))=some (dw.room (95: @TypeId) (Cs.row 7 b.n (fun(i:Nat)=>[Value.int .i64 (fZ.kind (b.e i)),Value.string (fZ.key (b.e i)),Value.string (fZ.value (b.e i)),Value.int .u64 (fZ.id (b.e i)),Value.int .u64 (fZ.ver (b.e i)),Value.int .u64 (fZ.epoch (b.e i)),Value.int .i64 (fZ.group (b.e i))]) (@List.nil (Prod Nat (List Value))))))/\True
def BN(a:ZWd)(b:ZDq):Prop:=0=0/\(a.t:Int)=1/\((5:Int)=5/\a.s.f.key=b.f.key/\a.s.f.value=b.f.value/\iW/\jA/\(2:Int)=2/\a.s.f.epoch=b.f.epoch/\iW/\false=false/\(0:Int)=0/\a.s.f.had=b.f.had/\a.s.f.old.key=b.f.old.key/\a.s.f.old.id=b.f.old.id/\a.s.f.old.ver=b.f.old.ver/\a.s.f.old.line=b.f.old.line/\a.s.f.old.cls=b.f.old.cls/\a.s.f.line=b.f.line/\a.s.f.cls=b.f.cls/\a.s.f.piece=b.f.piece/\(0=0/\64*a.n=64*b.m)/\Kv a.s.f b.f)/\True
def yE(a:ZFr)(b:Nat):Prop:=(5:Int)=5/\a.key=a.key/\a.value=a.value/\iW/\jA/\(2:Int)=2/\a.epoch=a.epoch/\iW/\false=false/\(0:Int)=0/\a.had=a.had/\a.old.key=a.old.key/\a.old.id=a.old.id/\a.old.ver=a.old.ver/\a.old.line=a.old.line/\a.old.cls=a.old.cls/\a.line=a.line/\a.cls=a.cls/\a.piece=a.piece/\(0=0/\64*(b+1)=64*(b+1))/\UG a
def agq(a:dN)(b:Nat):Prop:=[Value.int .u8 (a.enc b)]=[Value.int .u8 (a.enc b)]
def fE(a:ZWd):Prop:=64*a.n=64*a.n/\ ∀q:Nat,q<64*a.n->agq a.b q
def jg(a:iG)(b:Cj):Prop:=Hd (a.k<=60/\a.x.m=0/\HW b.n a.o (20*a.k+50000) b.B b.LN a.a/\ @DJ b.n b.o a.o b.B b.LN a.a (a.a.r.has 1) a.x/\rk a.o a.a.c.now a.x+a.k<=40)
def yF(a:ZFr):Prop:=(5:Int)=5/\a.key=a.key/\a.value=a.value/\iW/\jA/\(2:Int)=2/\a.epoch=a.epoch/\iW/\false=false/\(0:Int)=0/\a.had=a.had/\a.old.key=a.old.key/\a.old.id=a.old.id/\a.old.ver=a.old.ver/\a.old.line=a.old.line/\a.old.cls=a.old.cls/\a.line=a.line/\a.cls=a.cls/\a.piece=a.piece/\(0=0/\64=64)/\UG a
def BO(a:iG)(b:iG)(c:GU):Prop:=((5:Int)=5/\a.x.f.key=b.x.f.key/\a.x.f.value=b.x.f.value/\iW/\jA/\(7:Int)=2/\a.x.f.epoch=b.x.f.epoch/\iW/\false=false/\(0:Int)=0/\a.x.f.had=b.x.f.had/\a.x.f.old.key=b.x.f.old.key/\a.x.f.old.id=b.x.f.old.id/\a.x.f.old.ver=b.x.f.old.ver/\a.x.f.old.line=b.x.f.old.line/\a.x.f.old.cls=b.x.f.old.cls/\a.x.f.line=b.x.f.line/\a.x.f.cls=b.x.f.cls/\a.x.f.piece=b.x.f.piece/\False/\Kv a.x.f b.x.f)/\pX a.a b.a c
def BP(a:iG)(b:ZTs)(c:Nat)(d:GU):Prop:=((5:Int)=5/\a.x.f.key=b.f.key/\a.x.f.value=b.f.value/\iW/\jA/\(2:Int)=2/\a.x.f.epoch=b.f.epoch/\iW/\false=false/\(0:Int)=0/\a.x.f.had=b.f.had/\a.x.f.old.key=b.f.old.key/\a.x.f.old.id=b.f.old.id/\a.x.f.old.ver=b.f.old.ver/\a.x.f.old.line=b.f.old.line/\a.x.f.old.cls=b.f.old.cls/\a.x.f.line=b.f.line/\a.x.f.cls=b.f.cls/\a.x.f.piece=b.f.piece/\(0=0/\64*a.x.m=64*(c+1))/\Kv a.x.f b.f)/\pX a.a b.a d
def BQ(a:iG)(b:ZTs)(c:GU):Prop:=((5:Int)=5/\a.x.f.key=b.f.key/\a.x.f.value=b.f.value/\iW/\jA/\(2:Int)=2/\a.x.f.epoch=b.f.epoch/\iW/\false=false/\(0:Int)=0/\a.x.f.had=b.f.had/\a.x.f.old.key=b.f.old.key/\a.x.f.old.id=b.f.old.id/\a.x.f.old.ver=b.f.old.ver/\a.x.f.old.line=b.f.old.line/\a.x.f.old.cls=b.f.old.cls/\a.x.f.line=b.f.line/\a.x.f.cls=b.f.cls/\a.x.f.piece=b.f.piece/\(0=0/\64*a.x.m=64)/\Kv a.x.f b.f)/\pX a.a b.a c
def xg(a:dF):Prop:=a.n=a.n/\ ∀q:Nat,q<a.n->[Value.int .i64 (fZ.kind (a.e q)),Value.string (fZ.key (a.e q)),Value.string (fZ.value (a.e q)),Value.int .u64 (fZ.id (a.e q)),Value.int .u64 (fZ.ver (a.e q)),Value.int .u64 (fZ.epoch (a.e q)),Value.int .i64 (fZ.group (a.e q))]=[Value.int .i64 (fZ.kind (a.e q)),Value.string (fZ.key (a.e q)),Value.string (fZ.value (a.e q)),Value.int .u64 (fZ.id (a.e q)),Value.int .u64 (fZ.ver (a.e q)),Value.int .u64 (fZ.epoch (a.e q)),Value.int .i64 (fZ.group (a.e q))]
def iK(a:UU):Prop:=a.a.l.n=a.a.l.n/\ ∀q:Nat,q<a.a.l.n->[Value.string (dN.value (a.b q))]=[Value.string (dN.value (a.b q))]
def agr(a:ZEj)(b:dF)(c:dF)(d:ZRd):Prop:=(true=true/\false=false/\some (dw.abs (bK a.d.os))=some (dw.abs (bK b.d.os)))/\(true=true/\false=false/\some (dw.abs (bK c.p.os))=some (dw.abs (bK b.p.os)))/\acJ d b.r/\acK a b.c/\(true=true/\false=false/\some (dw.abs (bK c.b.os))=some (dw.abs (bK b.b.os)))/\acI/\aoO/\(true=true/\false=false/\some (dw.abs (bK c.l.os))=some (dw.abs (bK b.l.os)))/\True
def Za(a:iG)(b:UU)(c:GU):Prop:=cP (BEq.beq a.x.f.code (4:Int)) (cP (Bool.not a.x.f.found) (cP (BEq.beq (ByteArray.toList a.x.f.ans) (ByteArray.toList (ByteArray.mk #[]))) (∃x_6:UU,Kw x_6/\(0=0/\True)/\iM x_6.a a.a/\(∀y_5:Unit,Hd (x_6.a.l.n=0)->cP (bne (0:Int) (b.a.l.n:Int)) (kG c) (true=true/\xX c))/\ ∀y_5:Unit,Hd (x_6.a.l.n≠0)-> ∃x_7:ZSm,Hd (x_7.n<1099511627776)/\((0=0/\x_7.n=x_6.a.l.n)/\(0=0/\x_7.m=b.a.l.n)/\True)/\((x_7.n=x_6.a.l.n/\ ∀q:Nat,q<x_7.n->[Value.string (x_7.g q)]=[Value.string (dN.value (x_6.b q))])/\(x_7.m=b.a.l.n/\ ∀q:Nat,q<x_7.m->[Value.string (x_7.h q)]=[Value.string (dN.value (b.b q))])/\True)/\ ∀y_6:Unit,True->cP x_7.same (true=true/\xX c) (kG c)) (kG c)) (kG c)) (kG c)
def jM(a:ZWd):Prop:=64*(a.n+1)=64*(a.n+1)/\ ∀q:Nat,q<64*(a.n+1)->agq a.b q
def jB(a:ai0):Prop:=a.code=a.code/\a.found=a.found/\a.v=a.v/\jA/\jA/\a.ep=a.ep/\True
def Pv(a:ZDq)(b:ZTs):Prop:=(5:Int)=5/\a.f.key=b.f.key/\a.f.value=b.f.value/\iW/\jA/\a.ph=b.ph/\aoM a.f b.f
def mQ(a:iG)(b:iG)(c:GU):Prop:=((5:Int)=5/\a.x.f.key=b.x.f.key/\a.x.f.value=b.x.f.value/\iW/\jA/\7=b.x.ph/\aoM a.x.f b.x.f)/\pX a.a b.a c
def nU(a:iG)(b:ZTs)(c:GU):Prop:=Pv a.x b/\pX a.a b.a c
def mV(a:Pq)(b:avS):Prop:=Hd (a.j<=8/\HW b.n a.o (2000*a.j+1000) b.B b.LN a.a/\a.a.r.has 0=0/\a.a.r.has 1=1)
def aoP(a:ZDq)(b:Cj)(c:dN):Prop:= ∀q:Nat,q<64*a.m->[Value.int .u8 (dN.enc (b.B a.q) q)]=[Value.int .u8 (c.enc q)]
def BR(a:ZWd)(b:ZDq):Prop:=0=0/\(a.t:Int)=1/\((5:Int)=5/\a.s.f.key=b.f.key/\a.s.f.value=b.f.value/\iW/\jA/\a.s.ph=b.ph/\aoM a.s.f b.f)/\True
def UH(a:dF):Prop:=0=0/\0=0/\0=0/\0=0/\0=0/\0=0/\0=0/\0=0/\a.id=a.id/\a.ver=a.ver/\(0=0/\a.n=a.n)/\True
def BU(a:dF)(b:GU):Prop:=iY/\UH a/\xX b
def BX(a:ZWd)(b:iG)(c:Cj):Prop:=bK a.s.a.os=bK b.a.os/\(64*a.n=64*b.x.m/\ ∀q:Nat,q<64*a.n->[Value.int .u8 (a.b.enc q)]=[Value.int .u8 (dN.enc (c.B b.x.q) q)])/\True
def jC(a:ZEj)(b:ZGh):Prop:=Hd (a.j<=50/\CW b.c b.d a.j a.c a.d a.ph)
def kL:Prop:=0=0/\(1:Int)=1/\(0:Int)=0/\(0:Int)=0/\True
def ags(a:dF):Prop:=0=0/\0=0/\0=0/\0=0/\0=0/\0=0/\0=0/\a.id=a.id/\a.ver=a.ver/\jA/\True
def BZ(a:dF)(b:GU):Prop:=iY/\(0=0/\ags a)/\xX b
def aoQ:Prop:=true=true/\false=false/\some (dw.cells (145: @TypeId) (Cs.av [AV.ptr 8 0,AV.lit (Value.int .u32 1),AV.lit (Value.int .i32 0),AV.lit (Value.int .u32 0)]))=some (dw.cells (145: @TypeId) (Cs.av [AV.ptr 8 0,AV.lit (Value.int .u32 1),AV.lit (Value.int .i32 0),AV.lit (Value.int .u32 0)]))
def gu(a:Nat)(b:Nat):Prop:=(a:Int)=(b:Int)+1/\True
def jO(a:dN):Prop:=64=64/\ ∀q:Nat,q<64->agq a q
def Cb(a:dF):Prop:=Hd (a.b.ok/\a.r.ok/\a.c.ok/\ ∀k:Nat,k<a.b.n->Not (D6.rd (D6.mk a.b a.r a.c.dur) k))/\True
def kM:Prop:=jA/\jA/\jA/\jA/\True
def Zb(a:ZRh)(b:avR):Prop:=Hd (HW a.n b.o (a.M+1000) a.B a.LN b.y.a/\b.y.a.r.has 0=0/\b.y.a.r.has 1=a.a.r.has 1/\(b.y.found=true/\b.o=a.o+1\/b.y.found=false/\b.o=a.o))
def jG(a:dS)(b:dS):Prop:=bK a.os=bK b.os
def Cc(a:ZWk)(b:ZEj):Prop:=bK (a.c.os a.ph)=bK (b.c.os b.ph)/\jG a.d b.d/\True
def eY(a:Nat):Prop:=I64 ((a:Int)+1)
def aoR(a:dF)(b:dF)(c:ZEj)(d:ZRd):Prop:=a.n=0/\(true=true/\false=false/\some (dw.cells (113: @TypeId) (Cs.av [AV.ptr 7 0,AV.ptr 9 0,AV.ptr 10 0,AV.ptr 11 0,AV.ptr 12 0,AV.ptr 13 0,AV.ptr 14 0,AV.ptr 15 0,AV.lit (Value.int .u64 b.id),AV.lit (Value.int .u64 b.ver),AV.lit (Value.slice none 0 0)]))=some (dw.cells (113: @TypeId) (Cs.av [AV.ptr 7 0,AV.ptr 9 0,AV.ptr 10 0,AV.ptr 11 0,AV.ptr 12 0,AV.ptr 13 0,AV.ptr 14 0,AV.ptr 15 0,AV.lit (Value.int .u64 a.id),AV.lit (Value.int .u64 a.ver),AV.lit (Value.slice none 0 0)])))/\aoQ/\agr c a b d
def aoS(a:dF)(b:dF)(c:ZEj)(d:ZRd):Prop:=(a.n=0->False)/\(true=true/\false=false/\some (dw.cells (113: @TypeId) (Cs.av [AV.ptr 7 0,AV.ptr 9 0,AV.ptr 10 0,AV.ptr 11 0,AV.ptr 12 0,AV.ptr 13 0,AV.ptr 14 0,AV.ptr 15 0,AV.lit (Value.int .u64 b.id),AV.lit (Value.int .u64 b.ver),AV.slW 16 0 7 b.n]))=some (dw.cells (113: @TypeId) (Cs.av [AV.ptr 7 0,AV.ptr 9 0,AV.ptr 10 0,AV.ptr 11 0,AV.ptr 12 0,AV.ptr 13 0,AV.ptr 14 0,AV.ptr 15 0,AV.lit (Value.int .u64 a.id),AV.lit (Value.int .u64 a.ver),AV.slW 16 0 7 a.n])))/\aoQ/\agp c a b d
def yG(a:ZWd):Prop:=Hd (a.n≠0/\a.s.ph=2/\wD a.t a.b a.n a.s a.q)
def Zc(a:ZRh):Prop:=0=0/\(0:Int)=0/\((5:Int)=5/\a.key=ByteArray.mk #[]/\a.v=ByteArray.mk #[]/\iW/\jA/\True)/\True
def Ce(a:Pq)(b:Nat)(c:Nat)(d:Int):Prop:=(a.j:Int)=(b:Int)+1/\(c:Int)-(a.o:Int)=d/\True
def xk(a:ZWd):Prop:=Hd (a.n=0/\wD a.t a.b 0 a.s a.q)
def aoT:Prop:=true=true/\false=false/\some (dw.cells (145: @TypeId) (Cs.av [AV.ptr 7 0,AV.lit (Value.int .u32 1),AV.lit (Value.int .i32 0),AV.lit (Value.int .u32 0)]))=some (dw.cells (145: @TypeId) (Cs.av [AV.ptr 7 0,AV.lit (Value.int .u32 1),AV.lit (Value.int .i32 0),AV.lit (Value.int .u32 0)]))
def aoU:Prop:=true=true/\false=false/\some (dw.cells (145: @TypeId) (Cs.av [AV.ptr 9 0,AV.lit (Value.int .u32 1),AV.lit (Value.int .i32 0),AV.lit (Value.int .u32 0)]))=some (dw.cells (145: @TypeId) (Cs.av [AV.ptr 9 0,AV.lit (Value.int .u32 1),AV.lit (Value.int .i32 0),AV.lit (Value.int .u32 0)]))
def Ky(a:ZRh):Prop:=Hd (a.v.size<=400/\HW a.n a.o a.M a.B a.LN a.a/\a.M<=800000/\a.a.r.has 0=0)
def jc:Prop:=bK lT=bK lT
def sS(a:dF)(b:GU):Prop:=iY/\bK a.os=bK a.os/\xX b
def jS(a:ZRd):Prop:=bK a.os=bK a.os
def ng(a:fD)(b:fD):Prop:=bK (a.os 0)=bK (b.os 0)/\True
def sU(a:ZDq)(b:ZWd)(c:Cj):Prop:=64*a.m=64*(b.n+1)/\aoP a c b.b
def sV(a:ZEj)(b:aoC):Prop:=bK (a.c.os a.ph)=bK (b.c.os b.ph)
def sW(a:ZEj)(b:fD):Prop:=bK (a.c.os a.ph)=bK (b.start.os 1)
def jT(a:iV):Prop:=bK a.os=bK a.os
def qN(a:ZWd)(b:ZTs):Prop:=Hd (a.q (a.n+1) b/\b.ph=2)
def UJ(a:ai1)(b:dF):Prop:=(True/\True/\0=0/\0=0/\0=0/\True/\True/\True/\True/\True/\True/\True)/\bK a.b.os=bK b.b.os/\bK a.r.os=bK b.r.os/\ng a.c b.c
def fQ(a:Nat)(b:Nat):Prop:=60-a<60-b
def sZ(a:ZWk):Prop:=Hd (wK a.c a.d a.ph a.q)
def lS(a:Nat):Prop:=(a:Int)=0/\True
def pR(a:ZWd)(b:ZTs):Prop:=Hd (a.q 1 b/\b.ph=2)
def jd(a:ZLn):Prop:=bK a.os=bK a.os
def Ec(a:avA)(b:Nat):Prop:=Hd (a.i<=b/\a.c<=a.i/\OH a.c a.a a.b)
def Kz(a:Pq)(b:Nat)(c:Nat):Prop:=(a.j:Int)=0/\(b:Int)-(a.o:Int)=(c:Int)/\True
def UK:Prop:=((0:Int)=0/\(0:Int)=0/\(0:Int)=0/\(0:Int)=0/\(0:Int)=0/\True)/\(12:Int)=12/\True
def tq(a:fD):Prop:=Hd (a.ok/\a.jU=0)
def tu(a:ZRd)(b:ZRd):Prop:=bK a.os=bK b.os/\True
def tC(a:ZDq)(b:Cj)(c:dN):Prop:=64*a.m=64/\aoP a b c
def je(a:dI):Prop:=bK a.os=bK a.os
def KA(a:Cj):Prop:= ∃s_2:iG,jl s_2 a/\True/\False
def UL(a:ai1):Prop:=Hd (a.b.ok/\a.r.ok/\a.c.ok/\ ∀k:Nat,k<a.b.n->Not (D6.rd (D6.mk a.b a.r a.c.dur) k))
def tH(a:ZWk)(b:aoC):Prop:=Hd (a.q b.c b.d b.ph)
def acL(a:ZWd)(b:Nat)(c:Cj)(d:GU):Prop:= ∀y_5:ZTs,Hd (a.q 0 y_5)->eY b/\ ∃s_3:iG,jg s_3 c/\fQ s_3.k b/\gu s_3.k b/\nU s_3 y_5 d
def acM(x:dF):Prop:=
 ∃x_1:ai1,UL x_1/\(0=0/\True)/\UJ x_1 x/\ ∀y:Unit,True-> ∃y_1:Unit,True/\UK/\(0=0/\ags x)/\kL/\bK x.d.os=bK x.d.os/\je x.p/\bK x.r.os=bK x_1.r.os/\bK (x.c.os 0)=bK (x_1.c.os 0)/\bK x.b.os=bK x_1.b.os/\jc/\kM/\jd x.l/\True
theorem aiS(x:dF):acM x=eG avQ (ao6.N.args x) (hO 10 (dO 1 (ao6.N.l x))) (fun v h'=>dA 1 x v h' ao6.N.outs):=by kernel_rfl
def acN(x:dF):Prop:=
 ∃x_1:ai1,UL x_1/\(0=0/\True)/\UJ x_1 x/\ ∀y:Unit,True-> ∃y_1:Unit,True/\UK/\UH x/\kL/\bK x.d.os=bK x.d.os/\je x.p/\bK x.r.os=bK x_1.r.os/\bK (x.c.os 0)=bK (x_1.c.os 0)/\bK x.b.os=bK x_1.b.os/\jc/\kM/\jd x.l/\xg x/\True
theorem aiT(x:dF):acN x=eG avQ (ao6.P.args x) (hO 11 (dO 1 (ao6.P.l x))) (fun v h'=>dA 1 x v h' ao6.P.outs):=by kernel_rfl
set_option maxHeartbeats 8000000 in
set_option maxRecDepth 100000 in
def acO(x:GU):Prop:=
 cP (decide ((x.m:Int)>(20:Int))) (true=true/\xX x) (∃x_1:auz,Hd (10<=x_1.n/\x_1.n<=258/\1<=x_1.t/\x_1.t<=4)/\((x_1.n:Int)=42/\(x_1.t:Int)=2/\True)/\True/\ ∀y:dS,Hd (y.ok/\y.n=x_1.n/\y.st=2/\y.fl=2/\y.fe=1)->(∃s:avA,Ec s x.m/\True/\((s.i:Int)=0/\lS s.c)/\bK s.a.os=bK (dF.osN (ru x_1.n x_1.t y))/\xX x)/\(∀s:avA,Ec s x.m->cP (decide ((s.i:Int)<(x.m:Int))) ((0<=(s.i:Int)/\(s.i:Int)<(x.m:Int))/\0+s.i<x.m/\cP (decide (((ByteArray.size (x.g (0+s.i)):Nat):Int)<=60)) ((0<=(s.i:Int)/\(s.i:Int)<(x.m:Int))/\0+s.i<x.m/\ ∃x_2:jr,Hd (wU x_2.a x_2.t)/\(0=0/\(x_2.t:Int)=0/\((4:Int)=4/\x_2.key=ByteArray.mk #[]/\x_2.v=x.g (0+s.i)/\iW/\jA/\True)/\True)/\iM x_2.a s.a/\ ∀y_1:ai0,Hd (resE x_2 y_1)->cP (BEq.beq y_1.code (0:Int)) (eY s.c/\eY s.i/\ ∃s_1:avA,Ec s_1 x.m/\x.m-s_1.i<x.m-s.i/\((s_1.i:Int)=(s.i:Int)+1/\gu s_1.c s.c)/\bK s_1.a.os=bK y_1.a.os/\xX x) (eY s.i/\ ∃s_1:avA,Ec s_1 x.m/\x.m-s_1.i<x.m-s.i/\((s_1.i:Int)=(s.i:Int)+1/\(s_1.c:Int)=(s.c:Int)/\True)/\bK s_1.a.os=bK y_1.a.os/\xX x)) (eY s.i/\ ∃s_1:avA,Ec s_1 x.m/\x.m-s_1.i<x.m-s.i/\((s_1.i:Int)=(s.i:Int)+1/\(s_1.c:Int)=(s.c:Int)/\True)/\bK s_1.a.os=bK s.a.os/\xX x)) (∃x_2:ZWd,xk x_2/\(0=0/\(x_2.t:Int)=1/\((5:Int)=5/\x_2.s.f.key=ByteArray.mk #[]/\x_2.s.f.value=ByteArray.mk #[]/\iW/\jA/\x_2.s.ph=0/\x_2.s.f.epoch=0/\iW/\false=false/\(0:Int)=0/\x_2.s.f.had=false/\x_2.s.f.old.key=ByteArray.mk #[]/\x_2.s.f.old.id=0/\
 x_2.s.f.old.ver=0/\x_2.s.f.old.line=0/\x_2.s.f.old.cls=0/\x_2.s.f.line=(-(1:Int))/\x_2.s.f.cls=0/\x_2.s.f.piece=0/\jA/\(0:Int)=0/\jA/\x_2.s.f.code=0/\x_2.s.f.found=false/\x_2.s.f.ans=ByteArray.mk #[]/\jA/\jA/\x_2.s.f.aep=0/\True)/\True)/\iM x_2.s.a s.a/\(∀y_1:ZTs,Hd (x_2.q 0 y_1)-> ∃x_3:ZWd,xk x_3/\(0=0/\(x_3.t:Int)=1/\((5:Int)=5/\x_3.s.f.key=y_1.f.key/\x_3.s.f.value=y_1.f.value/\iW/\jA/\x_3.s.ph=y_1.ph/\aoM x_3.s.f y_1.f)/\True)/\iM x_3.s.a y_1.a/\(∀y_2:ZTs,Hd (x_3.q 0 y_2)-> ∃g:avS,(∃s_1:Pq,mV s_1 g/\True/\Kz s_1 g.n s.c/\sQ y_2/\pX s_1.a y_2.a x)/\(∀s_1:Pq,mV s_1 g-> ∃x_4:asK,Hd (1<=x_4.m/\x_4.m<=1000)/\(x_4.z=x.turns/\(x_4.m:Int)=8/\True)/\True/\ ∀y_3:Nat,Hd (y_3<x_4.m)->cP (decide ((s_1.j:Int)<(y_3:Int))) (∃x_5:ZRh,Ky x_5/\Zc x_5/\iM x_5.a s_1.a/\ ∀y_4:avR,Zb x_5 y_4-> ∃g_1:Int,cP y_4.y.found (I64 ((g.n:Int)-(s_1.o:Int)-1)/\ ∃s_2:Unit,True/\True/\(g_1=(g.n:Int)-(s_1.o:Int)-1/\True)/\jB y_4.y/\iY/\sQ y_2/\sS y_4.y.a x) (∃s_2:Unit,True/\True/\(g_1=(g.n:Int)-(s_1.o:Int)/\True)/\jB y_4.y/\iY/\sQ y_2/\sS y_4.y.a x)/\(∀s_2:Unit,True->(∃x_6:dF,Hd True/\(0=0/\True)/\(bK x_6.osN=bK y_4.y.a.os/\True)/\ ∀y_5:Unit,True-> ∃x_7:fD,tq x_7/\(0=0/\True)/\ng x_7 x_6.c/\ ∀y_6:Unit,True-> ∃g_2:ZGh,(∃s_3:ZEj,jC s_3 g_2/\True/\lS s_3.j/\jd x_6.l/\kM/\jc/\jT x_6.b/\sW s_3 x_7/\jS x_6.r/\je x_6.p/\jG s_3.d x_6.d/\kL/\jB y_4.y/\iY/\sQ y_2/\BZ x_6 x)/\
 (∀s_3:ZEj,jC s_3 g_2->cP (decide ((s_3.j:Int)<50)) (∃x_8:ZWk,sZ x_8/\(0=0/\0=0/\True)/\Cc x_8 s_3/\ ∀y_7:aoC,tH x_8 y_7->eY s_3.j/\ ∃s_4:ZEj,jC s_4 g_2/\50-s_4.j<50-s_3.j/\gu s_4.j s_3.j/\jd x_6.l/\kM/\jc/\jT x_6.b/\sV s_4 y_7/\jS x_6.r/\je x_6.p/\jG s_4.d y_7.d/\kL/\jB y_4.y/\iY/\sQ y_2/\BZ x_6 x) (∃x_8:ZRd,Hd x_8.ok/\(0=0/\True)/\tu x_8 x_6.r/\ ∀y_7:Unit,True-> ∃a:dF,(a.n=0/\(true=true/\false=false/\some (dw.cells (113: @TypeId) (Cs.av [AV.ptr 6 0,AV.ptr 8 0,AV.ptr 9 0,AV.ptr 10 0,AV.ptr 11 0,AV.ptr 12 0,AV.ptr 13 0,AV.ptr 14 0,AV.lit (Value.int .u64 x_6.id),AV.lit (Value.int .u64 x_6.ver),AV.lit (Value.slice none 0 0)]))=some (dw.cells (113: @TypeId) (Cs.av [AV.ptr 6 0,AV.ptr 8 0,AV.ptr 9 0,AV.ptr 10 0,AV.ptr 11 0,AV.ptr 12 0,AV.ptr 13 0,AV.ptr 14 0,AV.lit (Value.int .u64 a.id),AV.lit (Value.int .u64 a.ver),AV.lit (Value.slice none 0 0)])))/\aoT/\agr s_3 a x_6 x_8)/\ ∃x_9:dF,Cb x_9/\(0=0/\True)/\iM x_9 a/\ ∀y_8:Unit,True->eY s_1.j/\ ∃s_4:Pq,mV s_4 g/\8-s_4.j<8-s_1.j/\Ce s_4 s_1.j g.n g_1/\sQ y_2/\pX s_4.a x_9 x))/\True)\/ ∃x_6:dF,Hd True/\(0=0/\True)/\(bK x_6.osP=bK y_4.y.a.os/\True)/\ ∀y_5:Unit,True-> ∃x_7:fD,tq x_7/\(0=0/\True)/\ng x_7 x_6.c/\ ∀y_6:Unit,True-> ∃g_2:ZGh,(∃s_3:ZEj,jC s_3 g_2/\True/\lS s_3.j/\xg x_6/\jd x_6.l/\kM/\jc/\jT x_6.b/\sW s_3 x_7/\jS x_6.r/\je x_6.p/\jG s_3.d x_6.d/\kL/\jB y_4.y/\iY/\sQ y_2/\BU x_6 x)/\
 (∀s_3:ZEj,jC s_3 g_2->cP (decide ((s_3.j:Int)<50)) (∃x_8:ZWk,sZ x_8/\(0=0/\0=0/\True)/\Cc x_8 s_3/\ ∀y_7:aoC,tH x_8 y_7->eY s_3.j/\ ∃s_4:ZEj,jC s_4 g_2/\50-s_4.j<50-s_3.j/\gu s_4.j s_3.j/\xg x_6/\jd x_6.l/\kM/\jc/\jT x_6.b/\sV s_4 y_7/\jS x_6.r/\je x_6.p/\jG s_4.d y_7.d/\kL/\jB y_4.y/\iY/\sQ y_2/\BU x_6 x) (∃x_8:ZRd,Hd x_8.ok/\(0=0/\True)/\tu x_8 x_6.r/\ ∀y_7:Unit,True-> ∃a:dF,((a.n=0->False)/\(true=true/\false=false/\some (dw.cells (113: @TypeId) (Cs.av [AV.ptr 6 0,AV.ptr 8 0,AV.ptr 9 0,AV.ptr 10 0,AV.ptr 11 0,AV.ptr 12 0,AV.ptr 13 0,AV.ptr 14 0,AV.lit (Value.int .u64 x_6.id),AV.lit (Value.int .u64 x_6.ver),AV.slW 15 0 7 x_6.n]))=some (dw.cells (113: @TypeId) (Cs.av [AV.ptr 6 0,AV.ptr 8 0,AV.ptr 9 0,AV.ptr 10 0,AV.ptr 11 0,AV.ptr 12 0,AV.ptr 13 0,AV.ptr 14 0,AV.lit (Value.int .u64 a.id),AV.lit (Value.int .u64 a.ver),AV.slW 15 0 7 a.n])))/\aoT/\agp s_3 a x_6 x_8)/\ ∃x_9:dF,Cb x_9/\(0=0/\True)/\iM x_9 a/\ ∀y_8:Unit,True->eY s_1.j/\ ∃s_4:Pq,mV s_4 g/\8-s_4.j<8-s_1.j/\Ce s_4 s_1.j g.n g_1/\sQ y_2/\pX s_4.a x_9 x))/\True)/\True) (∃x_5:UU,Kw x_5/\(0=0/\True)/\iM x_5.a s_1.a/\(∀y_4:Unit,Hd (x_5.a.l.n=0)-> ∃g_1:Cj,(∃g_2:Cj,(∃s_2:iG,jg s_2 g_2/\True/\lS s_2.k/\Pv s_2.x y_2/\pX s_2.a x_5.a x)/\(∀s_2:iG,jg s_2 g_2->cP (decide ((s_2.k:Int)<60)) (cP (bne s_2.x.ph (7:Int)) (∃x_6:ZWd,xk x_6/\BR x_6 s_2.x/\iM x_6.s.a s_2.a/\acL x_6 s_2.k g_2 x/\ ∀y_5:ZTs,pR x_6 y_5->eY s_2.k/\
 ∃s_3:iG,jl s_3 g_2/\fQ s_3.k s_2.k/\gu s_3.k s_2.k/\tC s_3.x g_2 x_6.b/\BQ s_3 y_5 x) (∃s_3:iG,iO s_3 g_1/\True/\True/\mQ s_3 s_2 x)) (∃s_3:iG,iO s_3 g_1/\True/\True/\mQ s_3 s_2 x))/\(∀s_2:iG,jl s_2 g_2->cP (decide ((s_2.k:Int)<60)) (∃x_6:ZWd,yG x_6/\BN x_6 s_2.x/\BX x_6 s_2 g_2/\acL x_6 s_2.k g_2 x/\ ∀y_5:ZTs,qN x_6 y_5->eY s_2.k/\ ∃s_3:iG,jl s_3 g_2/\fQ s_3.k s_2.k/\gu s_3.k s_2.k/\sU s_3.x x_6 g_2/\BP s_3 y_5 x_6.n x) (∃s_3:iG,iO s_3 g_1/\True/\True/\BO s_3 s_2 x))/\True)/\Y9 g_1 x g.n s_1.o)/\ ∀y_4:Unit,Hd (x_5.a.l.n≠0)-> ∃g_1:Cj,(∃g_2:Cj,(∃s_2:iG,jg s_2 g_2/\True/\lS s_2.k/\iK x_5/\Pv s_2.x y_2/\pX s_2.a x_5.a x)/\(∀s_2:iG,jg s_2 g_2->cP (decide ((s_2.k:Int)<60)) (cP (bne s_2.x.ph (7:Int)) (∃x_6:ZWd,xk x_6/\BR x_6 s_2.x/\iM x_6.s.a s_2.a/\(∀y_5:ZTs,Hd (x_6.q 0 y_5)->eY s_2.k/\ ∃s_3:iG,jg s_3 g_2/\fQ s_3.k s_2.k/\gu s_3.k s_2.k/\iK x_5/\nU s_3 y_5 x)/\ ∀y_5:ZTs,pR x_6 y_5->eY s_2.k/\ ∃s_3:iG,jl s_3 g_2/\fQ s_3.k s_2.k/\gu s_3.k s_2.k/\tC s_3.x g_2 x_6.b/\iK x_5/\BQ s_3 y_5 x) (∃s_3:iG,iO s_3 g_1/\True/\True/\iK x_5/\mQ s_3 s_2 x)) (∃s_3:iG,iO s_3 g_1/\True/\True/\iK x_5/\mQ s_3 s_2 x))/\(∀s_2:iG,jl s_2 g_2->cP (decide ((s_2.k:Int)<60)) (∃x_6:ZWd,yG x_6/\BN x_6 s_2.x/\BX x_6 s_2 g_2/\(∀y_5:ZTs,Hd (x_6.q 0 y_5)->eY s_2.k/\ ∃s_3:iG,jg s_3 g_2/\fQ s_3.k s_2.k/\gu s_3.k s_2.k/\iK x_5/\nU s_3 y_5 x)/\
 ∀y_5:ZTs,qN x_6 y_5->eY s_2.k/\ ∃s_3:iG,jl s_3 g_2/\fQ s_3.k s_2.k/\gu s_3.k s_2.k/\sU s_3.x x_6 g_2/\iK x_5/\BP s_3 y_5 x_6.n x) (∃s_3:iG,iO s_3 g_1/\True/\True/\iK x_5/\BO s_3 s_2 x))/\True)/\(∀s_2:iG,iO s_2 g_1->cP (BEq.beq s_2.x.f.code (6:Int)) (kG x) (cP (bne (x_5.a.l.n:Int) ((g.n:Int)-(s_1.o:Int))) (kG x) (cP (bne s_2.x.f.code (0:Int)) (Za s_2 x_5 x) (cP (@BEq.beq Bool (@instBEqOfDecidableEq Bool @instDecidableEqBool) s_2.x.f.found (decide ((g.n:Int)-(s_1.o:Int)>(0:Int)))) (cP (BEq.beq ((g.n:Int)-(s_1.o:Int)) (0:Int)) (yC g.n s_1.o s_2.a x) (Eb x_5.a.l.n/\0<x_5.a.l.n/\cP (BEq.beq (ByteArray.toList s_2.x.f.ans) (ByteArray.toList (dN.value (x_5.b 0)))) (yC g.n s_1.o s_2.a x) (yD x))) (yD x)))))/\True))/\True)/\ ∀y_2:ZTs,pR x_3 y_2-> ∃g:avS,(∃s_1:Pq,mV s_1 g/\True/\Kz s_1 g.n s.c/\jO x_3.b/\yF y_2.f/\pX s_1.a y_2.a x)/\(∀s_1:Pq,mV s_1 g-> ∃x_4:asK,Hd (1<=x_4.m/\x_4.m<=1000)/\(x_4.z=x.turns/\(x_4.m:Int)=8/\True)/\True/\ ∀y_3:Nat,Hd (y_3<x_4.m)->cP (decide ((s_1.j:Int)<(y_3:Int))) (∃x_5:ZRh,Ky x_5/\Zc x_5/\iM x_5.a s_1.a/\ ∀y_4:avR,Zb x_5 y_4-> ∃g_1:Int,cP y_4.y.found (I64 ((g.n:Int)-(s_1.o:Int)-1)/\ ∃s_2:Unit,True/\True/\(g_1=(g.n:Int)-(s_1.o:Int)-1/\True)/\jB y_4.y/\iY/\jO x_3.b/\yF y_2.f/\sS y_4.y.a x) (∃s_2:Unit,True/\True/\(g_1=(g.n:Int)-(s_1.o:Int)/\True)/\jB y_4.y/\iY/\jO x_3.b/\yF y_2.f/\sS y_4.y.a x)/\(∀s_2:Unit,True->(∃x_6:dF,Hd True/\(0=0/\True)/\(bK x_6.osN=bK y_4.y.a.os/\
 True)/\ ∀y_5:Unit,True-> ∃x_7:fD,tq x_7/\(0=0/\True)/\ng x_7 x_6.c/\ ∀y_6:Unit,True-> ∃g_2:ZGh,(∃s_3:ZEj,jC s_3 g_2/\True/\lS s_3.j/\jd x_6.l/\kM/\jc/\jT x_6.b/\sW s_3 x_7/\jS x_6.r/\je x_6.p/\jG s_3.d x_6.d/\kL/\jB y_4.y/\iY/\jO x_3.b/\yF y_2.f/\BZ x_6 x)/\(∀s_3:ZEj,jC s_3 g_2->cP (decide ((s_3.j:Int)<50)) (∃x_8:ZWk,sZ x_8/\(0=0/\0=0/\True)/\Cc x_8 s_3/\ ∀y_7:aoC,tH x_8 y_7->eY s_3.j/\ ∃s_4:ZEj,jC s_4 g_2/\50-s_4.j<50-s_3.j/\gu s_4.j s_3.j/\jd x_6.l/\kM/\jc/\jT x_6.b/\sV s_4 y_7/\jS x_6.r/\je x_6.p/\jG s_4.d y_7.d/\kL/\jB y_4.y/\iY/\jO x_3.b/\yF y_2.f/\BZ x_6 x) (∃x_8:ZRd,Hd x_8.ok/\(0=0/\True)/\tu x_8 x_6.r/\ ∀y_7:Unit,True-> ∃a:dF,aoR a x_6 s_3 x_8/\ ∃x_9:dF,Cb x_9/\(0=0/\True)/\iM x_9 a/\ ∀y_8:Unit,True->eY s_1.j/\ ∃s_4:Pq,mV s_4 g/\8-s_4.j<8-s_1.j/\Ce s_4 s_1.j g.n g_1/\jO x_3.b/\yF y_2.f/\pX s_4.a x_9 x))/\True)\/ ∃x_6:dF,Hd True/\(0=0/\True)/\(bK x_6.osP=bK y_4.y.a.os/\True)/\ ∀y_5:Unit,True-> ∃x_7:fD,tq x_7/\(0=0/\True)/\ng x_7 x_6.c/\ ∀y_6:Unit,True-> ∃g_2:ZGh,(∃s_3:ZEj,jC s_3 g_2/\True/\lS s_3.j/\xg x_6/\jd x_6.l/\kM/\jc/\jT x_6.b/\sW s_3 x_7/\jS x_6.r/\je x_6.p/\jG s_3.d x_6.d/\kL/\jB y_4.y/\iY/\jO x_3.b/\yF y_2.f/\BU x_6 x)/\(∀s_3:ZEj,jC s_3 g_2->cP (decide ((s_3.j:Int)<50)) (∃x_8:ZWk,sZ x_8/\(0=0/\0=0/\True)/\
 Cc x_8 s_3/\ ∀y_7:aoC,tH x_8 y_7->eY s_3.j/\ ∃s_4:ZEj,jC s_4 g_2/\50-s_4.j<50-s_3.j/\gu s_4.j s_3.j/\xg x_6/\jd x_6.l/\kM/\jc/\jT x_6.b/\sV s_4 y_7/\jS x_6.r/\je x_6.p/\jG s_4.d y_7.d/\kL/\jB y_4.y/\iY/\jO x_3.b/\yF y_2.f/\BU x_6 x) (∃x_8:ZRd,Hd x_8.ok/\(0=0/\True)/\tu x_8 x_6.r/\ ∀y_7:Unit,True-> ∃a:dF,aoS a x_6 s_3 x_8/\ ∃x_9:dF,Cb x_9/\(0=0/\True)/\iM x_9 a/\ ∀y_8:Unit,True->eY s_1.j/\ ∃s_4:Pq,mV s_4 g/\8-s_4.j<8-s_1.j/\Ce s_4 s_1.j g.n g_1/\jO x_3.b/\yF y_2.f/\pX s_4.a x_9 x))/\True)/\True) (∃x_5:UU,Kw x_5/\(0=0/\True)/\iM x_5.a s_1.a/\(∀y_4:Unit,Hd (x_5.a.l.n=0)-> ∃g_1:Cj,(∃g_2:Cj,KA g_2/\(∀s_2:iG,jg s_2 g_2->cP (decide ((s_2.k:Int)<60)) (cP (bne s_2.x.ph (7:Int)) (∃x_6:ZWd,xk x_6/\BR x_6 s_2.x/\iM x_6.s.a s_2.a/\(∀y_5:ZTs,Hd (x_6.q 0 y_5)->eY s_2.k/\ ∃s_3:iG,jg s_3 g_2/\fQ s_3.k s_2.k/\gu s_3.k s_2.k/\jO x_3.b/\nU s_3 y_5 x)/\ ∀y_5:ZTs,pR x_6 y_5->eY s_2.k/\ ∃s_3:iG,jl s_3 g_2/\fQ s_3.k s_2.k/\gu s_3.k s_2.k/\tC s_3.x g_2 x_6.b/\jO x_3.b/\BQ s_3 y_5 x) (∃s_3:iG,iO s_3 g_1/\True/\True/\jO x_3.b/\mQ s_3 s_2 x)) (∃s_3:iG,iO s_3 g_1/\True/\True/\jO x_3.b/\mQ s_3 s_2 x))/\(∀s_2:iG,jl s_2 g_2->cP (decide ((s_2.k:Int)<60)) (∃x_6:ZWd,yG x_6/\BN x_6 s_2.x/\BX x_6 s_2 g_2/\(∀y_5:ZTs,Hd (x_6.q 0 y_5)->eY s_2.k/\ ∃s_3:iG,jg s_3 g_2/\fQ s_3.k s_2.k/\gu s_3.k s_2.k/\jO x_3.b/\
 nU s_3 y_5 x)/\ ∀y_5:ZTs,qN x_6 y_5->eY s_2.k/\ ∃s_3:iG,jl s_3 g_2/\fQ s_3.k s_2.k/\gu s_3.k s_2.k/\sU s_3.x x_6 g_2/\jO x_3.b/\BP s_3 y_5 x_6.n x) (∃s_3:iG,iO s_3 g_1/\True/\True/\jO x_3.b/\BO s_3 s_2 x))/\True)/\Y9 g_1 x g.n s_1.o)/\ ∀y_4:Unit,Hd (x_5.a.l.n≠0)-> ∃g_1:Cj,(∃g_2:Cj,KA g_2/\(∀s_2:iG,jg s_2 g_2->cP (decide ((s_2.k:Int)<60)) (cP (bne s_2.x.ph (7:Int)) (∃x_6:ZWd,xk x_6/\BR x_6 s_2.x/\iM x_6.s.a s_2.a/\(∀y_5:ZTs,Hd (x_6.q 0 y_5)->eY s_2.k/\ ∃s_3:iG,jg s_3 g_2/\fQ s_3.k s_2.k/\gu s_3.k s_2.k/\iK x_5/\jO x_3.b/\nU s_3 y_5 x)/\ ∀y_5:ZTs,pR x_6 y_5->eY s_2.k/\ ∃s_3:iG,jl s_3 g_2/\fQ s_3.k s_2.k/\gu s_3.k s_2.k/\tC s_3.x g_2 x_6.b/\iK x_5/\jO x_3.b/\BQ s_3 y_5 x) (∃s_3:iG,iO s_3 g_1/\True/\True/\iK x_5/\jO x_3.b/\mQ s_3 s_2 x)) (∃s_3:iG,iO s_3 g_1/\True/\True/\iK x_5/\jO x_3.b/\mQ s_3 s_2 x))/\(∀s_2:iG,jl s_2 g_2->cP (decide ((s_2.k:Int)<60)) (∃x_6:ZWd,yG x_6/\BN x_6 s_2.x/\BX x_6 s_2 g_2/\(∀y_5:ZTs,Hd (x_6.q 0 y_5)->eY s_2.k/\ ∃s_3:iG,jg s_3 g_2/\fQ s_3.k s_2.k/\gu s_3.k s_2.k/\iK x_5/\jO x_3.b/\nU s_3 y_5 x)/\ ∀y_5:ZTs,qN x_6 y_5->eY s_2.k/\ ∃s_3:iG,jl s_3 g_2/\fQ s_3.k s_2.k/\gu s_3.k s_2.k/\sU s_3.x x_6 g_2/\iK x_5/\jO x_3.b/\BP s_3 y_5 x_6.n x) (∃s_3:iG,iO s_3 g_1/\True/\True/\iK x_5/\jO x_3.b/\BO s_3 s_2 x))/\True)/\
 (∀s_2:iG,iO s_2 g_1->cP (BEq.beq s_2.x.f.code (6:Int)) (kG x) (cP (bne (x_5.a.l.n:Int) ((g.n:Int)-(s_1.o:Int))) (kG x) (cP (bne s_2.x.f.code (0:Int)) (Za s_2 x_5 x) (cP (@BEq.beq Bool (@instBEqOfDecidableEq Bool @instDecidableEqBool) s_2.x.f.found (decide ((g.n:Int)-(s_1.o:Int)>(0:Int)))) (cP (BEq.beq ((g.n:Int)-(s_1.o:Int)) (0:Int)) (yC g.n s_1.o s_2.a x) (Eb x_5.a.l.n/\0<x_5.a.l.n/\cP (BEq.beq (ByteArray.toList s_2.x.f.ans) (ByteArray.toList (dN.value (x_5.b 0)))) (yC g.n s_1.o s_2.a x) (yD x))) (yD x)))))/\True))/\True)/\ ∀y_1:ZTs,pR x_2 y_1-> ∃x_3:ZWd,yG x_3/\(0=0/\(x_3.t:Int)=1/\((5:Int)=5/\x_3.s.f.key=y_1.f.key/\x_3.s.f.value=y_1.f.value/\iW/\jA/\(2:Int)=2/\x_3.s.f.epoch=y_1.f.epoch/\iW/\false=false/\(0:Int)=0/\x_3.s.f.had=y_1.f.had/\x_3.s.f.old.key=y_1.f.old.key/\x_3.s.f.old.id=y_1.f.old.id/\x_3.s.f.old.ver=y_1.f.old.ver/\x_3.s.f.old.line=y_1.f.old.line/\x_3.s.f.old.cls=y_1.f.old.cls/\x_3.s.f.line=y_1.f.line/\x_3.s.f.cls=y_1.f.cls/\x_3.s.f.piece=y_1.f.piece/\(0=0/\64*x_3.n=64)/\Kv x_3.s.f y_1.f)/\True)/\(bK x_3.s.a.os=bK y_1.a.os/\(64*x_3.n=64/\ ∀q:Nat,q<64*x_3.n->[Value.int .u8 (x_3.b.enc q)]=[Value.int .u8 (x_2.b.enc q)])/\True)/\(∀y_2:ZTs,Hd (x_3.q 0 y_2)-> ∃g:avS,(∃s_1:Pq,mV s_1 g/\True/\Kz s_1 g.n s.c/\fE x_3/\sQ y_2/\pX s_1.a y_2.a x)/\(∀s_1:Pq,mV s_1 g-> ∃x_4:asK,Hd (1<=x_4.m/\x_4.m<=1000)/\(x_4.z=x.turns/\(x_4.m:Int)=8/\True)/\True/\ ∀y_3:Nat,Hd (y_3<x_4.m)->cP (decide ((s_1.j:Int)<(y_3:Int))) (∃x_5:ZRh,Ky x_5/\Zc x_5/\iM x_5.a s_1.a/\
 ∀y_4:avR,Zb x_5 y_4-> ∃g_1:Int,cP y_4.y.found (I64 ((g.n:Int)-(s_1.o:Int)-1)/\ ∃s_2:Unit,True/\True/\(g_1=(g.n:Int)-(s_1.o:Int)-1/\True)/\jB y_4.y/\iY/\fE x_3/\sQ y_2/\sS y_4.y.a x) (∃s_2:Unit,True/\True/\(g_1=(g.n:Int)-(s_1.o:Int)/\True)/\jB y_4.y/\iY/\fE x_3/\sQ y_2/\sS y_4.y.a x)/\(∀s_2:Unit,True->(∃x_6:dF,Hd True/\(0=0/\True)/\(bK x_6.osN=bK y_4.y.a.os/\True)/\ ∀y_5:Unit,True-> ∃x_7:fD,tq x_7/\(0=0/\True)/\ng x_7 x_6.c/\ ∀y_6:Unit,True-> ∃g_2:ZGh,(∃s_3:ZEj,jC s_3 g_2/\True/\lS s_3.j/\jd x_6.l/\kM/\jc/\jT x_6.b/\sW s_3 x_7/\jS x_6.r/\je x_6.p/\jG s_3.d x_6.d/\kL/\jB y_4.y/\iY/\fE x_3/\sQ y_2/\BZ x_6 x)/\(∀s_3:ZEj,jC s_3 g_2->cP (decide ((s_3.j:Int)<50)) (∃x_8:ZWk,sZ x_8/\(0=0/\0=0/\True)/\Cc x_8 s_3/\ ∀y_7:aoC,tH x_8 y_7->eY s_3.j/\ ∃s_4:ZEj,jC s_4 g_2/\50-s_4.j<50-s_3.j/\gu s_4.j s_3.j/\jd x_6.l/\kM/\jc/\jT x_6.b/\sV s_4 y_7/\jS x_6.r/\je x_6.p/\jG s_4.d y_7.d/\kL/\jB y_4.y/\iY/\fE x_3/\sQ y_2/\BZ x_6 x) (∃x_8:ZRd,Hd x_8.ok/\(0=0/\True)/\tu x_8 x_6.r/\ ∀y_7:Unit,True-> ∃a:dF,aoR a x_6 s_3 x_8/\ ∃x_9:dF,Cb x_9/\(0=0/\True)/\iM x_9 a/\ ∀y_8:Unit,True->eY s_1.j/\ ∃s_4:Pq,mV s_4 g/\8-s_4.j<8-s_1.j/\Ce s_4 s_1.j g.n g_1/\fE x_3/\sQ y_2/\pX s_4.a x_9 x))/\True)\/ ∃x_6:dF,Hd True/\(0=0/\True)/\(bK x_6.osP=bK y_4.y.a.os/\True)/\ ∀y_5:Unit,True-> ∃x_7:fD,tq x_7/\
 (0=0/\True)/\ng x_7 x_6.c/\ ∀y_6:Unit,True-> ∃g_2:ZGh,(∃s_3:ZEj,jC s_3 g_2/\True/\lS s_3.j/\xg x_6/\jd x_6.l/\kM/\jc/\jT x_6.b/\sW s_3 x_7/\jS x_6.r/\je x_6.p/\jG s_3.d x_6.d/\kL/\jB y_4.y/\iY/\fE x_3/\sQ y_2/\BU x_6 x)/\(∀s_3:ZEj,jC s_3 g_2->cP (decide ((s_3.j:Int)<50)) (∃x_8:ZWk,sZ x_8/\(0=0/\0=0/\True)/\Cc x_8 s_3/\ ∀y_7:aoC,tH x_8 y_7->eY s_3.j/\ ∃s_4:ZEj,jC s_4 g_2/\50-s_4.j<50-s_3.j/\gu s_4.j s_3.j/\xg x_6/\jd x_6.l/\kM/\jc/\jT x_6.b/\sV s_4 y_7/\jS x_6.r/\je x_6.p/\jG s_4.d y_7.d/\kL/\jB y_4.y/\iY/\fE x_3/\sQ y_2/\BU x_6 x) (∃x_8:ZRd,Hd x_8.ok/\(0=0/\True)/\tu x_8 x_6.r/\ ∀y_7:Unit,True-> ∃a:dF,aoS a x_6 s_3 x_8/\ ∃x_9:dF,Cb x_9/\(0=0/\True)/\iM x_9 a/\ ∀y_8:Unit,True->eY s_1.j/\ ∃s_4:Pq,mV s_4 g/\8-s_4.j<8-s_1.j/\Ce s_4 s_1.j g.n g_1/\fE x_3/\sQ y_2/\pX s_4.a x_9 x))/\True)/\True) (∃x_5:UU,Kw x_5/\(0=0/\True)/\iM x_5.a s_1.a/\(∀y_4:Unit,Hd (x_5.a.l.n=0)-> ∃g_1:Cj,(∃g_2:Cj,(∃s_2:iG,jg s_2 g_2/\True/\lS s_2.k/\fE x_3/\Pv s_2.x y_2/\pX s_2.a x_5.a x)/\(∀s_2:iG,jg s_2 g_2->cP (decide ((s_2.k:Int)<60)) (cP (bne s_2.x.ph (7:Int)) (∃x_6:ZWd,xk x_6/\BR x_6 s_2.x/\iM x_6.s.a s_2.a/\(∀y_5:ZTs,Hd (x_6.q 0 y_5)->eY s_2.k/\ ∃s_3:iG,jg s_3 g_2/\fQ s_3.k s_2.k/\gu s_3.k s_2.k/\fE x_3/\nU s_3 y_5 x)/\ ∀y_5:ZTs,pR x_6 y_5->eY s_2.k/\ ∃s_3:iG,jl s_3 g_2/\
 fQ s_3.k s_2.k/\gu s_3.k s_2.k/\tC s_3.x g_2 x_6.b/\fE x_3/\BQ s_3 y_5 x) (∃s_3:iG,iO s_3 g_1/\True/\True/\fE x_3/\mQ s_3 s_2 x)) (∃s_3:iG,iO s_3 g_1/\True/\True/\fE x_3/\mQ s_3 s_2 x))/\(∀s_2:iG,jl s_2 g_2->cP (decide ((s_2.k:Int)<60)) (∃x_6:ZWd,yG x_6/\BN x_6 s_2.x/\BX x_6 s_2 g_2/\(∀y_5:ZTs,Hd (x_6.q 0 y_5)->eY s_2.k/\ ∃s_3:iG,jg s_3 g_2/\fQ s_3.k s_2.k/\gu s_3.k s_2.k/\fE x_3/\nU s_3 y_5 x)/\ ∀y_5:ZTs,qN x_6 y_5->eY s_2.k/\ ∃s_3:iG,jl s_3 g_2/\fQ s_3.k s_2.k/\gu s_3.k s_2.k/\sU s_3.x x_6 g_2/\fE x_3/\BP s_3 y_5 x_6.n x) (∃s_3:iG,iO s_3 g_1/\True/\True/\fE x_3/\BO s_3 s_2 x))/\True)/\Y9 g_1 x g.n s_1.o)/\ ∀y_4:Unit,Hd (x_5.a.l.n≠0)-> ∃g_1:Cj,(∃g_2:Cj,(∃s_2:iG,jg s_2 g_2/\True/\lS s_2.k/\iK x_5/\fE x_3/\Pv s_2.x y_2/\pX s_2.a x_5.a x)/\(∀s_2:iG,jg s_2 g_2->cP (decide ((s_2.k:Int)<60)) (cP (bne s_2.x.ph (7:Int)) (∃x_6:ZWd,xk x_6/\BR x_6 s_2.x/\iM x_6.s.a s_2.a/\(∀y_5:ZTs,Hd (x_6.q 0 y_5)->eY s_2.k/\ ∃s_3:iG,jg s_3 g_2/\fQ s_3.k s_2.k/\gu s_3.k s_2.k/\iK x_5/\fE x_3/\nU s_3 y_5 x)/\ ∀y_5:ZTs,pR x_6 y_5->eY s_2.k/\ ∃s_3:iG,jl s_3 g_2/\fQ s_3.k s_2.k/\gu s_3.k s_2.k/\tC s_3.x g_2 x_6.b/\iK x_5/\fE x_3/\BQ s_3 y_5 x) (∃s_3:iG,iO s_3 g_1/\True/\True/\iK x_5/\fE x_3/\mQ s_3 s_2 x)) (∃s_3:iG,iO s_3 g_1/\True/\True/\iK x_5/\fE x_3/\mQ s_3 s_2 x))/\
 (∀s_2:iG,jl s_2 g_2->cP (decide ((s_2.k:Int)<60)) (∃x_6:ZWd,yG x_6/\BN x_6 s_2.x/\BX x_6 s_2 g_2/\(∀y_5:ZTs,Hd (x_6.q 0 y_5)->eY s_2.k/\ ∃s_3:iG,jg s_3 g_2/\fQ s_3.k s_2.k/\gu s_3.k s_2.k/\iK x_5/\fE x_3/\nU s_3 y_5 x)/\ ∀y_5:ZTs,qN x_6 y_5->eY s_2.k/\ ∃s_3:iG,jl s_3 g_2/\fQ s_3.k s_2.k/\gu s_3.k s_2.k/\sU s_3.x x_6 g_2/\iK x_5/\fE x_3/\BP s_3 y_5 x_6.n x) (∃s_3:iG,iO s_3 g_1/\True/\True/\iK x_5/\fE x_3/\BO s_3 s_2 x))/\True)/\(∀s_2:iG,iO s_2 g_1->cP (BEq.beq s_2.x.f.code (6:Int)) (kG x) (cP (bne (x_5.a.l.n:Int) ((g.n:Int)-(s_1.o:Int))) (kG x) (cP (bne s_2.x.f.code (0:Int)) (Za s_2 x_5 x) (cP (@BEq.beq Bool (@instBEqOfDecidableEq Bool @instDecidableEqBool) s_2.x.f.found (decide ((g.n:Int)-(s_1.o:Int)>(0:Int)))) (cP (BEq.beq ((g.n:Int)-(s_1.o:Int)) (0:Int)) (yC g.n s_1.o s_2.a x) (Eb x_5.a.l.n/\0<x_5.a.l.n/\cP (BEq.beq (ByteArray.toList s_2.x.f.ans) (ByteArray.toList (dN.value (x_5.b 0)))) (yC g.n s_1.o s_2.a x) (yD x))) (yD x)))))/\True))/\True)/\ ∀y_2:ZTs,qN x_3 y_2-> ∃g:avS,(∃s_1:Pq,mV s_1 g/\True/\Kz s_1 g.n s.c/\jM x_3/\fE x_3/\yE y_2.f x_3.n/\pX s_1.a y_2.a x)/\(∀s_1:Pq,mV s_1 g-> ∃x_4:asK,Hd (1<=x_4.m/\x_4.m<=1000)/\(x_4.z=x.turns/\(x_4.m:Int)=8/\True)/\True/\ ∀y_3:Nat,Hd (y_3<x_4.m)->cP (decide ((s_1.j:Int)<(y_3:Int))) (∃x_5:ZRh,Ky x_5/\Zc x_5/\iM x_5.a s_1.a/\ ∀y_4:avR,Zb x_5 y_4-> ∃g_1:Int,cP y_4.y.found (I64 ((g.n:Int)-(s_1.o:Int)-1)/\ ∃s_2:Unit,True/\True/\
 (g_1=(g.n:Int)-(s_1.o:Int)-1/\True)/\jB y_4.y/\iY/\jM x_3/\fE x_3/\yE y_2.f x_3.n/\sS y_4.y.a x) (∃s_2:Unit,True/\True/\(g_1=(g.n:Int)-(s_1.o:Int)/\True)/\jB y_4.y/\iY/\jM x_3/\fE x_3/\yE y_2.f x_3.n/\sS y_4.y.a x)/\(∀s_2:Unit,True->(∃x_6:dF,Hd True/\(0=0/\True)/\(bK x_6.osN=bK y_4.y.a.os/\True)/\ ∀y_5:Unit,True-> ∃x_7:fD,tq x_7/\(0=0/\True)/\ng x_7 x_6.c/\ ∀y_6:Unit,True-> ∃g_2:ZGh,(∃s_3:ZEj,jC s_3 g_2/\True/\lS s_3.j/\jd x_6.l/\kM/\jc/\jT x_6.b/\sW s_3 x_7/\jS x_6.r/\je x_6.p/\jG s_3.d x_6.d/\kL/\jB y_4.y/\iY/\jM x_3/\fE x_3/\yE y_2.f x_3.n/\BZ x_6 x)/\(∀s_3:ZEj,jC s_3 g_2->cP (decide ((s_3.j:Int)<50)) (∃x_8:ZWk,sZ x_8/\(0=0/\0=0/\True)/\Cc x_8 s_3/\ ∀y_7:aoC,tH x_8 y_7->eY s_3.j/\ ∃s_4:ZEj,jC s_4 g_2/\50-s_4.j<50-s_3.j/\gu s_4.j s_3.j/\jd x_6.l/\kM/\jc/\jT x_6.b/\sV s_4 y_7/\jS x_6.r/\je x_6.p/\jG s_4.d y_7.d/\kL/\jB y_4.y/\iY/\jM x_3/\fE x_3/\yE y_2.f x_3.n/\BZ x_6 x) (∃x_8:ZRd,Hd x_8.ok/\(0=0/\True)/\tu x_8 x_6.r/\ ∀y_7:Unit,True-> ∃a:dF,(a.n=0/\(true=true/\false=false/\
 some (dw.cells (113: @TypeId) (Cs.av [AV.ptr 8 0,AV.ptr 10 0,AV.ptr 11 0,AV.ptr 12 0,AV.ptr 13 0,AV.ptr 14 0,AV.ptr 15 0,AV.ptr 16 0,AV.lit (Value.int .u64 x_6.id),AV.lit (Value.int .u64 x_6.ver),AV.lit (Value.slice none 0 0)]))=some (dw.cells (113: @TypeId) (Cs.av [AV.ptr 8 0,AV.ptr 10 0,AV.ptr 11 0,AV.ptr 12 0,AV.ptr 13 0,AV.ptr 14 0,AV.ptr 15 0,AV.ptr 16 0,AV.lit (Value.int .u64 a.id),AV.lit (Value.int .u64 a.ver),AV.lit (Value.slice none 0 0)])))/\aoU/\agr s_3 a x_6 x_8)/\ ∃x_9:dF,Cb x_9/\(0=0/\True)/\iM x_9 a/\ ∀y_8:Unit,True->eY s_1.j/\ ∃s_4:Pq,mV s_4 g/\8-s_4.j<8-s_1.j/\Ce s_4 s_1.j g.n g_1/\jM x_3/\fE x_3/\yE y_2.f x_3.n/\pX s_4.a x_9 x))/\True)\/ ∃x_6:dF,Hd True/\(0=0/\True)/\(bK x_6.osP=bK y_4.y.a.os/\True)/\ ∀y_5:Unit,True-> ∃x_7:fD,tq x_7/\(0=0/\True)/\ng x_7 x_6.c/\ ∀y_6:Unit,True-> ∃g_2:ZGh,(∃s_3:ZEj,jC s_3 g_2/\True/\lS s_3.j/\xg x_6/\jd x_6.l/\kM/\jc/\jT x_6.b/\sW s_3 x_7/\jS x_6.r/\je x_6.p/\jG s_3.d x_6.d/\kL/\jB y_4.y/\iY/\jM x_3/\fE x_3/\yE y_2.f x_3.n/\BU x_6 x)/\(∀s_3:ZEj,jC s_3 g_2->cP (decide ((s_3.j:Int)<50)) (∃x_8:ZWk,sZ x_8/\(0=0/\0=0/\True)/\Cc x_8 s_3/\ ∀y_7:aoC,tH x_8 y_7->eY s_3.j/\ ∃s_4:ZEj,jC s_4 g_2/\50-s_4.j<50-s_3.j/\gu s_4.j s_3.j/\xg x_6/\jd x_6.l/\kM/\jc/\jT x_6.b/\sV s_4 y_7/\jS x_6.r/\je x_6.p/\jG s_4.d y_7.d/\kL/\jB y_4.y/\iY/\jM x_3/\fE x_3/\yE y_2.f x_3.n/\BU x_6 x) (∃x_8:ZRd,Hd x_8.ok/\(0=0/\True)/\
 tu x_8 x_6.r/\ ∀y_7:Unit,True-> ∃a:dF,((a.n=0->False)/\(true=true/\false=false/\some (dw.cells (113: @TypeId) (Cs.av [AV.ptr 8 0,AV.ptr 10 0,AV.ptr 11 0,AV.ptr 12 0,AV.ptr 13 0,AV.ptr 14 0,AV.ptr 15 0,AV.ptr 16 0,AV.lit (Value.int .u64 x_6.id),AV.lit (Value.int .u64 x_6.ver),AV.slW 17 0 7 x_6.n]))=some (dw.cells (113: @TypeId) (Cs.av [AV.ptr 8 0,AV.ptr 10 0,AV.ptr 11 0,AV.ptr 12 0,AV.ptr 13 0,AV.ptr 14 0,AV.ptr 15 0,AV.ptr 16 0,AV.lit (Value.int .u64 a.id),AV.lit (Value.int .u64 a.ver),AV.slW 17 0 7 a.n])))/\aoU/\agp s_3 a x_6 x_8)/\ ∃x_9:dF,Cb x_9/\(0=0/\True)/\iM x_9 a/\ ∀y_8:Unit,True->eY s_1.j/\ ∃s_4:Pq,mV s_4 g/\8-s_4.j<8-s_1.j/\Ce s_4 s_1.j g.n g_1/\jM x_3/\fE x_3/\yE y_2.f x_3.n/\pX s_4.a x_9 x))/\True)/\True) (∃x_5:UU,Kw x_5/\(0=0/\True)/\iM x_5.a s_1.a/\(∀y_4:Unit,Hd (x_5.a.l.n=0)-> ∃g_1:Cj,(∃g_2:Cj,KA g_2/\(∀s_2:iG,jg s_2 g_2->cP (decide ((s_2.k:Int)<60)) (cP (bne s_2.x.ph (7:Int)) (∃x_6:ZWd,xk x_6/\BR x_6 s_2.x/\iM x_6.s.a s_2.a/\(∀y_5:ZTs,Hd (x_6.q 0 y_5)->eY s_2.k/\ ∃s_3:iG,jg s_3 g_2/\fQ s_3.k s_2.k/\gu s_3.k s_2.k/\jM x_3/\fE x_3/\nU s_3 y_5 x)/\ ∀y_5:ZTs,pR x_6 y_5->eY s_2.k/\ ∃s_3:iG,jl s_3 g_2/\fQ s_3.k s_2.k/\gu s_3.k s_2.k/\tC s_3.x g_2 x_6.b/\jM x_3/\fE x_3/\BQ s_3 y_5 x) (∃s_3:iG,iO s_3 g_1/\True/\True/\jM x_3/\fE x_3/\mQ s_3 s_2 x)) (∃s_3:iG,iO s_3 g_1/\True/\True/\jM x_3/\fE x_3/\mQ s_3 s_2 x))/\
 (∀s_2:iG,jl s_2 g_2->cP (decide ((s_2.k:Int)<60)) (∃x_6:ZWd,yG x_6/\BN x_6 s_2.x/\BX x_6 s_2 g_2/\(∀y_5:ZTs,Hd (x_6.q 0 y_5)->eY s_2.k/\ ∃s_3:iG,jg s_3 g_2/\fQ s_3.k s_2.k/\gu s_3.k s_2.k/\jM x_3/\fE x_3/\nU s_3 y_5 x)/\ ∀y_5:ZTs,qN x_6 y_5->eY s_2.k/\ ∃s_3:iG,jl s_3 g_2/\fQ s_3.k s_2.k/\gu s_3.k s_2.k/\sU s_3.x x_6 g_2/\jM x_3/\fE x_3/\BP s_3 y_5 x_6.n x) (∃s_3:iG,iO s_3 g_1/\True/\True/\jM x_3/\fE x_3/\BO s_3 s_2 x))/\True)/\Y9 g_1 x g.n s_1.o)/\ ∀y_4:Unit,Hd (x_5.a.l.n≠0)-> ∃g_1:Cj,(∃g_2:Cj,KA g_2/\(∀s_2:iG,jg s_2 g_2->cP (decide ((s_2.k:Int)<60)) (cP (bne s_2.x.ph (7:Int)) (∃x_6:ZWd,xk x_6/\BR x_6 s_2.x/\iM x_6.s.a s_2.a/\(∀y_5:ZTs,Hd (x_6.q 0 y_5)->eY s_2.k/\ ∃s_3:iG,jg s_3 g_2/\fQ s_3.k s_2.k/\gu s_3.k s_2.k/\iK x_5/\jM x_3/\fE x_3/\nU s_3 y_5 x)/\ ∀y_5:ZTs,pR x_6 y_5->eY s_2.k/\ ∃s_3:iG,jl s_3 g_2/\fQ s_3.k s_2.k/\gu s_3.k s_2.k/\tC s_3.x g_2 x_6.b/\iK x_5/\jM x_3/\fE x_3/\BQ s_3 y_5 x) (∃s_3:iG,iO s_3 g_1/\True/\True/\iK x_5/\jM x_3/\fE x_3/\mQ s_3 s_2 x)) (∃s_3:iG,iO s_3 g_1/\True/\True/\iK x_5/\jM x_3/\fE x_3/\mQ s_3 s_2 x))/\(∀s_2:iG,jl s_2 g_2->cP (decide ((s_2.k:Int)<60)) (∃x_6:ZWd,yG x_6/\BN x_6 s_2.x/\BX x_6 s_2 g_2/\(∀y_5:ZTs,Hd (x_6.q 0 y_5)->eY s_2.k/\ ∃s_3:iG,jg s_3 g_2/\fQ s_3.k s_2.k/\gu s_3.k s_2.k/\iK x_5/\jM x_3/\fE x_3/\nU s_3 y_5 x)/\
 ∀y_5:ZTs,qN x_6 y_5->eY s_2.k/\ ∃s_3:iG,jl s_3 g_2/\fQ s_3.k s_2.k/\gu s_3.k s_2.k/\sU s_3.x x_6 g_2/\iK x_5/\jM x_3/\fE x_3/\BP s_3 y_5 x_6.n x) (∃s_3:iG,iO s_3 g_1/\True/\True/\iK x_5/\jM x_3/\fE x_3/\BO s_3 s_2 x))/\True)/\(∀s_2:iG,iO s_2 g_1->cP (BEq.beq s_2.x.f.code (6:Int)) (kG x) (cP (bne (x_5.a.l.n:Int) ((g.n:Int)-(s_1.o:Int))) (kG x) (cP (bne s_2.x.f.code (0:Int)) (Za s_2 x_5 x) (cP (@BEq.beq Bool (@instBEqOfDecidableEq Bool @instDecidableEqBool) s_2.x.f.found (decide ((g.n:Int)-(s_1.o:Int)>(0:Int)))) (cP (BEq.beq ((g.n:Int)-(s_1.o:Int)) (0:Int)) (yC g.n s_1.o s_2.a x) (Eb x_5.a.l.n/\0<x_5.a.l.n/\cP (BEq.beq (ByteArray.toList s_2.x.f.ans) (ByteArray.toList (dN.value (x_5.b 0)))) (yC g.n s_1.o s_2.a x) (yD x))) (yD x)))))/\True))/\True))/\True)
theorem aiU(x:GU):acO x=wpF Tryz.prog axV tt (axU x) 200 6 5 [.slR 0 0 1 x.m,i64 x.turns] (hO 1 x.os) (fun v h'=>endP 1 (boo true) x.os v h'):=by kernel_rfl
def Px:Prop:=Value.slice none 0 0=Value.slice none 0 0
def UM(x:dF):Prop:=
 ∃y:Unit,True/\0=0/\(0=0/\0=0/\0=0/\0=0/\0=0/\0=0/\0=0/\0=0/\x.id=x.id/\x.ver=x.ver/\Px/\True)/\(0=0/\(1:Int)=1/\(0:Int)=0/\(0:Int)=0/\True)/\bK x.d.os=bK x.d.os/\bK x.p.os=bK x.p.os/\bK x.r.os=bK x.r.os/\bK (x.c.os 0)=bK (x.c.os 0)/\bK x.b.os=bK x.b.os/\bK lT=bK lT/\(Px/\Px/\Px/\Px/\True)/\bK x.l.os=bK x.l.os/\True
theorem acP(x:dF):UM x=wpF Tryz.prog [] tt (noA x) 200 6 20 ((rM dF.osN 10 9).args x) (hO 10 (dO 1 ((rM dF.osN 10 9).l x))) (fun v h'=>dA 1 x v h' (rM dF.osN 10 9).outs):=by kernel_rfl
theorem UN(a:dF):UM a:=by
 unfold UM
 simp only[Px]
 simp only[aY,aU,aT,ay,aH,bP,bC,aN,aJ,au,aW,aV,bQ,bF,bG,bH,bT,bf,bJ,aZ,dZ,aG,aK,ah,aj,aA,aC,aB,aF]
theorem aoV:bZ Tryz.prog 20 (rM dF.osN 10 9).ctr:=dK dB mixed .nil 10 noA 200 6 (fun _=>⟨rfl,rfl,rfl,rfl⟩) fun x _=>Eq.mp (acP x) (UN x)
section
variable{n M:Nat}{a:dF}{X:Nat->ZTh}{o:Nat}{B:Nat->dN}{LN:Nat->Nat}
end
end Go.Proofs.YtenfleoejgjklaaGreat
end
