import Derived.Test.YtenfleoejgjklaaGreatOa
import Derived.Test.YtenfleoejgjklaaGreatOb
import Derived.Test.YtenfleoejgjklaaGreatOc
import Derived.Test.YtenfleoejgjklaaGreatOd
import Derived.Test.YtenfleoejgjklaaGreatOe
import Derived.Test.YtenfleoejgjklaaGreatOf
import Derived.KernelRfl
import Derived.Shelf.SlIter.Nil
import Derived.Ground.GgzProg
import Derived.Shelf.SortM.Plain
import Derived.Shelf.SortM.SortNone
import Derived.Ground.SlgmProg
import Derived.Sort.Walk0
import Derived.Shelf.SlSortCmp.WholeK
import Derived.Shelf.Small.Strs
import Derived.Ground.SlsfProg
import Derived.Ground.NamesProg
set_option linter.unusedVariables false
set_option linter.unusedSimpArgs false
set_option linter.unnecessarySimpa false
section
namespace Go.Proofs.YtenfleoejgjklaaGreat
open Go SE
theorem BN:as4:=⟨trivial,trivial,trivial,trivial,trivial,trivial,trivial,trivial,trivial⟩
theorem kM{t:iZ}:WY t t:=⟨BN,rfl,rfl,rfl,rfl,rfl,rfl,rfl,rfl,trivial⟩
theorem rX(t:iZ)(b k:Nat)(m:ZMs):(wV t b m k).ms=(bif Nat.beq b k then m.ms else(t k).ms):=by
 unfold wV;rw[dB];by_cases h:k=b
 ·subst h;simp
 ·rw[if_neg h,decide_eq_false (λe=>h e.symm)];rfl
theorem FI{t:iZ}{b:Nat}{m:ZMs}{M:MS}(h:M=m.ms):H8 (wV t b m) t b M:=by
 subst h;exact⟨BN,rX ..,rX ..,rX ..,rX ..,rX ..,rX ..,rX ..,rX ..,trivial⟩
theorem kN{l:ZLnk}:WZ l l:=⟨rfl,rfl,rfl,rfl,rfl,trivial⟩
theorem adM{b:Nat}(hb:b<8)(x:ZTkB)(hs:x.s.size<1099511627776)(e:bkt x.s=b):auC b x:=
 ⟨x.s,aZ.2 ⟨hs,e⟩,⟨rfl,trivial⟩,trivial,λ_ _=>⟨trivial,⟨by omega,by omega⟩,(),trivial,trivial,kM⟩⟩
theorem adN{b:Nat}(x:ZTq×iZ)(h:lV x.1.L x.2)(hs:x.1.s.size<1099511627776)(e:bkt x.1.s=b):auD b x:=
 ⟨⟨x.2,x.1.s⟩,aZ.2 ⟨hs,e⟩,⟨rfl,rfl,trivial⟩,kM,λ_ _=>⟨λj hj hk=> .inr ⟨((x.2 b).lk j,x.2),⟨aZ.2 (h.found e hj hk),aZ.2 h⟩,⟨kN,rfl,trivial⟩,kM⟩,λhn=> .inl ⟨((),x.2),⟨aZ.2 (h.none e λj hj hk=>hn j hj hk),aZ.2 h⟩,⟨kN,rfl,trivial⟩,kM⟩⟩⟩
theorem W9{b:Nat}(x:ZTq×iZ)(h:lV x.1.L x.2)(hs:x.1.s.size<1099511627776)(e:bkt x.1.s=b):apu b x:=
 ⟨⟨x.2,x.1.s⟩,aZ.2 ⟨hs,e⟩,⟨rfl,rfl,trivial⟩,kM,λ_ _=>⟨λj hj hk=>⟨λi hi hk'=> .inr ⟨((x.2 b).lk j,wV x.2 b ((x.2 b).del i)),⟨aZ.2 (h.found e hj hk),aZ.2 (h.del e hi hk')⟩,⟨kN,rfl,trivial⟩,FI (aup _ _)⟩,λhn=>(hn j hj hk).elim⟩,
  λhn=>⟨λi hi hk=>(hn i hi hk).elim,λ_=> .inl ⟨((),x.2),⟨aZ.2 (h.none e λj hj hk=>hn j hj hk),aZ.2 h⟩,⟨kN,rfl,trivial⟩,kM⟩⟩⟩⟩
theorem adO{b:Nat}(x:H7×iZ)(h:lV x.1.L x.2)(hs:x.1.l.key.size<1099511627776)(hl:(jy x.1.L x.1.l).length<=258)(e:bkt x.1.l.key=b):auE b x:=
 ⟨⟨x.2,x.1.l.key⟩,aZ.2 ⟨hs,e⟩,⟨rfl,rfl,trivial⟩,kM,λ_ _=>⟨λj hj hk=>⟨λi hi hk'=>⟨((),wV x.2 b ((x.2 b).put i x.1.l)),⟨trivial,aZ.2 (h.put e hi hk' hl hs)⟩,by rw[h.found e hj hk];rfl,FI (aun _ _ _)⟩,λhn=>(hn j hj hk).elim⟩,
  λhn=>⟨λi hi hk=>(hn i hi hk).elim,λ_=>⟨((),wV x.2 b ((x.2 b).add x.1.l)),⟨trivial,aZ.2 (h.add e (λj hj hk=>hn j hj hk) hl hs)⟩,by rw[h.none e λj hj hk=>hn j hj hk];rfl,FI (auo _ _)⟩⟩⟩⟩
theorem auH{b:Nat}(hb:b<8):bY Tryz.prog 277 (ofC b):=dL dD mixed (tbl:=auA b) (.cons (bM (adJ b)) .nil) noA 200 5 (λ_=>rfl) (λ_=>rfl) λx hx=>Eq.mp (anq b hb x) (adM hb x (aZ.1 hx).1 (aZ.1 hx).2)
def byB(f:FuncId):WTr:=λargs h K=> ∃b,b<8/\wpF Tryz.prog (aiX b) tt (noA ()) 200 5 f args h K
theorem ai7{f:FuncId}(args:List AV)(h:Heap)(K:AV->Heap->Prop)(hq:byB f args h K):Sp Tryz.prog f args h K:=by
 obtain⟨b,hb,hq⟩:=hq;exact vF dD mixed (tbl:=aiX b) (.cons (bM (auH hb)) .nil) (noA ()) 200 5 f args h K hq
theorem Xa:bY Tryz.prog 245 as3.C:=FB ⟨Tryz.f245,by kernel_rfl,by kernel_rfl,by kernel_rfl⟩ (List.forall_mem_cons.2 ⟨λ_ _=>rfl,List.forall_mem_cons.2 ⟨λ_ _=>rfl,λ_ h=>(List.not_mem_nil h).elim⟩⟩) (jw (T:=byB 245) ai7 9 (λ_=>⟨rfl,rfl,rfl,rfl⟩) λx hx=>⟨bkt x.1.s,qQ _,Eq.mp (anr _ (qQ _) x) (adN x (aZ.1 hx.2) (aZ.1 hx.1) rfl)⟩)
theorem anB:bY Tryz.prog 252 anp.C:=FB ⟨Tryz.f252,by kernel_rfl,by kernel_rfl,by kernel_rfl⟩ (List.forall_mem_cons.2 ⟨λ_ _=>rfl,List.forall_mem_cons.2 ⟨λ_ _=>rfl,λ_ h=>(List.not_mem_nil h).elim⟩⟩) (jw (T:=byB 252) ai7 9 (λ_=>⟨rfl,rfl,rfl,rfl⟩) λx hx=>⟨bkt x.1.s,qQ _,Eq.mp (aiY _ (qQ _) x) (W9 x (aZ.1 hx.2) (aZ.1 hx.1) rfl)⟩)
theorem ar8:bY Tryz.prog 250 auB.C:=FB ⟨Tryz.f250,by kernel_rfl,by kernel_rfl,by kernel_rfl⟩ (List.forall_mem_cons.2 ⟨λ_ _=>rfl,λ_ h=>(List.not_mem_nil h).elim⟩) (jw (T:=byB 250) ai7 9 (λ_=>⟨rfl,rfl,rfl,rfl⟩) λx hx=>⟨bkt x.1.l.key,qQ _,Eq.mp (ant _ (qQ _) x) (adO x (aZ.1 hx.2) (aZ.1 hx.1).1 (aZ.1 hx.1).2 rfl)⟩)
theorem ai8(b:Nat):bY Tryz.prog 279 (aps b):=jP λs hs=>by
 obtain⟨h1,h2⟩:=aZ.1 hs;refine⟨_,anl,rfl,s,aZ.2 h1,rfl,rfl,λv h' hh=> ?_⟩;have key:v=i64 b/\h'=hO 0 []:=by
  have hh:(∃y:Unit,Hd (lvl s=1)/\v=i64 1/\h'=hO 0 [])\/(∃y:Unit,Hd (lvl s=2)/\v=i64 2/\h'=hO 0 [])\/(∃y:Unit,Hd (lvl s=3)/\v=i64 3/\h'=hO 0 [])\/(∃y:Unit,Hd (lvl s=4)/\v=i64 4/\h'=hO 0 [])\/False:=by
   with_unfolding_all exact hh
  rcases hh with ⟨_,e,e2,e3⟩|⟨_,e,e2,e3⟩|⟨_,e,e2,e3⟩|⟨_,e,e2,e3⟩|hh
  ·rw[<-h2,aZ.1 e];exact⟨e2,e3⟩
  ·rw[<-h2,aZ.1 e];exact⟨e2,e3⟩
  ·rw[<-h2,aZ.1 e];exact⟨e2,e3⟩
  ·rw[<-h2,aZ.1 e];exact⟨e2,e3⟩
  ·exact hh.elim
 exact Eq.mpr (dU (X:=ByteArray) s v h' _ _) (.inl ⟨(),trivial,key.1,key.2⟩)
theorem abf(b:Nat):dY Tryz.prog (ar2 b):= .cons (bM (ai8 b)) (.cons (bM auu) (.cons (bM arZ) (.cons (bM ar1) .nil)))
theorem ai9{b:Nat}(h1:1<=b)(h4:b<=4):bY Tryz.prog 251 (abb b).ctr:=cO dD mixed (abf b) 5 noA 200 6 (λ_=>⟨rfl,rfl,rfl,rfl⟩) λx hx=>Eq.mp (anw b h1 h4 x) (adK h1 h4 (aZ.1 hx).2.2 (aZ.1 hx).1 (aZ.1 hx).2.1)
noncomputable def setO:ar7:={X:=H7,args:=λx=>[.ptr 0 0,x.l.av],L:=λx=>x.L,pre:=λx=>Hd (x.l.key.size<1099511627776/\(jy x.L x.l).length<=300),outs:=[
 {Y:=Unit,post:=λ_ _=>True,ret:=λx _=>boo (gI x.L x.l.key).isSome,L:=λx _=>jy x.L x.l,m:=1,ex:=λ_ _=>[]}]}
theorem Jq.set{L:Lks}{o y:ZOd}(h:Jq L o){l:ZLnk}(hl:(jy L l).length<=300)(hy: ∀k,k<4->(y.V k=if k<lvl l.key then jy (o.V k) l else o.V k)/\(y.z k=true->y.V k=[])):Jq (jy L l) y:=
 ⟨uX h.srt,hl,λk hk=>⟨by rw[(hy k hk).1,ai2 h.srt,(h.lev k hk).1],(hy k hk).2⟩⟩
theorem ar9:bY Tryz.prog 251 setO.C:=ai6 ⟨Tryz.f251,by kernel_rfl,by kernel_rfl,by kernel_rfl⟩ (List.forall_mem_cons.2 ⟨λ_ _=>rfl,λ_ h=>(List.not_mem_nil h).elim⟩) (jP λx hx=>by
 obtain⟨hp,hH⟩:=hx;obtain⟨p1,p2⟩:=aZ.1 hp;have hH:=aZ.1 hH;obtain⟨l1,l4⟩:=apq x.1.l.key;refine⟨_,ai9 l1 l4,rfl,⟨x.2,x.1.l⟩,aZ.2 ⟨p1,rfl,hH.good⟩,rfl,rfl,λv h' hh=> ?_⟩;obtain⟨y,h1,h2,h3⟩:=jh hh;have h1:=aZ.1 h1;refine Eq.mpr (dU (X:=H7×ZOd) x v h' _ _) (.inl ⟨((),y),⟨trivial,aZ.2 (hH.set p2 h1)⟩,h2.trans ?_,h3⟩);show boo (gI (x.2.V (lvl x.1.l.key-1)) x.1.l.key).isSome=boo (gI x.1.L x.1.l.key).isSome;rw[(hH.lev _ (by omega)).1,ai3 (by omega)]
 rfl)
def anC(x:ZOk)(b:Nat)(had:Bool)(P1 P2:Nat->ZOd->Prop):Prop:= ∃y:ZOd,Hd (∀k,k<4->(y.V k=if k<b then fU (x.o.V k) x.s else x.o.V k)/\(y.z k=true->y.V k=[]))/\((List.range b).any λk=>(gI (x.o.V k) x.s).isSome)=had/\(P1 0 y/\P1 1 y/\P1 2 y/\P1 3 y/\True)/\(P2 0 y/\P2 1 y/\P2 2 y/\P2 3 y/\True)
noncomputable def LK(x:ZOk)(b:Nat):Nat->Nat->Bool->(Nat->ZOd->Prop)->(Nat->ZOd->Prop)->Prop
 |0,_,had,P1,P2=>anC x b had P1 P2
 |r+1,k,had,P1,P2=>wKo k/\ ∃q:ZTq,Hd (srt q.L/\q.L.length<1099511627776)/\((0=0/\q.L.length=(x.o.V k).length)/\q.s=x.s/\True)/\((q.L.length=(x.o.V k).length/\ ∀j:Nat,j<q.L.length->(q.L.getD j iT).cs=(nthL (x.o.V k) j).cs)/\True)/\ ∀_:Unit,True->cP (gI q.L q.s).isSome
   (wKo k/\I64 (((uY q.L q.s:Nat):Int)+1)/\ ∃v:ZDz,Hd (v.i<v.L.length/\v.L.length<=300)/\((v.z=x.o.z k/\v.L.length=(x.o.V k).length)/\(v.i:Int)=((uY q.L q.s:Nat):Int)/\(v.i:Int)+1=((uY q.L q.s:Nat):Int)+1/\True)/\((v.z=x.o.z k/\v.L.length=(x.o.V k).length/\ ∀j:Nat,j<v.L.length->(nthL v.L j).cs=(nthL (x.o.V k) j).cs)/\True)/\ ∀_:Unit,True->True/\wKo k/\True/\I64 ((k:Int)+1)/\
    LK x b r (k+1) true (anu P1 k (lvI1 k (v.L.length-1))) (anu P2 k (lvI2 k (v.L.length-1) (Jl (nthL v.L) v.i))))
   (I64 ((k:Int)+1)/\LK x b r (k+1) had P1 P2)
noncomputable def apv(b:Nat)(x:ZOk):Prop:= ∃s:ByteArray,Hd (s.size<1099511627776/\lvl s=b)/\(s=x.s/\True)/\True/\ ∀_:Unit,True->LK x b b 0 false (lvP1 x.o) (lvP2 x.o)
theorem aja: ∀b,1<=b->b<=4-> ∀x,apv b x=wpF Tryz.prog (ar2 b) tt (noA x) 200 6 253 ((LH b).args x) (hO 5 (flatP 1 ((LH b).l x))) (λv h'=>endsPK 1 x v h' (LH b).outs)
 |1,_,_=>λx=>by kernel_rfl
 |2,_,_=>λx=>by kernel_rfl
 |3,_,_=>λx=>by kernel_rfl
 |4,_,_=>λx=>by kernel_rfl
 |0,h,_=>absurd h (by omega)
 |b+5,_,h=>absurd h (by omega)
def FK(x:ZOk)(b:Nat):ZOd:=⟨λk=>bif Nat.blt k b&&(gI (x.o.V k) x.s).isSome then false else x.o.z k,λk=>if k<b then fU (x.o.V k) x.s else x.o.V k⟩
theorem rY{x:ZOk}{b:Nat}(h4:b<=4)(hg:x.o.good): ∀(r k:Nat) (had:Bool) (P1 P2:Nat->ZOd->Prop),k+r=b->((List.range k).any λk=>(gI (x.o.V k) x.s).isSome)=had->
  (∀j,j<k->P1 j (FK x b)/\P2 j (FK x b))->(∀j,k<=j->P1 j=lvP1 x.o j/\P2 j=lvP2 x.o j)->LK x b r k had P1 P2
 |0,k,had,P1,P2,e,hh,hP,hQ=>by
  obtain rfl:k=b:=by omega
  have all: ∀j,P1 j (FK x k)/\P2 j (FK x k):=λj=>by
   by_cases hj:j<k
   ·exact hP j hj
   ·obtain⟨q1,q2⟩:=hQ j (by omega)
    have g1:(FK x k).z j=x.o.z j:=by show(bif Nat.blt j k&&_ then false else x.o.z j)=_;rw[ji hj];rfl
    have g2:(FK x k).V j=x.o.V j:=if_neg hj;rw[q1,q2];exact⟨⟨g1,by rw[g2]⟩,g1,by rw[g2],λq _=>by rw[g2]⟩
  refine⟨FK x k,aZ.2 λj hj=>⟨rfl,λhz=> ?_⟩,hh,⟨(all 0).1,(all 1).1,(all 2).1,(all 3).1,trivial⟩,(all 0).2,(all 1).2,(all 2).2,(all 3).2,trivial⟩;have hz:(bif Nat.blt j k&&(gI (x.o.V j) x.s).isSome then false else x.o.z j)=true:=hz;have hz2:x.o.z j=true:=by
   cases hb:(Nat.blt j k&&(gI (x.o.V j) x.s).isSome)
   ·rw[hb]at hz;exact hz
   ·rw[hb]at hz;cases hz
  have e:=(hg j hj).2.2 hz2;show(if j<k then fU (x.o.V j) x.s else x.o.V j)=[];rw[e];split<;>rfl
 |r+1,k,had,P1,P2,e,hh,hP,hQ=>by
  have hk:k<b:=by omega
  obtain⟨s1,s2,s3⟩:=hg k (by omega);have y2:(FK x b).V k=fU (x.o.V k) x.s:=if_pos hk;obtain⟨q1,q2⟩:=hQ k (aY _);have hany:((List.range (k+1)).any λk=>(gI (x.o.V k) x.s).isSome)=(had||(gI (x.o.V k) x.s).isSome):=by
   rw[List.range_succ,List.any_append,hh];simp
  refine⟨ar4 (by omega),⟨x.o.V k,x.s⟩,aZ.2 ⟨s1,by show(x.o.V k).length<1099511627776;omega⟩,⟨⟨rfl,rfl⟩,rfl,trivial⟩,⟨⟨rfl,λ_ _=>rfl⟩,trivial⟩,λ_ _=>bf (λhf=> ?_) λhf=> ?_⟩
  ·obtain⟨f1,f2,f3⟩:=FD s1 hf
   have f1:uY (x.o.V k) x.s<(x.o.V k).length:=f1;have y1:(FK x b).z k=false:=by
    show(bif Nat.blt k b&&(gI (x.o.V k) x.s).isSome then false else x.o.z k)=false;rw[bg.2 hk,show(gI (x.o.V k) x.s).isSome=true from hf];rfl
   refine⟨ar4 (by omega),by show I64 (((uY (x.o.V k) x.s:Nat):Int)+1);unfold I64;omega,⟨x.o.z k,x.o.V k,uY (x.o.V k) x.s⟩,aZ.2 ⟨f1,s2⟩,⟨⟨rfl,rfl⟩,rfl,rfl,trivial⟩,⟨⟨rfl,rfl,λ_ _=>rfl⟩,trivial⟩,λ_ _=>⟨trivial,ar4 (by omega),trivial,by unfold I64;omega,rY h4 hg r (k+1) _ _ _ (by omega) (by rw[hany,show(gI (x.o.V k) x.s).isSome=true from hf];simp) (λj hj=> ?_) λj hj=> ?_⟩⟩
   ·by_cases hjk:j=k
    ·subst hjk
     rw[FH,FH];refine⟨⟨y1,by rw[y2];exact f2⟩,y1,by rw[y2];exact f2,λq hq=> ?_⟩;rw[y2,f3 q]
    ·rw[oU hjk,oU hjk];exact hP j (by omega)
   ·rw[oU (by omega),oU (by omega)];exact hQ j (by omega)
  ·have y1:(FK x b).z k=x.o.z k:=by
    show(bif Nat.blt k b&&(gI (x.o.V k) x.s).isSome then false else x.o.z k)=x.o.z k;rw[show(gI (x.o.V k) x.s).isSome=false from hf,Bool.and_false];rfl
   have y3:(FK x b).V k=x.o.V k:=y2.trans (zW hf);refine⟨by unfold I64;omega,rY h4 hg r (k+1) _ _ _ (by omega) (by rw[hany,show(gI (x.o.V k) x.s).isSome=false from hf];simp) (λj hj=> ?_) λj hj=>hQ j (by omega)⟩;by_cases hjk:j=k
   ·subst hjk
    rw[q1,q2];exact⟨⟨y1,by rw[y3]⟩,y1,by rw[y3],λq _=>by rw[y3]⟩
   ·exact hP j (by omega)
theorem Xb{x:ZOk}{b:Nat}(h4:b<=4)(hg:x.o.good)(hs:x.s.size<1099511627776)(hl:lvl x.s=b):apv b x:=
 ⟨x.s,aZ.2 ⟨hs,hl⟩,⟨rfl,trivial⟩,trivial,λ_ _=>rY h4 hg b 0 false _ _ (by omega) rfl (λj hj=>absurd hj (Nat.not_lt_zero j)) λj _=>⟨rfl,rfl⟩⟩
theorem adP{b:Nat}(h1:1<=b)(h4:b<=4):bY Tryz.prog 253 (LH b).ctr:=cO dD mixed (abf b) 5 noA 200 6 (λ_=>⟨rfl,rfl,rfl,rfl⟩) λx hx=>Eq.mp (aja b h1 h4 x) (Xb h4 (aZ.1 hx).2.2 (aZ.1 hx).1 (aZ.1 hx).2.1)
noncomputable def auI:ar7:={X:=ZTq,args:=λx=>[.ptr 0 0,.lit (.string x.s)],L:=λx=>x.L,pre:=λx=>Hd (x.s.size<1099511627776),outs:=[
 {Y:=Unit,post:=λ_ _=>True,ret:=λx _=>boo (gI x.L x.s).isSome,L:=λx _=>fU x.L x.s,m:=1,ex:=λ_ _=>[]}]}
theorem Jq.drop{L:Lks}{o y:ZOd}(h:Jq L o){s:ByteArray}(hy: ∀k,k<4->(y.V k=if k<lvl s then fU (o.V k) s else o.V k)/\(y.z k=true->y.V k=[])):Jq (fU L s) y:=
 ⟨RZ h.srt,Nat.le_trans (List.length_filter_le _ _) h.size,λk hk=>⟨by rw[(hy k hk).1,anz,(h.lev k hk).1],(hy k hk).2⟩⟩
theorem anD:bY Tryz.prog 253 auI.C:=ai6 ⟨Tryz.f253,by kernel_rfl,by kernel_rfl,by kernel_rfl⟩ (List.forall_mem_cons.2 ⟨λ_ _=>rfl,λ_ h=>(List.not_mem_nil h).elim⟩) (jP λx hx=>by
 obtain⟨hp,hH⟩:=hx;have p1:=aZ.1 hp;have hH:=aZ.1 hH;obtain⟨l1,l4⟩:=apq x.1.s;refine⟨_,adP l1 l4,rfl,⟨x.2,x.1.s⟩,aZ.2 ⟨p1,rfl,hH.good⟩,rfl,rfl,λv h' hh=> ?_⟩;obtain⟨y,h1,h2,h3⟩:=jh hh;have h1:=aZ.1 h1;refine Eq.mpr (dU (X:=ZTq×ZOd) x v h' _ _) (.inl ⟨((),y),⟨trivial,aZ.2 (hH.drop h1)⟩,h2.trans ?_,h3⟩);have lk: ∀k,k<lvl x.1.s->gI (x.2.V k) x.1.s=gI x.1.L x.1.s:=λk hk=>by rw[(hH.lev k (by omega)).1,ai3 hk];rfl
 show boo ((List.range (lvl x.1.s)).any λk=>(gI (x.2.V k) x.1.s).isSome)=boo (gI x.1.L x.1.s).isSome;congr 1;rw[Bool.eq_iff_iff,List.any_eq_true];constructor
 ·rintro ⟨k,hk,h⟩
  rw[lk k (List.mem_range.1 hk)]at h;exact h
 ·intro h
  exact⟨0,List.mem_range.2 (by omega),by rw[lk 0 (by omega)];exact h⟩)
noncomputable section
def anE:jg:={X:=Unit,args:=λ_=>[],k:=0,l:=λ_=>[],pre:=λ_=>True,outs:=[
 {Y:=iZ,post:=λ_ y=>Hd (lV [] y),ret:=λ_ _=> .ptr 0 0,m:=1,l:=λ_ y=>[.m (RY y)]}]}
def anF:jg:={X:=Unit,args:=λ_=>[],k:=0,l:=λ_=>[],pre:=λ_=>True,outs:=[
 {Y:=ZOd,post:=λ_ y=>Hd (Jq [] y),ret:=λ_ _=> .ptr 0 0,m:=1,l:=λ_ y=>[.m (LG y)]}]}
end
def Xc(x:Unit):Prop:=
 ((0:Int)<=0/\(0:Int)<=7)/\I64 (1:Int)/\((0:Int)<=1/\(0:Int)<=6)/\I64 (2:Int)/\((0:Int)<=2/\(0:Int)<=5)/\I64 (3:Int)/\((0:Int)<=3/\(0:Int)<=4)/\I64 (4:Int)/\((0:Int)<=4/\(0:Int)<=3)/\I64 (5:Int)/\((0:Int)<=5/\(0:Int)<=2)/\I64 (6:Int)/\((0:Int)<=6/\(0:Int)<=1)/\I64 (7:Int)/\((0:Int)<=7/\(0:Int)<=0)/\I64 (8:Int)/\ ∃y: ∀a:Nat,ZMs,Hd (lV (@List.nil ZLnk) y)/\0=0/\(True/\True/\True/\True/\True/\True/\True/\True/\True)/\(ZMs.n (y 0)=0/\ZMs.clk (y 0)=0)/\(ZMs.n (y 1)=0/\ZMs.clk (y 1)=0)/\(ZMs.n (y 2)=0/\ZMs.clk (y 2)=0)/\(ZMs.n (y 3)=0/\ZMs.clk (y 3)=0)/\(ZMs.n (y 4)=0/\ZMs.clk (y 4)=0)/\(ZMs.n (y 5)=0/\ZMs.clk (y 5)=0)/\(ZMs.n (y 6)=0/\ZMs.clk (y 6)=0)/\(ZMs.n (y 7)=0/\ZMs.clk (y 7)=0)/\True
theorem adQ(x:Unit):Xc x=wpF Tryz.prog [] tt (noA x) 200 6 85 (anE.args x) (hO 0 (flatP 0 (anE.l x))) (λv h'=>endsPK 0 x v h' anE.outs):=by kernel_rfl
def Xd(x:Unit):Prop:=
 ∃y:ZOd,Hd (@Jq (@List.nil ZLnk) y)/\0=0/\((y.z 0=true/\List.length (y.V 0)=0)/\(y.z 1=true/\List.length (y.V 1)=0)/\(y.z 2=true/\List.length (y.V 2)=0)/\(y.z 3=true/\List.length (y.V 3)=0)/\True)/\(y.z 0=true/\List.length (y.V 0)=0/\ ∀q:Nat,q<List.length (y.V 0)->[Value.string (ZLnk.key (nthL (y.V 0) q)),Value.int .u64 (ZLnk.id (nthL (y.V 0) q)),Value.int .u64 (ZLnk.ver (nthL (y.V 0) q)),Value.int .i64 (ZLnk.line (nthL (y.V 0) q)),Value.int .i64 (ZLnk.cls (nthL (y.V 0) q))]= @List.nil Value)/\(y.z 1=true/\List.length (y.V 1)=0/\ ∀q:Nat,q<List.length (y.V 1)->[Value.string (ZLnk.key (nthL (y.V 1) q)),Value.int .u64 (ZLnk.id (nthL (y.V 1) q)),Value.int .u64 (ZLnk.ver (nthL (y.V 1) q)),Value.int .i64 (ZLnk.line (nthL (y.V 1) q)),Value.int .i64 (ZLnk.cls (nthL (y.V 1) q))]= @List.nil Value)/\(y.z 2=true/\List.length (y.V 2)=0/\ ∀q:Nat,q<List.length (y.V 2)->[Value.string (ZLnk.key (nthL (y.V 2) q)),Value.int .u64 (ZLnk.id (nthL (y.V 2) q)),Value.int .u64 (ZLnk.ver (nthL (y.V 2) q)),Value.int .i64 (ZLnk.line (nthL (y.V 2) q)),Value.int .i64 (ZLnk.cls (nthL (y.V 2) q))]= @List.nil Value)/\(y.z 3=true/\List.length (y.V 3)=0/\ ∀q:Nat,q<List.length (y.V 3)->[Value.string (ZLnk.key (nthL (y.V 3) q)),Value.int .u64 (ZLnk.id (nthL (y.V 3) q)),Value.int .u64 (ZLnk.ver (nthL (y.V 3) q)),Value.int .i64 (ZLnk.line (nthL (y.V 3) q)),Value.int .i64 (ZLnk.cls (nthL (y.V 3) q))]= @List.nil Value)/\True
theorem adR(x:Unit):Xd x=wpF Tryz.prog [] tt (noA x) 200 6 86 (anF.args x) (hO 0 (flatP 0 (anF.l x))) (λv h'=>endsPK 0 x v h' anF.outs):=by kernel_rfl
def apw:iZ:=λ_=>⟨0,λ_=>iT,λ_=>0,0⟩
theorem anG:lV [] apw:=
 ⟨List.Pairwise.nil,by decide,λl h=>absurd h List.not_mem_nil,λ_ _ j hj=>absurd hj (Nat.not_lt_zero j),λl h=>absurd h List.not_mem_nil,λ_ _ i _ hi=>absurd hi (Nat.not_lt_zero i),λ_ _ j hj=>absurd hj (Nat.not_lt_zero j),λ_ _ i _ hi=>absurd hi (Nat.not_lt_zero i)⟩
def ajb:ZOd:=⟨λ_=>true,λ_=>[]⟩
theorem anH:Jq [] ajb:=⟨List.Pairwise.nil,by decide,λ_ _=>⟨rfl,λ_=>rfl⟩⟩
theorem SA(x:Unit):Xc x:=by
 unfold Xc;have i: ∀z:Int,0<=z->z<=100->I64 z:=λz a b=>by unfold I64;omega
 refine⟨by decide,i _ (by decide) (by decide),by decide,i _ (by decide) (by decide),by decide,i _ (by decide) (by decide),by decide,i _ (by decide) (by decide),by decide,i _ (by decide) (by decide),by decide,i _ (by decide) (by decide),by decide,i _ (by decide) (by decide),by decide,i _ (by decide) (by decide),apw,aZ.2 anG,rfl,⟨trivial,trivial,trivial,trivial,trivial,trivial,trivial,trivial,trivial⟩,⟨rfl,rfl⟩,⟨rfl,rfl⟩,⟨rfl,rfl⟩,⟨rfl,rfl⟩,⟨rfl,rfl⟩,⟨rfl,rfl⟩,⟨rfl,rfl⟩,⟨rfl,rfl⟩,trivial⟩
theorem SB(x:Unit):Xd x:=by
 unfold Xd;have z: ∀q:Nat,q<List.length (ajb.V 0)->False:=λq hq=>Nat.not_lt_zero q hq
 refine⟨ajb,aZ.2 anH,rfl,⟨⟨rfl,rfl⟩,⟨rfl,rfl⟩,⟨rfl,rfl⟩,⟨rfl,rfl⟩,trivial⟩,⟨rfl,rfl,λq hq=>(z q hq).elim⟩,⟨rfl,rfl,λq hq=>(z q hq).elim⟩,⟨rfl,rfl,λq hq=>(z q hq).elim⟩,⟨rfl,rfl,λq hq=>(z q hq).elim⟩,trivial⟩
theorem anI:bY Tryz.prog 85 anE.ctr:=cO dD mixed .nil 0 noA 200 6 (λ_=>⟨rfl,rfl,rfl,rfl⟩) λx _=>Eq.mp (adQ x) (SA x)
theorem anJ:bY Tryz.prog 86 anF.ctr:=cO dD mixed .nil 0 noA 200 6 (λ_=>⟨rfl,rfl,rfl,rfl⟩) λx _=>Eq.mp (adR x) (SB x)
noncomputable def newT:Ctr:=det Unit (λ_=>[]) 0 (λ_=>[]) (λ_=>True) (λ_=> .ptr 0 0) 1 (λ_=>[.abs (tabA [])])
noncomputable def newO:Ctr:=det Unit (λ_=>[]) 0 (λ_=>[]) (λ_=>True) (λ_=> .ptr 0 0) 1 (λ_=>[.abs (ordA [])])
theorem asa:bY Tryz.prog 85 newT:=λx _=>⟨rfl,by
 refine Bl (((anI () trivial).2).mono λv h' hh=> ?_);have hh:(∃y:iZ,Hd (lV [] y)/\v= .ptr 0 0/\h'=hO 1 [.abs (ownM (RY y))])\/False:=by with_unfolding_all exact hh
 rcases hh with ⟨y,h1,rfl,rfl⟩|hh
 ·refine⟨.ptr 0 0,hO 1 [.abs (tabA [])],?_,by with_unfolding_all exact Or.inl ⟨(),trivial,rfl,rfl⟩⟩
  refine uQ (m:=1) rfl rfl (Nat.zero_le _) λi o o' hi hi'=> ?_
  match i,hi,hi' with
  |0,hi,hi'=>cases hi;cases hi';exactλ_ _ _ _ _ h=>aa9 (aZ.1 h1) h
 ·exact hh.elim⟩
theorem asb:bY Tryz.prog 86 newO:=λx _=>⟨rfl,by
 refine Bl (((anJ () trivial).2).mono λv h' hh=> ?_);have hh:(∃y:ZOd,Hd (Jq [] y)/\v= .ptr 0 0/\h'=hO 1 [.abs (ownM (LG y))])\/False:=by with_unfolding_all exact hh
 rcases hh with ⟨y,h1,rfl,rfl⟩|hh
 ·refine⟨.ptr 0 0,hO 1 [.abs (ordA [])],?_,by with_unfolding_all exact Or.inl ⟨(),trivial,rfl,rfl⟩⟩
  refine uQ (m:=1) rfl rfl (Nat.zero_le _) λi o o' hi hi'=> ?_
  match i,hi,hi' with
  |0,hi,hi'=>cases hi;cases hi';exactλ_ _ _ _ _ h=>abe (aZ.1 h1) h
 ·exact hh.elim⟩
noncomputable def bkL(L:Lks)(b:Nat):Lks:=L.filter λl=>decide (bkt l.key=b)
theorem SC{L:Lks}(h:srt L):L.Nodup:=h.imp λ{a b} hk e=>by rw[e,oD]at hk;cases hk
theorem lV.perm{L:Lks}{t:iZ}(h:lV L t){b:Nat}(hb:b<8):((List.range (t b).n).map (t b).lk).Perm (bkL L b):=by
 refine(List.perm_ext_iff_of_nodup ?_ ((SC h.srt).filter _)).2 λx=> ?_
 ·refine List.pairwise_map.2 (List.nodup_range.imp_of_mem λ{i j} hi hj hne e=>hne ?_)
  exact h.inj b hb i j (List.mem_range.1 hi) (List.mem_range.1 hj) (by rw[e])
 ·rw[List.mem_map,List.mem_filter,decide_eq_true_iff]
  constructor
  ·rintro ⟨j,hj,rfl⟩
   exact h.mem b hb j (List.mem_range.1 hj)
  ·rintro ⟨hx,hxb⟩
   obtain⟨j,h1,h2⟩:=h.all x hx;rw[hxb]at h1 h2;exact⟨j,List.mem_range.2 h1,h2⟩
theorem lV.n{L:Lks}{t:iZ}(h:lV L t){b:Nat}(hb:b<8):(t b).n=(bkL L b).length:=by
 have:=(h.perm hb).length_eq;rw[List.length_map,List.length_range]at this;exact this
structure ZLq where
 L:Lks
def w8(k:Nat):Prop:=(0:Int)<=(k:Int)/\(0:Int)<=(7:Int)-(k:Int)
end Go.Proofs.YtenfleoejgjklaaGreat
end
section
namespace Go.Proofs.YtenfleoejgjklaaGreat
open Go.RowKit Go.Maps Go.Sort Go.Shelf
def Tryz.keysA_ren:Go.Shelf.Ren:=⟨λ|7=>231|10=>266|n=>n,λ|23=>169|26=>9|3=>41|28=>342|0=>0|27=>341|33=>359|4=>4|n=>n,λ|n=>n⟩
theorem Tryz.keysA:Go.Proofs.SlLaysZ.n7 Tryz.prog Tryz.keysA_ren:={
 mixed:=by kernel_rfl
 f7:=⟨Tryz.f231.name,by decide,Tryz.func231.trans (congrArg some (by kernel_rfl))⟩
 f10:=⟨Tryz.f266.name,by decide,Tryz.func266.trans (congrArg some (by kernel_rfl))⟩
 t0:=Tryz.underlying0
 a0:=Tryz.isAgg0
 z0:=Tryz.sizeOf0
 v0:=Tryz.zeroValue0
 t4:=Tryz.underlying4
 a4:=Tryz.isAgg4
 z4:=Tryz.sizeOf4
 v4:=Tryz.zeroValue4
 t23:=Tryz.underlying169
 a23:=Tryz.isAgg169
 z23:=Tryz.sizeOf169
 v23:=Tryz.zeroValue169
 t26:=Tryz.underlying9
 a26:=Tryz.isAgg9
 z26:=Tryz.sizeOf9
 v26:=Tryz.zeroValue9
 t27:=Tryz.underlying341
 a27:=Tryz.isAgg341
 z27:=Tryz.sizeOf341
 v27:=Tryz.zeroValue341
 t28:=Tryz.underlying342
 a28:=Tryz.isAgg342
 z28:=Tryz.sizeOf342
 v28:=Tryz.zeroValue342
 t33:=Tryz.underlying359
 a33:=Tryz.isAgg359
 z33:=Tryz.sizeOf359
 v33:=Tryz.zeroValue359}
def Tryz.sortedA_ren:Go.Shelf.Ren:=⟨λ|6=>230|8=>264|9=>265|11=>287|13=>175|12=>288|23=>225|24=>226|14=>302|15=>303|16=>304|17=>305|18=>306|19=>307|20=>308|21=>309|22=>310|25=>312|26=>259|27=>260|28=>313|29=>314|30=>315|31=>317|n=>n,λ|26=>9|28=>342|24=>65|0=>0|3=>3|37=>114|48=>135|50=>31|4=>4|40=>330|39=>329|45=>334|5=>5|9=>9|51=>362|55=>365|57=>380|58=>381|33=>359|n=>n,λ|n=>n⟩
theorem Tryz.sortedA:Go.Proofs.SlLaysZ.n6 Tryz.prog Tryz.sortedA_ren:={
 mixed:=by kernel_rfl
 f6:=⟨Tryz.f230.name,by decide,Tryz.func230.trans (congrArg some (by kernel_rfl))⟩
 f8:=⟨Tryz.f264.name,by decide,Tryz.func264.trans (congrArg some (by kernel_rfl))⟩
 f11:=⟨Tryz.f287.name,by decide,Tryz.func287.trans (congrArg some (by kernel_rfl))⟩
 t0:=Tryz.underlying0
 a0:=Tryz.isAgg0
 z0:=Tryz.sizeOf0
 v0:=Tryz.zeroValue0
 t24:=Tryz.underlying65
 a24:=Tryz.isAgg65
 z24:=Tryz.sizeOf65
 v24:=Tryz.zeroValue65
 t26:=Tryz.underlying9
 a26:=Tryz.isAgg9
 z26:=Tryz.sizeOf9
 v26:=Tryz.zeroValue9
 t28:=Tryz.underlying342
 a28:=Tryz.isAgg342
 z28:=Tryz.sizeOf342
 v28:=Tryz.zeroValue342
 i26:=by kernel_rfl}
end Go.Proofs.YtenfleoejgjklaaGreat
end
section
namespace Go.Proofs.YtenfleoejgjklaaGreat
open Go Go.RowKit Go.Maps Go.Sort Go.Shelf
def Tryz.sortA_ren:Go.Shelf.Ren:=⟨λ|6=>265|8=>175|9=>288|19=>225|20=>226|21=>302|22=>303|23=>304|24=>305|25=>306|26=>307|27=>308|28=>309|29=>310|36=>312|31=>259|32=>260|37=>313|38=>314|39=>315|41=>317|n=>n,λ|27=>65|29=>9|3=>3|32=>114|26=>65|0=>0|44=>135|46=>31|4=>4|36=>330|35=>329|41=>334|5=>5|9=>9|53=>362|57=>365|63=>380|64=>381|n=>n,λ|n=>n⟩
theorem Tryz.sortA:Go.Proofs.SlLaysM.n6 Tryz.prog Tryz.sortA_ren:={
 mixed:=by kernel_rfl
 f6:=⟨Tryz.f265.name,by decide,Tryz.func265.trans (congrArg some (by kernel_rfl))⟩
 f8:=Tryz.func175.trans (congrArg some (by kernel_rfl))
 f9:=⟨Tryz.f288.name,by decide,Tryz.func288.trans (congrArg some (by kernel_rfl))⟩
 f19:=Tryz.func225.trans (congrArg some (by kernel_rfl))
 f20:=Tryz.func226.trans (congrArg some (by kernel_rfl))
 f21:=⟨Tryz.f302.name,by decide,Tryz.func302.trans (congrArg some (by kernel_rfl))⟩
 f22:=⟨Tryz.f303.name,by decide,Tryz.func303.trans (congrArg some (by kernel_rfl))⟩
 f23:=⟨Tryz.f304.name,by decide,Tryz.func304.trans (congrArg some (by kernel_rfl))⟩
 f24:=⟨Tryz.f305.name,by decide,Tryz.func305.trans (congrArg some (by kernel_rfl))⟩
 f25:=⟨Tryz.f306.name,by decide,Tryz.func306.trans (congrArg some (by kernel_rfl))⟩
 f26:=⟨Tryz.f307.name,by decide,Tryz.func307.trans (congrArg some (by kernel_rfl))⟩
 f27:=⟨Tryz.f308.name,by decide,Tryz.func308.trans (congrArg some (by kernel_rfl))⟩
 f28:=⟨Tryz.f309.name,by decide,Tryz.func309.trans (congrArg some (by kernel_rfl))⟩
 f29:=⟨Tryz.f310.name,by decide,Tryz.func310.trans (congrArg some (by kernel_rfl))⟩
 f31:=Tryz.func259.trans (congrArg some (by kernel_rfl))
 f32:=Tryz.func260.trans (congrArg some (by kernel_rfl))
 f36:=⟨Tryz.f312.name,by decide,Tryz.func312.trans (congrArg some (by kernel_rfl))⟩
 f37:=⟨Tryz.f313.name,by decide,Tryz.func313.trans (congrArg some (by kernel_rfl))⟩
 f38:=⟨Tryz.f314.name,by decide,Tryz.func314.trans (congrArg some (by kernel_rfl))⟩
 f39:=⟨Tryz.f315.name,by decide,Tryz.func315.trans (congrArg some (by kernel_rfl))⟩
 f41:=⟨Tryz.f317.name,by decide,Tryz.func317.trans (congrArg some (by kernel_rfl))⟩
 t0:=Tryz.underlying0
 a0:=Tryz.isAgg0
 z0:=Tryz.sizeOf0
 v0:=Tryz.zeroValue0
 t3:=Tryz.underlying3
 a3:=Tryz.isAgg3
 z3:=Tryz.sizeOf3
 v3:=Tryz.zeroValue3
 t4:=Tryz.underlying4
 a4:=Tryz.isAgg4
 z4:=Tryz.sizeOf4
 v4:=Tryz.zeroValue4
 t5:=Tryz.underlying5
 a5:=Tryz.isAgg5
 z5:=Tryz.sizeOf5
 v5:=Tryz.zeroValue5
 t9:=Tryz.underlying9
 a9:=Tryz.isAgg9
 z9:=Tryz.sizeOf9
 v9:=Tryz.zeroValue9
 t26:=Tryz.underlying65
 a26:=Tryz.isAgg65
 z26:=Tryz.sizeOf65
 v26:=Tryz.zeroValue65
 t27:=Tryz.underlying65
 a27:=Tryz.isAgg65
 z27:=Tryz.sizeOf65
 v27:=Tryz.zeroValue65
 t29:=Tryz.underlying9
 a29:=Tryz.isAgg9
 z29:=Tryz.sizeOf9
 v29:=Tryz.zeroValue9
 t32:=Tryz.underlying114
 a32:=Tryz.isAgg114
 z32:=Tryz.sizeOf114
 v32:=Tryz.zeroValue114
 t35:=Tryz.underlying329
 a35:=Tryz.isAgg329
 z35:=Tryz.sizeOf329
 v35:=Tryz.zeroValue329
 t36:=Tryz.underlying330
 a36:=Tryz.isAgg330
 z36:=Tryz.sizeOf330
 v36:=Tryz.zeroValue330
 t41:=Tryz.underlying334
 a41:=Tryz.isAgg334
 z41:=Tryz.sizeOf334
 v41:=Tryz.zeroValue334
 t44:=Tryz.underlying135
 a44:=Tryz.isAgg135
 z44:=Tryz.sizeOf135
 v44:=Tryz.zeroValue135
 t46:=Tryz.underlying31
 a46:=Tryz.isAgg31
 z46:=Tryz.sizeOf31
 v46:=Tryz.zeroValue31
 t53:=Tryz.underlying362
 a53:=Tryz.isAgg362
 z53:=Tryz.sizeOf362
 v53:=Tryz.zeroValue362
 t57:=Tryz.underlying365
 a57:=Tryz.isAgg365
 z57:=Tryz.sizeOf365
 v57:=Tryz.zeroValue365
 t63:=Tryz.underlying380
 a63:=Tryz.isAgg380
 z63:=Tryz.sizeOf380
 v63:=Tryz.zeroValue380
 t64:=Tryz.underlying381
 a64:=Tryz.isAgg381
 z64:=Tryz.sizeOf381
 v64:=Tryz.zeroValue381}
theorem sortsA(m:Nat):AnyZ.SortsIn Tryz.prog Tryz.sortedA_ren Fence.wide m:=
 ⟨λblk off cap ss W hH hblk hsz=>callsIn_wide.2 (AnyM.slices_Sort_string Tryz.sortA blk off cap ss W hH hblk hsz),
  λp cap W=>callsIn_wide.2 (AnyM.slices_Sort_string_none Tryz.sortA p cap W)⟩
end Go.Proofs.YtenfleoejgjklaaGreat
end
section
namespace Go.Proofs.YtenfleoejgjklaaGreat.SE
open Go
theorem abg{h:Heap}{ρ:Ren}{T:Nat->Prop}{w w':World}(hR:Rel h ρ T w)(hb:Go.RowKit.Below w.heap.size w w'){a:Loc}{S0:Nat->Prop}(hg: ∀b,S0 b->w.heap.size<=b/\b<w'.heap.size){o:dA}
  (ho: ∀ρ',dG ρ' w' T a S0 o): ∃ρ',ρ.le ρ'/\ρ' h.next=some a/\(∀i,i<h.next->ρ' i=ρ i)/\Rel (h.push o) ρ' T w'/\Keeps T w w':=by
 obtain⟨S,h1,h2,h3,h4,h5⟩:=hR;let ρ':Ren:=λi=>if i=h.next then some a else ρ i
 have hle:ρ.le ρ':=λi x hx=>by
  by_cases hi:i=h.next
  ·subst hi;rw[h4 _ (aY _)]at hx;cases hx
  ·simp only[ρ',if_neg hi];exact hx
 have hkeep:Keeps T w w':=⟨hb.size,hb.os,hb.tape,hb.output,λb hbT=>hb.block b (by
  rcases Nat.lt_or_ge b w.heap.size with h'|h'
  ·exact h'
  ·exact(hbT (h5 b h')).elim)⟩
 refine⟨ρ',hle,by simp[ρ'],λi hi=>by simp[ρ',Nat.ne_of_lt hi],⟨λi b=>if i=h.next then S0 b else S i b,λi o' hi=> ?_,λi j o1 o2 b hi hj hij hSi hSj=> ?_,λi o' b hi hS=> ?_,λi hi=> ?_,λb hb'=>h5 b (Nat.le_trans hb.size hb')⟩,hkeep⟩
 ·rw[Heap.fE]at hi
  by_cases hin:i=h.next
  ·subst hin
   simp only[if_pos]at hi;cases hi;exact⟨a,by simp[ρ'],by simpa using ho ρ'⟩
  ·simp only[if_neg hin]at hi ⊢
   obtain⟨x,hx,hh⟩:=h1 i o' hi;refine⟨x,hle _ _ hx,dG.mono hle (hh.stays λb hbS=>hb.block b ?_)⟩;rcases hbS with hbS|hbS
   ·exact(h3 i o' b hi hbS).2
   ·rcases Nat.lt_or_ge b w.heap.size with h'|h'
    ·exact h'
    ·exact(hbS (h5 b h')).elim
 ·rw[Heap.fE]at hi hj
  by_cases hi':i=h.next<;>by_cases hj':j=h.next
  ·exact hij (hi'.trans hj'.symm)
  ·simp only[if_pos hi',if_neg hj']at hSi hSj hj
   have:=(h3 j o2 b hj hSj).2;have:=hg b hSi;omega
  ·simp only[if_neg hi',if_pos hj']at hSi hSj hi
   have:=(h3 i o1 b hi hSi).2;have:=hg b hSj;omega
  ·simp only[if_neg hi',if_neg hj']at hSi hSj hi hj
   exact h2 i j o1 o2 b hi hj hij hSi hSj
 ·rw[Heap.fE]at hi
  by_cases hin:i=h.next
  ·simp only[if_pos hin]at hS
   exact⟨h5 _ (hg b hS).1,(hg b hS).2⟩
  ·simp only[if_neg hin]at hi hS
   obtain⟨g1,g2⟩:=h3 i o' b hi hS;exact⟨g1,Nat.lt_of_lt_of_le g2 hb.size⟩
 ·have hn:(h.push o).next=h.next+1:=by simp
  rw[hn]at hi;simp only[ρ',if_neg (by omega: ¬i=h.next)];exact h4 i (by omega)
end Go.Proofs.YtenfleoejgjklaaGreat.SE
end
section
namespace Go.Proofs.YtenfleoejgjklaaGreat
open Go SE
structure ZMs.good (m:ZMs):Prop where
 size:m.n<=258
 key: ∀j,j<m.n->(m.lk j).key.size<1099511627776
 inj: ∀i j,i<m.n->j<m.n->(m.lk i).key=(m.lk j).key->i=j
 born: ∀j,j<m.n->m.born j<m.clk
 bi: ∀i j,i<m.n->j<m.n->m.born i=m.born j->i=j
structure ajc (m:ZMs) (ks:List ByteArray):Prop where
 srt:ks.Pairwise λa b=>kl a b=true
 len:ks.length=m.n
 mem: ∀s,s∈ks↔ ∃j,j<m.n/\(m.lk j).key=s
def FM(ks:List ByteArray)(i:Nat):ByteArray:=ks.getD i ⟨#[]⟩
def ajd(z:Bool)(ks:List ByteArray):dA:= .gX z 9 (.row 1 ks.length (λi=>[.string (FM ks i)]) [])
noncomputable def aje:Ctr:={X:=ZMs,args:=λ_=>[.fn (.func 266) [] [.ptr 0 0]],k:=2,os:=λm=>[.cells 169 (.av [.mp 1]),.nT m.ms],pre:=λm=>Hd m.good,outs:=[
 {Y:=Bool×List ByteArray,post:=λm y=>Hd (ajc m y.2/\(y.1=true->y.2=[])),ret:=λ_ y=> .slV y.1 2 1 y.2.length,m:=3,os:=λm y=>[.cells 169 (.av [.mp 1]),.nT m.ms,ajd y.1 y.2]}]}
def rdN:Value->Option (DataW Unit×List MemPlace):=λ_=>some (.lit (.bool true),[])
theorem kl_lt(a b:List UInt8):kl ⟨a.toArray⟩ ⟨b.toArray⟩=decide (a<b):=by
 unfold kl;rw[iG,iG,Go.Proofs.bytesLess_eq]
theorem ownsS{w:World}{b:Nat}{m:ZMs}{arr:Array MapEntry}(hm:m.good)(hb:w.heap[b]? =some (.map arr m.clk))(hr:JB m.ms arr):
  ∃D0:DataW Unit,w.ownsMap Tryz.prog 9 rdN b m.n D0/\Maps.size D0=m.n/\(strKeys D0).Perm ((List.range m.n).map λj=>(m.lk j).key.data.toList):=by
 obtain⟨r1,r2⟩:=hr;have r1:arr.size=m.n:=r1;have ent: ∀j,j<m.n->arr[j]? =some {key:= .string (m.lk j).key,val:= .agg (m.lk j).cs.toArray,born:=m.born j}:=r2;have htl:arr.toList=(List.range m.n).map λj=>({key:= .string (m.lk j).key,val:= .agg (m.lk j).cs.toArray,born:=m.born j}:MapEntry):=by
  apply List.ext_getElem?;intro j;rw[Array.getElem?_toList,List.getElem?_map];rcases Nat.lt_or_ge j m.n with hj|hj
  ·rw[ent j hj,List.getElem?_range hj];rfl
  ·rw[Array.getElem?_eq_none (by omega),List.getElem?_eq_none (by simpa using hj)];rfl
 have hk: ∀j,j<m.n->Go.keyOf Tryz.prog 9 (.string (m.lk j).key)=some (.string (m.lk j).key.data.toList):=λj hj=>by
  have:=hm.key j hj;have hs:(m.lk j).key.size<=maxLen:=by unfold maxLen;omega
  simp[Go.keyOf,Tryz.underlying9,mapKey,hs]
 have hrd: ∀j,j<m.n->Go.WideElems.rd Tryz.prog 9 rdN {key:= .string (m.lk j).key,val:= .agg (m.lk j).cs.toArray,born:=m.born j}=some (.string (m.lk j).key.data.toList,.lit (.bool true)):=λj hj=>by simp[Go.WideElems.rd,hk j hj,rdN]
 have hmap:arr.toList.map (Go.WideElems.rg Tryz.prog 9 rdN)=(List.range m.n).map λj=>((.string (m.lk j).key.data.toList,.lit (.bool true)):Lit×DataW Unit):=by
  rw[htl,List.map_map];refine List.map_congr_left λj hj=> ?_
  rw[Function.comp_apply,Go.WideElems.rg,hrd j (List.mem_range.1 hj),Option.getD_some]
 have hz:=hm.size;refine⟨.map ((arr.toList.map (Go.WideElems.rg Tryz.prog 9 rdN)).foldr DataW.insert []),⟨arr,m.clk,hb,⟨by rw[r1];unfold maxLen;omega,⟨λx hx=> ?_,?_,?_⟩,λx hx=> ?_⟩,by rw[r1];exact aY _,rfl⟩,?_,?_⟩
 ·rw[htl]at hx
  obtain⟨j,hj,rfl⟩:=List.mem_map.1 hx;exact hm.born j (List.mem_range.1 hj)
 ·rw[htl,List.map_map]
  exact List.pairwise_map.2 (List.nodup_range.imp_of_mem λ{i j} hi hj hne e=>hne (hm.bi i j (List.mem_range.1 hi) (List.mem_range.1 hj) e))
 ·rw[htl,List.map_map]
  exact List.pairwise_map.2 (List.nodup_range.imp_of_mem λ{i j} hi hj hne e=>hne (hm.inj i j (List.mem_range.1 hi) (List.mem_range.1 hj) (by injection e)))
 ·rw[htl]at hx
  obtain⟨j,hj,rfl⟩:=List.mem_map.1 hx;exact⟨_,hrd j (List.mem_range.1 hj)⟩
 ·show((arr.toList.map (Go.WideElems.rg Tryz.prog 9 rdN)).foldr DataW.insert []).length=_
  rw[(Go.WideShapes.sorted_perm _).length_eq,hmap];simp
 ·show(((arr.toList.map (Go.WideElems.rg Tryz.prog 9 rdN)).foldr DataW.insert []).map λp=>strOf p.1).Perm _
  refine((Go.WideShapes.sorted_perm _).map _).trans ?_;rw[hmap,List.map_map];exact List.Perm.refl _
theorem asc{m:ZMs}(hm:m.good){ss:List (List UInt8)}(hp:ss.Perm ((List.range m.n).map λj=>(m.lk j).key.data.toList)):ajc m ((ss.mergeSort (λx y=>decide (x<=y))).map λl=>(⟨l.toArray⟩:ByteArray)):=by
 have tr: ∀a b c:List UInt8,decide (a<=b)=true->decide (b<=c)=true->decide (a<=c)=true:=λa b c h1 h2=>by simp only[decide_eq_true_eq]at*;exact List.le_trans h1 h2
 have to: ∀a b:List UInt8,(decide (a<=b)||decide (b<=a))=true:=λa b=>by simp only[Bool.or_eq_true,decide_eq_true_eq];exact List.le_total a b
 have hq:(ss.mergeSort (λx y=>decide (x<=y))).Perm ((List.range m.n).map λj=>(m.lk j).key.data.toList):=(List.mergeSort_perm ss _).trans hp;have nd:((List.range m.n).map λj=>(m.lk j).key.data.toList).Nodup:=List.pairwise_map.2 (List.nodup_range.imp_of_mem λ{i j} hi hj hne e=>hne (hm.inj i j (List.mem_range.1 hi) (List.mem_range.1 hj) (ByteArray.ext (Array.toList_inj.1 e))));refine⟨List.pairwise_map.2 ?_,by rw[List.length_map,hq.length_eq];simp,λs=> ?_⟩
 ·have h1:=List.pairwise_mergeSort tr to ss
  have h2:=hq.symm.nodup nd;refine(List.pairwise_and_iff.2 ⟨h1,h2⟩).imp λ{a b} h=> ?_
  rw[kl_lt,decide_eq_true_eq];have h1:=aS h.1;by_cases h':a<b
  ·exact h'
  ·exact absurd (List.le_antisymm h1 (List.not_lt.1 h')) h.2
 ·rw[List.mem_map]
  constructor
  ·rintro ⟨l,hl,rfl⟩
   obtain⟨j,hj,rfl⟩:=List.mem_map.1 (hq.mem_iff.1 hl);exact⟨j,List.mem_range.1 hj,ByteArray.ext (by simp)⟩
  ·rintro ⟨j,hj,rfl⟩
   exact⟨_,hq.mem_iff.2 (List.mem_map.2 ⟨j,List.mem_range.2 hj,rfl⟩),ByteArray.ext (by simp)⟩
theorem Xe{m:ZMs}(hm:m.good){w:World}{Bm b:Nat}{arr:Array MapEntry}(hB:w.cell? ⟨Bm,0,none⟩=some (.map (some b)))(hBl:Bm<w.heap.size)(hb:w.heap[b]? =some (.map arr m.clk))(hr:JB m.ms arr):
  Calls Tryz.prog 230 #[.func (.func 266) #[] #[.pointer (some ⟨Bm,0,none⟩)]] w λe w'=>
   ∃(v:Value) (ss:List (List UInt8)),e= .returned v/\ss.Perm ((List.range m.n).map λj=>(m.lk j).key.data.toList)/\
    w'.ownsRow w.heap.size 9 1 v ss.length ((ss.mergeSort (λx y=>decide (x<=y))).map encStr)/\(v= .slice none 0 0↔ss=[])/\Go.RowKit.Below w.heap.size w w':=by
 obtain⟨D0,d1,d2,d3⟩:=ownsS hm hb hr;have hz:=hm.size;have hseq:=AnyZ.keys_gives (ρ:=Tryz.keysA_ren) (H:=Unit) {Tryz.keysA with} Fence.wide 2 trivial rfl (by omega) Bm b m.n D0 w hBl hB d1;have h:=AnyZ.sorted_in Tryz.sortedA Fence.wide 5 trivial trivial trivial trivial rfl (by omega) (sortsA _) (enters_of Tryz.func265 (by kernel_rfl) rfl) 266 #[.pointer (some ⟨Bm,0,none⟩)] trivial (enters_of Tryz.func266 (by kernel_rfl) rfl) _ _ (by rw[d2];unfold maxLen;omega) (by rw[d2];omega) w hseq;refine(callsIn_wide.1 h).mono ?_
 rintro e w' ⟨v,ss,rfl,hp,hrow,hnil,hbel⟩
 exact⟨v,ss,rfl,hp.trans d3,hrow,hnil,hbel⟩
set_option maxRecDepth 20000 in
theorem ajf:bY Tryz.prog 230 aje:=λm hp=>by
 have hm:=aZ.1 hp;refine⟨rfl,⟨Tryz.f230,by kernel_rfl,by kernel_rfl,by kernel_rfl⟩,λρ T w vs hR hl=> ?_⟩;obtain⟨u1,us,hvs,hu1,hus⟩:=hl;obtain rfl:us=[]:=hus;obtain⟨fa,ca,rfl,hfa,hca⟩:=hu1;obtain⟨u,us,hca2,hu,hus⟩:=hca;obtain rfl:us=[]:=hus;obtain⟨a,ha,rfl⟩:=hu;have hfa:fa.toList=[]:=hfa;obtain rfl:fa= #[]:=by cases fa;simp_all
 obtain rfl:ca= #[.pointer (some ⟨a.blk,a.base+0,none⟩)]:=by cases ca;simp_all
 obtain rfl:vs= #[.func (.func 266) #[] #[.pointer (some ⟨a.blk,a.base+0,none⟩)]]:=by cases vs;simp_all
 have hR':=hR;obtain⟨S,h1,h2,h3,h4,h5⟩:=hR;obtain⟨a',ha',hO⟩:=h1 0 (.cells 169 (.av [.mp 1])) rfl;rw[ha]at ha';cases ha';obtain⟨hb0,hS,arr,ha1,ha2,ha3,ha4⟩:=hO;obtain⟨um,hm1,hm2⟩:=ha4 0 (.mp 1) rfl;obtain⟨aj,haj,rfl⟩:=hm2;obtain⟨aj',haj',hOj⟩:=h1 1 (.nT m.ms) rfl;rw[haj]at haj';cases haj';obtain⟨hSj,marr,hmb,hmr⟩:=hOj;have hBl:a.blk<w.heap.size:=(h3 0 _ _ rfl hS).2;have hcell:w.cell? ⟨a.blk,0,none⟩=some (.map (some aj.blk)):=by
  simp[World.cell?,ha1,hb0]at hm1 ⊢;simpa using hm1
 rw[hb0];refine(Xe hm hcell hBl hmb hmr).mono ?_
 rintro e w' ⟨v,ss,rfl,hperm,⟨hlen,hrow⟩,hnil,hbel⟩
 have hk:=asc hm hperm;have hl:((ss.mergeSort (λx y=>decide (x<=y))).map λl=>(⟨l.toArray⟩:ByteArray)).length=ss.length:=by simp
 rcases hrow with ⟨rfl,h0⟩|⟨g,cap,cur,rfl,r1,r2,r3,r4,r5,r6⟩
 ·have hss:ss=[]:=List.eq_nil_of_length_eq_zero h0
  subst hss;obtain⟨ρ',l1,l2,l3,l4,l5⟩:=abg (a:=⟨0,0,0⟩) (S0:=λ_=>False) (o:=ajd true []) hR' hbel (λb h=>h.elim) (λρ'=> .inl ⟨rfl,rfl⟩);refine⟨ρ',.slV true 2 1 0,_,hO 3 [.cells 169 (.av [.mp 1]),.nT m.ms,ajd true []],l3,by show 2<=3;decide,?_,.inl ⟨rfl,rfl,rfl⟩,rfl,l5,eP ⟨(true,[]),aZ.2 ⟨by simpa using hk,λ_=>rfl⟩,rfl,rfl⟩⟩;exact l4
 ·have hgl:g<w'.heap.size:=(Array.getElem?_eq_some_iff.1 r2).1
  generalize hks:(ss.mergeSort (λx y=>decide (x<=y))).map (λl=>(⟨l.toArray⟩:ByteArray))=ks at hk hl;have hne:ss≠[]:=λe=>by have:=hnil.2 e;cases this
  have hcur: ∀i,i<ks.length->cur[i]? =some (.string (FM ks i)):=λi hi=>by
   have e1:(cur.toList.take (ss.length*1))[i]? =cur.toList[i]? :=List.getElem?_take_of_lt (by omega);rw[<-Array.getElem?_toList,<-e1,r6];subst hks;unfold FM;rw[List.length_map]at hi;rw[List.getElem?_map,List.getElem?_eq_getElem hi,List.getD_eq_getElem?_getD,List.getElem?_map,List.getElem?_eq_getElem hi];rfl
  obtain⟨ρ',l1,l2,l3,l4,l5⟩:=abg (a:=⟨g,0,cap⟩) (S0:=λb=>b=g) (o:=ajd false ks) hR' hbel (λb h=>by subst h;exact⟨r1,hgl⟩) (λρ'=> .inr ⟨rfl,rfl,rfl,cur,r2,by show cur.size=cap;omega,by show ks.length*1<=cap;omega,λk x hk=>by
   unfold Cs.get at hk;cases hb:Nat.blt k (ks.length*1)with
   |false=>rw[hb]at hk;cases hk
   |true=>
    rw[hb]at hk;have hb:=bg.1 hb;have hi:k<ks.length:=by omega
    have e1:k/1=k:=Nat.div_one k;have e2:k%1=0:=Nat.mod_one k;rw[e1,e2]at hk;cases hk
    exact⟨_,by rw[aA];exact hcur k hi,rfl⟩⟩)
  rw[<-hl];refine⟨ρ',.slV false 2 1 ks.length,_,hO 3 [.cells 169 (.av [.mp 1]),.nT m.ms,ajd false ks],l3,by show 2<=3;decide,?_,.inr ⟨rfl,⟨g,0,cap⟩,_,_,l2,rfl,?_,?_⟩,rfl,l5,eP ⟨(false,ks),aZ.2 ⟨hk,λh=>nomatch h⟩,rfl,rfl⟩⟩
  ·exact l4
  ·omega
  ·exactλ_=>⟨rfl,by show cap*1<=cap;omega⟩
structure ZNx where
 L:Lks
 pos:ByteArray
 past:Bool
noncomputable def anK(b:Nat):aeR:={X:=ZNx,args:=λx=>[.ptr 0 0,i64 b,.lit (.string x.pos),boo x.past],L:=λx=>x.L,pre:=λx=>Hd (x.pos.size<1099511627776),outs:=[
 {Y:=Unit,post:=λx _=>Hd (nextL x.L b x.pos x.past=none),ret:=λ_ _=> .tup [iT.av,boo false],L:=λx _=>x.L,m:=1,ex:=λ_ _=>[]},
 {Y:=ZLnk,post:=λx y=>Hd (nextL x.L b x.pos x.past=some y),ret:=λ_ y=> .tup [y.av,boo true],L:=λx _=>x.L,m:=1,ex:=λ_ _=>[]}]}
def txtV:List Value->ByteArray
 |[.string s]=>s
 |_=>⟨#[]⟩
def apx(x:ZNx×iZ):FuncId->qR:=λf=>bif Nat.beq f 182 then(λb _ h=>bif Nat.beq b 0 then(match h.get 11 with
 |some (.gX _ _ (.row _ n g _))=>[{σ:=Nat,fr:=λi=>[(34,i64 i)],ob:=λ_=>[],inv:=λi=>Hd (i<=n/\ ∀j,j<i->x.1.past=true/\kl x.1.pos (txtV (g j))=false),meas:=λi=>n-i}]
 |_=>[])else [])elseλ_ _ _=>[]
noncomputable def auJ:jv:=[(230,ctrT aje)]
def nEnd(b:Nat)(x:ZNx×iZ)(m:ZMs)(l:ZLnk)(f:Bool):Prop:=(∃y:Unit×iZ,(Hd (nextL x.1.L b x.1.pos x.1.past=none)/\Hd (lV x.1.L y.2))/\(WZ iT l/\false=f/\True)/\H8 y.2 x.2 b m.ms)\/ ∃y:ZLnk×iZ,(Hd (nextL x.1.L b x.1.pos x.1.past=some y.1)/\Hd (lV x.1.L y.2))/\(WZ y.1 l/\true=f/\True)/\H8 y.2 x.2 b m.ms
def nInv(x:ZNx×iZ)(y:Bool×List ByteArray)(s:Nat):Prop:=Hd (s<=y.2.length/\ ∀j,j<s->x.1.past=true/\kl x.1.pos (FM y.2 j)=false)
def ase(b:Nat)(x:ZNx×iZ)(m:ZMs)(y:Bool×List ByteArray):Prop:=(y.1=y.1/\y.2.length=y.2.length/\ ∀q:Nat,q<y.2.length->[Value.string (FM y.2 q)]=[Value.string (FM y.2 q)])/\(True/\True)/\WZ iT iT/\
 (bif Nat.beq b 7 then m.ms else(x.2 7).ms)=(bif Nat.beq b 7 then m.ms else(x.2 7).ms)/\(bif Nat.beq b 6 then m.ms else(x.2 6).ms)=(bif Nat.beq b 6 then m.ms else(x.2 6).ms)/\(bif Nat.beq b 5 then m.ms else(x.2 5).ms)=(bif Nat.beq b 5 then m.ms else(x.2 5).ms)/\(bif Nat.beq b 4 then m.ms else(x.2 4).ms)=(bif Nat.beq b 4 then m.ms else(x.2 4).ms)/\(bif Nat.beq b 3 then m.ms else(x.2 3).ms)=(bif Nat.beq b 3 then m.ms else(x.2 3).ms)/\(bif Nat.beq b 2 then m.ms else(x.2 2).ms)=(bif Nat.beq b 2 then m.ms else(x.2 2).ms)/\(bif Nat.beq b 1 then m.ms else(x.2 1).ms)=(bif Nat.beq b 1 then m.ms else(x.2 1).ms)/\(bif Nat.beq b 0 then m.ms else(x.2 0).ms)=(bif Nat.beq b 0 then m.ms else(x.2 0).ms)/\as4/\True
def nHit(b:Nat)(x:ZNx×iZ)(m:ZMs)(y:Bool×List ByteArray)(s:Nat):Prop:=apt m (FM y.2 (0+s)) (λj=>nEnd b x m (m.lk j) true)/\kNo m (FM y.2 (0+s)) (nEnd b x m iT true)
def gtrB(a b:ByteArray):Bool:= !(Op.bytesLess a.toList b.toList||a.toList==b.toList)
def auK(b:Nat)(x:ZNx×iZ):Prop:=((0:Int)<=b/\(0:Int)<=(7:Int)-b)/\ ∃m:ZMs,Hd m.good/\((Fn.func 266=Fn.func 266/\True/\0=0/\True)/\True)/\((True/\True)/\m.ms=(x.2 b).ms/\True)/\
 ∀y:Bool×List ByteArray,Hd (ajc m y.2/\(y.1=true->y.2=[]))->(∃s:Nat,nInv x y s/\True/\((s:Int)=0/\True)/\ase b x m y)/\
  (∀s:Nat,nInv x y s->cP (decide ((s:Int)<((y.2.length:Nat):Int))) ((0<=(s:Int)/\(s:Int)<((y.2.length:Nat):Int))/\0+s<y.2.length/\cP (!x.1.past) (nHit b x m y s) (cP (gtrB (FM y.2 (0+s)) x.1.pos) (nHit b x m y s)
   (I64 ((s:Int)+1)/\ ∃s1:Nat,nInv x y s1/\y.2.length-s1<y.2.length-s/\((s1:Int)=(s:Int)+1/\True)/\ase b x m y))) (nEnd b x m iT false))/\True
theorem anL: ∀b,b<8-> ∀x,auK b x=wpF Tryz.prog auJ tt (apx x) 200 6 182 ((anK b).E.args x) (hO 9 (flatP 1 ((anK b).E.l x))) (λv h'=>endsPK 1 x v h' (anK b).E.outs)
 |0,_=>λx=>by kernel_rfl
 |1,_=>λx=>by kernel_rfl
 |2,_=>λx=>by kernel_rfl
 |3,_=>λx=>by kernel_rfl
 |4,_=>λx=>by kernel_rfl
 |5,_=>λx=>by kernel_rfl
 |6,_=>λx=>by kernel_rfl
 |7,_=>λx=>by kernel_rfl
 |b+8,h=>absurd h (by omega)
theorem ajg(a b:ByteArray):gtrB a b=kl b a:=by
 unfold gtrB kl;cases h1:Op.bytesLess a.toList b.toList with
 |true=>
  have:Op.bytesLess b.toList a.toList=false:=by
   cases h2:Op.bytesLess b.toList a.toList with
   |false=>rfl
   |true=>have:=Lm h1 h2;rw[aa1]at this;cases this
  rw[this];rfl
 |false=>
  cases h2:Op.bytesLess b.toList a.toList with
  |true=>
   have hne:(a.toList==b.toList)=false:=by
    rw[beq_eq_false_iff_ne];intro e;rw[e,aa1]at h2;cases h2
   rw[hne];rfl
  |false=>
   have:=aiI _ _ h1 h2;rw[this];simp
theorem adS{L:Lks}(hs:srt L){p:ZLnk->Bool}{l:ZLnk}(hl:l∈L)(hp:p l=true)(hn: ∀l'∈L,kl l'.key l.key=true->p l'=false):L.find? p=some l:=by
 induction L with
 |nil=>cases hl
 |cons x L ih=>
  obtain⟨h1,h2⟩:=List.pairwise_cons.1 hs;rcases List.mem_cons.1 hl with rfl|hl
  ·rw[List.find?_cons_of_pos hp]
  ·rw[List.find?_cons_of_neg (by rw[hn x List.mem_cons_self (h1 l hl)];decide)]
   exact ih h2 hl λl' hl'=>hn l' (List.mem_cons_of_mem _ hl')
theorem asf{ks:List ByteArray}{i:Nat}(h:i<ks.length):FM ks i∈ks:=by
 unfold FM;rw[List.getD_eq_getElem?_getD,List.getElem?_eq_getElem h];exact List.getElem_mem h
theorem asg{ks:List ByteArray}{s:ByteArray}(h:s∈ks): ∃i,i<ks.length/\FM ks i=s:=by
 obtain⟨i,hi,rfl⟩:=List.mem_iff_getElem.1 h;exact⟨i,hi,by unfold FM;rw[List.getD_eq_getElem?_getD,List.getElem?_eq_getElem hi];rfl⟩
theorem auL{ks:List ByteArray}(h:ks.Pairwise λa b=>kl a b=true){i j:Nat}(hi:i<ks.length)(hj:j<ks.length)(hk:kl (FM ks i) (FM ks j)=true):i<j:=by
 rcases Nat.lt_trichotomy i j with h'|h'|h'
 ·exact h'
 ·subst h';rw[oD]at hk;cases hk
 ·have e: ∀q,q<ks.length->FM ks q=ks[q]! :=λq hq=>by unfold FM;rw[List.getD_eq_getElem?_getD,List.getElem!_eq_getElem?_getD];rfl
  have:=List.pairwise_iff_getElem.1 h j i hj hi h';have e1:FM ks i=ks[i]:=by unfold FM;rw[List.getD_eq_getElem?_getD,List.getElem?_eq_getElem hi];rfl
  have e2:FM ks j=ks[j]:=by unfold FM;rw[List.getD_eq_getElem?_getD,List.getElem?_eq_getElem hj];rfl
  rw[e1,e2]at hk;have:=jE this hk;rw[oD]at this;cases this
theorem lV.good{L:Lks}{t:iZ}(h:lV L t){b:Nat}(hb:b<8):(t b).good:=by
 refine⟨?_,λj hj=>h.key _ (h.mem b hb j hj).1,h.inj b hb,h.born b hb,h.bi b hb⟩;rw[h.n hb];exact Nat.le_trans (List.length_filter_le _ _) h.size
theorem SG{t:iZ}{b:Nat}(hb:b<8):H8 t t b (t b).ms:=by
 have e: ∀k,k<8->(t k).ms=(bif Nat.beq b k then(t b).ms else(t k).ms):=λk hk=>by
  rw[dB];by_cases h:b=k
  ·subst h;simp
  ·rw[decide_eq_false h];rfl
 exact⟨BN,e 0 (by decide),e 1 (by decide),e 2 (by decide),e 3 (by decide),e 4 (by decide),e 5 (by decide),e 6 (by decide),e 7 (by decide),trivial⟩
theorem adT{b:Nat}(hb:b<8)(x:ZNx×iZ)(h:lV x.1.L x.2):auK b x:=by
 have hz:=(h.good hb).size;refine⟨⟨by omega,by omega⟩,x.2 b,aZ.2 (h.good hb),⟨⟨rfl,trivial,rfl,trivial⟩,trivial⟩,⟨⟨trivial,trivial⟩,rfl,trivial⟩,λy hy=> ?_⟩;obtain⟨⟨k1,k2,k3⟩,_⟩:=aZ.1 hy;have keep:ase b x (x.2 b) y:=⟨⟨rfl,rfl,λ_ _=>rfl⟩,⟨trivial,trivial⟩,kN,rfl,rfl,rfl,rfl,rfl,rfl,rfl,rfl,BN,trivial⟩;have key: ∀l∈x.1.L,bkt l.key=b-> ∃i,i<y.2.length/\FM y.2 i=l.key:=λl hl hlb=>by
  obtain⟨j,h1,h2⟩:=h.all l hl;rw[hlb]at h1 h2;exact asg ((k3 l.key).2 ⟨j,h1,by rw[h2]⟩)
 refine⟨⟨0,aZ.2 ⟨Nat.zero_le _,λj hj=>absurd hj (Nat.not_lt_zero j)⟩,trivial,⟨rfl,trivial⟩,keep⟩,λs hs=> ?_,trivial⟩;obtain⟨s1,s2⟩:=aZ.1 hs;refine bf (λhc=> ?_) λhc=> ?_
 ·have hlt:s<y.2.length:=by have:=aS hc;omega
  have hit:((!x.1.past)||kl x.1.pos (FM y.2 s))=true->nHit b x (x.2 b) y s:=λhp=>by
   unfold nHit;rw[aA];refine⟨λj hj hk=> .inr ⟨((x.2 b).lk j,x.2),⟨aZ.2 ?_,aZ.2 h⟩,⟨kN,rfl,trivial⟩,SG hb⟩,λhn=> ?_⟩
   ·obtain⟨m1,m2⟩:=h.mem b hb j hj
    refine adS h.srt m1 ?_ λl' hl' hk'=> ?_
    ·rw[decide_eq_true m2,hk,aH];exact hp
    ·by_cases hlb:bkt l'.key=b
     ·obtain⟨i,hi,he⟩:=key l' hl' hlb
      rw[hk,<-he]at hk';have:=auL k1 hi hlt hk';obtain⟨p1,p2⟩:=s2 i this;rw[<-he,p1,p2];simp
     ·rw[decide_eq_false hlb];rfl
   ·obtain⟨j,hj,hk⟩:=(k3 _).1 (asf hlt)
    exact(hn j hj hk).elim
  refine⟨⟨by omega,by omega⟩,by omega,bf (λhp=>hit (by rw[hp];rfl)) λhp=>bf (λhq=> ?_) λhq=> ?_⟩
  ·rw[ajg,aA]at hq
   exact hit (by rw[hq];simp)
  ·rw[ajg,aA]at hq
   refine⟨by unfold I64;omega,s+1,aZ.2 ⟨by omega,λj hj=> ?_⟩,by omega,⟨by omega,trivial⟩,keep⟩;by_cases e:j=s
   ·subst e;exact⟨by simpa using hp,hq⟩
   ·exact s2 j (by omega)
 ·have hge:y.2.length<=s:=by have:=aT hc;omega
  refine .inl ⟨((),x.2),⟨aZ.2 (List.find?_eq_none.2 λl hl=> ?_),aZ.2 h⟩,⟨kN,rfl,trivial⟩,SG hb⟩;by_cases hlb:bkt l.key=b
  ·obtain⟨i,hi,he⟩:=key l hl hlb
   obtain⟨p1,p2⟩:=s2 i (by omega);rw[<-he,p1,p2];simp
  ·rw[decide_eq_false hlb];simp
theorem anM:dY Tryz.prog auJ:= .cons (bM ajf) .nil
theorem ajh{b:Nat}(hb:b<8):bY Tryz.prog 182 (anK b).C:=FB ⟨Tryz.f182,by kernel_rfl,by kernel_rfl,by kernel_rfl⟩ (List.forall_mem_cons.2 ⟨λ_ _=>rfl,List.forall_mem_cons.2 ⟨λ_ _=>rfl,λ_ h=>(List.not_mem_nil h).elim⟩⟩) (cO dD mixed anM 9 apx 200 6 (λ_=>⟨rfl,rfl,rfl,rfl⟩) λx hx=>Eq.mp (anL b hb x) (adT hb x (aZ.1 hx.2)))
structure ZNk where
 L:Lks
 s:ByteArray
 pos:ByteArray
 past:Bool
noncomputable def nextK:aeR:={X:=ZNk,args:=λx=>[.ptr 0 0,i64 (bkt x.s),.lit (.string x.pos),boo x.past],L:=λx=>x.L,pre:=λx=>Hd (x.pos.size<1099511627776),outs:=[
 {Y:=Unit,post:=λx _=>Hd (nextL x.L (bkt x.s) x.pos x.past=none),ret:=λ_ _=> .tup [iT.av,boo false],L:=λx _=>x.L,m:=1,ex:=λ_ _=>[]},
 {Y:=ZLnk,post:=λx y=>Hd (nextL x.L (bkt x.s) x.pos x.past=some y),ret:=λ_ y=> .tup [y.av,boo true],L:=λx _=>x.L,m:=1,ex:=λ_ _=>[]}]}
theorem anN:bY Tryz.prog 182 nextK.C:=jP λx hx=>⟨_,ajh (qQ x.s),rfl,⟨x.L,x.pos,x.past⟩,hx,rfl,rfl,λv h' hh=>by
 rcases pR hh with ⟨y,h0,e1,e2⟩|⟨y,h0,e1,e2⟩
 ·exact eP ⟨(),h0,e1,e2⟩
 ·exact BJ ⟨y,h0,e1,e2⟩⟩
end Go.Proofs.YtenfleoejgjklaaGreat
end
section
namespace Go.Proofs.YtenfleoejgjklaaGreat
open Go Go.Shelf Go.RowKit Go.Lib Go.Sort
def Tryz.sortFA_ren:Go.Shelf.Ren:=⟨λ|6=>118|15=>175|14=>174|28=>225|29=>226|20=>217|21=>218|22=>219|23=>220|24=>221|25=>222|26=>223|27=>224|46=>258|47=>259|48=>260|49=>261|50=>262|57=>286|n=>n,λ|22=>123|24=>41|25=>240|3=>3|39=>114|0=>0|53=>135|55=>31|4=>4|46=>330|45=>329|50=>334|5=>5|9=>9|66=>362|70=>365|76=>380|77=>381|n=>n,λ|n=>n⟩
theorem Tryz.sortFA:Go.Proofs.SlLaysF0.n6 Tryz.prog Tryz.sortFA_ren:={
 mixed:=by kernel_rfl
 f6:=⟨Tryz.f118.name,by decide,Tryz.func118.trans (congrArg some (by kernel_rfl))⟩
 f14:=⟨Tryz.f174.name,by decide,Tryz.func174.trans (congrArg some (by kernel_rfl))⟩
 f15:=Tryz.func175.trans (congrArg some (by kernel_rfl))
 f20:=⟨Tryz.f217.name,by decide,Tryz.func217.trans (congrArg some (by kernel_rfl))⟩
 f21:=⟨Tryz.f218.name,by decide,Tryz.func218.trans (congrArg some (by kernel_rfl))⟩
 f22:=⟨Tryz.f219.name,by decide,Tryz.func219.trans (congrArg some (by kernel_rfl))⟩
 f23:=⟨Tryz.f220.name,by decide,Tryz.func220.trans (congrArg some (by kernel_rfl))⟩
 f24:=⟨Tryz.f221.name,by decide,Tryz.func221.trans (congrArg some (by kernel_rfl))⟩
 f25:=⟨Tryz.f222.name,by decide,Tryz.func222.trans (congrArg some (by kernel_rfl))⟩
 f26:=⟨Tryz.f223.name,by decide,Tryz.func223.trans (congrArg some (by kernel_rfl))⟩
 f27:=⟨Tryz.f224.name,by decide,Tryz.func224.trans (congrArg some (by kernel_rfl))⟩
 f28:=Tryz.func225.trans (congrArg some (by kernel_rfl))
 f29:=Tryz.func226.trans (congrArg some (by kernel_rfl))
 f46:=⟨Tryz.f258.name,by decide,Tryz.func258.trans (congrArg some (by kernel_rfl))⟩
 f47:=Tryz.func259.trans (congrArg some (by kernel_rfl))
 f48:=Tryz.func260.trans (congrArg some (by kernel_rfl))
 f49:=⟨Tryz.f261.name,by decide,Tryz.func261.trans (congrArg some (by kernel_rfl))⟩
 f50:=⟨Tryz.f262.name,by decide,Tryz.func262.trans (congrArg some (by kernel_rfl))⟩
 f57:=⟨Tryz.f286.name,by decide,Tryz.func286.trans (congrArg some (by kernel_rfl))⟩
 t0:=Tryz.underlying0
 a0:=Tryz.isAgg0
 z0:=Tryz.sizeOf0
 v0:=Tryz.zeroValue0
 t3:=Tryz.underlying3
 a3:=Tryz.isAgg3
 z3:=Tryz.sizeOf3
 v3:=Tryz.zeroValue3
 t4:=Tryz.underlying4
 a4:=Tryz.isAgg4
 z4:=Tryz.sizeOf4
 v4:=Tryz.zeroValue4
 t5:=Tryz.underlying5
 a5:=Tryz.isAgg5
 z5:=Tryz.sizeOf5
 v5:=Tryz.zeroValue5
 t9:=Tryz.underlying9
 a9:=Tryz.isAgg9
 z9:=Tryz.sizeOf9
 v9:=Tryz.zeroValue9
 t22:=Tryz.underlying123
 a22:=Tryz.isAgg123
 z22:=Tryz.sizeOf123
 v22:=Tryz.zeroValue123
 t25:=Tryz.underlying240
 a25:=Tryz.isAgg240
 z25:=Tryz.sizeOf240
 v25:=Tryz.zeroValue240
 t39:=Tryz.underlying114
 a39:=Tryz.isAgg114
 z39:=Tryz.sizeOf114
 v39:=Tryz.zeroValue114
 t45:=Tryz.underlying329
 a45:=Tryz.isAgg329
 z45:=Tryz.sizeOf329
 v45:=Tryz.zeroValue329
 t46:=Tryz.underlying330
 a46:=Tryz.isAgg330
 z46:=Tryz.sizeOf330
 v46:=Tryz.zeroValue330
 t50:=Tryz.underlying334
 a50:=Tryz.isAgg334
 z50:=Tryz.sizeOf334
 v50:=Tryz.zeroValue334
 t53:=Tryz.underlying135
 a53:=Tryz.isAgg135
 z53:=Tryz.sizeOf135
 v53:=Tryz.zeroValue135
 t55:=Tryz.underlying31
 a55:=Tryz.isAgg31
 z55:=Tryz.sizeOf31
 v55:=Tryz.zeroValue31
 t66:=Tryz.underlying362
 a66:=Tryz.isAgg362
 z66:=Tryz.sizeOf362
 v66:=Tryz.zeroValue362
 t70:=Tryz.underlying365
 a70:=Tryz.isAgg365
 z70:=Tryz.sizeOf365
 v70:=Tryz.zeroValue365
 t76:=Tryz.underlying380
 a76:=Tryz.isAgg380
 z76:=Tryz.sizeOf380
 v76:=Tryz.zeroValue380
 t77:=Tryz.underlying381
 a77:=Tryz.isAgg381
 z77:=Tryz.sizeOf381
 v77:=Tryz.zeroValue381}
def Tryz.cmpStrA_ren:Go.Shelf.Ren:=⟨λ|106=>120|213=>176|265=>227|n=>n,λ|9=>9|3=>3|n=>n,λ|n=>n⟩
theorem Tryz.cmpStrA:Go.Proofs.Lays.n106 Tryz.prog Tryz.cmpStrA_ren:={
 mixed:=by kernel_rfl
 f106:=Tryz.func120.trans (congrArg some (by kernel_rfl))
 f213:=Tryz.func176.trans (congrArg some (by kernel_rfl))
 f265:=Tryz.func227.trans (congrArg some (by kernel_rfl))
 t3:=Tryz.underlying3
 a3:=Tryz.isAgg3
 z3:=Tryz.sizeOf3
 v3:=Tryz.zeroValue3
 t9:=Tryz.underlying9
 a9:=Tryz.isAgg9
 z9:=Tryz.sizeOf9
 v9:=Tryz.zeroValue9}
instance:Inhabited ZLnk:=⟨iT⟩
def alb(l:ZLnk):List Value:=l.cs
def cfL(a b:ZLnk):Int:=Lib.compareBytes a.key.data.toList b.key.data.toList
set_option maxHeartbeats 1000000 in
theorem aji(x y:ZLnk)(W:World):Calls Tryz.prog 119 #[.agg (alb x).toArray,.agg (alb y).toArray] W λe w'=>e= .returned (.int .i64 (cfL x y))/\ ∃q os',w'=grow (W.drewN q) os':=by
 have hcon:=λa b W'=>Any.strings_Compare Tryz.cmpStrA a b W'
 change∀a b W',Calls Tryz.prog 120 _ _ _ at hcon;unfold cfL;generalize hr:(λa b:ByteArray=>Lib.compareBytes a.data.toList b.data.toList)=r;have hcon: ∀(a b:ByteArray) (W':World),Calls Tryz.prog 120 #[.string a,.string b] W' λe w'=>e= .returned (.int .i64 (r a b))/\w'=W':=by subst hr;exact hcon
 have hg:Lib.compareBytes x.key.data.toList y.key.data.toList=r x.key y.key:=by subst hr;rfl
 rw[hg];clear hg hr;obtain⟨xk,x1,x2,x3,x4⟩:=x;obtain⟨yk,y1,y2,y3,y4⟩:=y;simp only[alb,ZLnk.cs]
 go_enter Tryz.func119,Tryz.ntmps119
 go_wp2_with (go_at_call 120;refine(hcon _ _ _).mono ?_;rintro e w' ⟨rfl,rfl⟩)
 go_ret
 exact⟨rfl,0,_,by rw[alloc_eq_grow,alloc_eq_grow,grow_grow];rfl⟩
end Go.Proofs.YtenfleoejgjklaaGreat
end
section
namespace Go.Proofs.YtenfleoejgjklaaGreat
open Go SE
noncomputable def abh:Ctr:=det Unit (λ_=>[ig,.fn (.func 119) [] []]) 1 (λ_=>[.abs CB]) (λ_=>True) (λ_=> .tup []) 1 (λ_=>[.abs CB])
def Xf(x:Unit):Prop:=
 ((0:Int)<=0/\(0:Int)<=255)/\I64 (0:Int)/\I64 (0:Int)/\I64 (0:Int)/\I64 (1:Int)/\ ∃y:Unit,True/\True/\CB=CB/\True
theorem adU(x:Unit):Xf x=wpF Tryz.prog [] tt (noA x) 200 6 118 (abh.args x) (hO 1 (abh.os x)) (λv h'=>eG 1 x v h' abh.outs):=by kernel_rfl
end Go.Proofs.YtenfleoejgjklaaGreat
end
section
namespace Go.Proofs.YtenfleoejgjklaaGreat
open Go SE
open Go.Shelf Go.RowKit Go.Lib Go.Sort
theorem SH(x:Unit):Xf x:=by
 unfold Xf;simp only[aZ,aV,aU,aA,aI,bQ,bF,aO,aK,ay,aX,aW,I64];omega
theorem anO:bY Tryz.prog 118 abh:=dL dD mixed .nil noA 200 6 (λ_=>rfl) (λ_=>rfl) λx _=>Eq.mp (adU x) (SH x)
theorem LM(x y:ZLnk):ltOf cfL x y=kl x.key y.key:=by
 unfold ltOf cfL kl;rw[iG,iG];have h:=(oh x.key.data.toList y.key.data.toList).1;cases hb:Op.bytesLess x.key.data.toList y.key.data.toList with
 |true=>exact decide_eq_true (h.2 hb)
 |false=>exact decide_eq_false λhc=>by rw[h.1 hc]at hb;cases hb
theorem swoL:SWO (ltOf cfL):={
 irrefl x:=by rw[LM];exact oD _
 trans x y z h1 h2:=by rw[LM]at*;exact jE h1 h2
 ntrans x y z h1 h2:=by
  rw[LM]at*
  cases hz:kl x.key z.key with
  |false=>rfl
  |true=>
   cases hy:kl y.key x.key with
   |true=>rw[jE hy hz]at h2;cases h2
   |false=>rw[aa2 h1 hy]at hz;rw[hz]at h2;cases h2}
theorem anP{h:Heap}{ρ:SE.Ren}{T:Nat->Prop}{w w':World}(hR:Rel h ρ T w)(hs:w.heap.size<=w'.heap.size)(hw: ∀b,b<w.heap.size->w'.heap[b]? =w.heap[b]?):Rel h ρ T w':=by
 obtain⟨S,h1,h2,h3,h4,h5⟩:=hR;refine⟨S,λi o hi=> ?_,h2,λi o b hi hS=>⟨(h3 i o b hi hS).1,Nat.lt_of_lt_of_le (h3 i o b hi hS).2 hs⟩,h4,λb hb=>h5 b (Nat.le_trans hs hb)⟩;obtain⟨a,ha,ho⟩:=h1 i o hi;refine⟨a,ha,ho.stays λb hb=>hw b ?_⟩;rcases hb with hb|hb
 ·exact(h3 i o b hi hb).2
 ·rcases Nat.lt_or_ge b w.heap.size with h'|h'
  ·exact h'
  ·exact(hb (h5 b h')).elim
theorem anQ{L M:Lks}(hs:srt L)(hp:M.Perm L)(hm:M.Pairwise λa b=>kl b.key a.key=false):M=L:=by
 refine List.Perm.eq_of_pairwise (le:=λa b=>kl b.key a.key=false) (λa b ha hb h1 h2=> ?_) hm (hs.imp λ{a b} h=>WQ h) hp;exact Lp hs (hp.mem_iff.1 ha) hb (aa2 h2 h1)
theorem SI(g:Nat->ZLnk){n k:Nat}(hk:k<n*5):(Cs.row 5 n (λq=>(g q).cs) []).get k=some (.lit ((g (k/5)).cs[k%5]!)):=by
 unfold Cs.get;rw[bg.2 hk,aP];have hl:(g (k/5)).cs.length=5:=rfl;have hm:k%5<5:=Nat.mod_lt _ (by decide);have he:Cs.eff (λq=>(g q).cs) [] (k/5)=(g (k/5)).cs:=rfl;rw[he,List.getElem?_eq_getElem (by rw[hl];exact hm),List.getElem!_eq_getElem?_getD,List.getElem?_eq_getElem (by rw[hl];exact hm)];rfl
structure ZSl where
 z:Bool
 M:Lks
 L:Lks
noncomputable def apy:Ctr:=det ZSl (λx=>[.slV x.z 0 5 x.M.length,.fn (.func 119) [] []]) 1 (λx=>[wC x.z x.M]) (λx=>Hd (srt x.L/\x.M.Perm x.L/\x.M.length<=300)) (λ_=> .tup []) 1 (λx=>[wC x.z x.L])
theorem ajj(M:Lks)(i:Nat)(h:i<M.length):(M.toArray)[i]! =nthL M i:=by
 unfold nthL;rw[getElem!_pos _ i (by simpa using h),List.getD_eq_getElem?_getD,List.getElem?_eq_getElem h];simp
set_option maxRecDepth 20000 in
theorem anR{M L:Lks}(hs:srt L)(hp:M.Perm L)(hlen:M.length<=300){w:World}{blk off cap:Nat}(hoff:M.length≠0->off=0){arr:Array Value}(hb:w.heap[blk]? =some (.cells arr 41 (0,0)))(hsz:M.length*5<=arr.size)(hc: ∀k,k<M.length*5->arr[k]? =some ((nthL M (k/5)).cs[k%5]!)):
  Calls Tryz.prog 118 #[.slice (some ⟨blk,off,none⟩) M.length cap,.func (.func 119) #[] #[]] w λe w'=>e= .returned (.tuple #[])/\
   (∃arr',w'.heap[blk]? =some (.cells arr' 41 (0,0))/\arr'.size=arr.size/\ ∀k,k<L.length*5->arr'[k]? =some ((nthL L (k/5)).cs[k%5]!))/\w.heap.size<=w'.heap.size/\(w'.os=w.os/\w'.tape=w.tape/\w'.output=w.output)/\ ∀b,b≠blk->b<w.heap.size->w'.heap[b]? =w.heap[b]? :=by
 have hbl:blk<w.heap.size:=(Array.getElem?_eq_some_iff.1 hb).1;have hdz:(M.toArray).size=M.length:=by simp
 have nth: ∀i,i<M.length->(M.toArray)[i]! =nthL M i:=λi hi=>ajj M i hi
 have hH:HoldsK alb 5 w blk off M.toArray:=by
  intro t ht;rw[size_flatK,hdz]at ht;obtain rfl:=hoff (by omega);rw[get_flatK _ _ _ _ (by rw[hdz];exact ht),nth _ (by omega)];refine⟨?_,by simp[World.frozen?,hb]⟩;have:=hc t ht;simp only[World.cell?,hb,aA];simpa[alb]using this
 have h:=AnyQ.slices_SortFunc Tryz.sortFA 5 Tryz.isAgg41 Tryz.sizeOf41 alb (λ_=>rfl) (λx v hv=>by simp[alb,ZLnk.cs]at hv;rcases hv with rfl|rfl|rfl|rfl|rfl<;>rfl) cfL swoL 119 #[] blk off cap M.toArray w (enters_of Tryz.func119 (by kernel_rfl) rfl) (λ_ _ _ _ x y=>aji x y _) hH hbl (by rw[hdz];omega);rw[hdz]at h;refine Calls.mono h ?_
 rintro e w' ⟨rfl,d',n,os,⟨p1,p2,p3⟩,hso,rfl⟩
 have hd':d'.size=M.length:=by rw[p1,hdz]
 have hDL:d'.toList=L:=by
  refine anQ hs ?_ ?_
  ·have e1:(d'.extract 0 M.length).toList=d'.toList:=by simp[<-hd']
   have e2:((M.toArray).extract 0 M.length).toList=M:=by simp
   rw[e1,e2]at p3;exact p3.trans hp
  ·refine List.pairwise_iff_getElem.2 λi j hi hj hij=> ?_
   have hi':i<d'.size:=by simpa using hi
   have hj':j<d'.size:=by simpa using hj
   have:=hso i j (Nat.zero_le _) hij (by omega);rw[LM,getElem!_pos _ i hi',getElem!_pos _ j hj']at this;simpa using this
 have hdA:d'=L.toArray:=by rw[<-hDL]
 have hLl:L.length=M.length:=hp.symm.length_eq;subst hdA;have e2:(sortWorldK alb 5 w blk off n L.toArray os).heap[blk]? =some (.cells (putCells id off (flatK alb 5 L.toArray) arr) 41 (0,0)):=by
  unfold sortWorldK putRowK;rw[heap_grow_old _ _ (by simpa using hbl)];simp[Sort.putRow,mapBlock,Sort.ahead,Array.getElem?_modify,hb,onCells]
 refine⟨rfl,⟨_,e2,by simp[putCells],λk hk=> ?_⟩,?_,⟨rfl,rfl,rfl⟩,λb hne hlt=> ?_⟩
 ·have hka:k<arr.size:=by omega
  obtain rfl:=hoff (by omega);have hfl:=get_flatK alb 5 L.toArray k (by simpa using hk);simp only[putCells,Array.getElem?_mapIdx,Nat.zero_le,aU,aA,aN,size_flatK];rw[Array.getElem?_eq_getElem hka];simp only[Option.map_some];rw[if_pos (by simpa using hk),hfl,ajj L _ (by omega)];rfl
 ·unfold sortWorldK putRowK
  simp[grow,Sort.putRow,mapBlock,Sort.ahead]
 ·unfold sortWorldK putRowK
  rw[heap_grow_old _ _ (by simpa using hlt)];simp[Sort.putRow,mapBlock,Sort.ahead,Array.getElem?_modify,Ne.symm hne]
end Go.Proofs.YtenfleoejgjklaaGreat
end
section
namespace Go.Proofs.YtenfleoejgjklaaGreat
open Go SE
set_option maxRecDepth 20000 in
theorem anS:bY Tryz.prog 118 apy:=λx hx=>⟨rfl,by
 obtain⟨hs,hp,hlen⟩:=aZ.1 hx;have hcall:nZ Tryz.prog 118:=⟨Tryz.f118,by kernel_rfl,by kernel_rfl,by kernel_rfl⟩;obtain⟨z,M,L⟩:=x;simp only at hs hp hlen;have hLl:L.length=M.length:=hp.symm.length_eq;refine aiU (k:=1) (os:=[]) rfl hcall (λhz hn=> ?_) λhz=> ?_
 ·have hM:M=[]:=List.eq_nil_of_length_eq_zero hn
  have hL:L=[]:=List.eq_nil_of_length_eq_zero (by rw[hLl];exact hn);have hz:z=true:=hz;subst hz hM hL;refine Bl (((anO () trivial).2).mono λv h' hh=> ?_);have hh:(∃y:Unit,True/\v= .tup []/\h'=hO 1 [.abs CB])\/False:=by with_unfolding_all exact hh
  rcases hh with ⟨_,_,rfl,rfl⟩|hh
  ·refine⟨.tup [],hO 1 [wC true []],?_,by with_unfolding_all exact Or.inl ⟨(),trivial,rfl,rfl⟩⟩
   refine uQ (m:=1) rfl rfl (aY _) λi o o' hi hi'=> ?_
   match i,hi,hi' with
   |0,hi,hi'=>cases hi;cases hi';exactλ_ _ _ _ _ _=> .inl ⟨rfl,rfl⟩
  ·exact hh.elim
 ·have hz:z=false:=hz
  subst hz;refine⟨hcall,λρ T w vs hR hl=> ?_⟩;obtain⟨u1,us,hvs,hu1,hl2⟩:=hl;obtain⟨u2,us2,rfl,hu2,hus⟩:=hl2;obtain rfl:us2=[]:=hus;obtain⟨a,p,c,ha,rfl,hnc,hpc⟩:=hu1;obtain⟨fa,ca,rfl,hfa,hca⟩:=hu2;have hfa:fa.toList=[]:=hfa;have hca:ca.toList=[]:=hca;obtain rfl:fa= #[]:=by cases fa;simp_all
  obtain rfl:ca= #[]:=by cases ca;simp_all
  obtain rfl:=vs2 hvs;obtain⟨S,h1,h2,h3,h4,h5⟩:=id hR;obtain⟨a',ha',hO⟩:=h1 0 _ rfl;rw[ha]at ha';cases ha';obtain⟨hb0,hS,arr,ha1,ha2,ha3,ha4⟩:=hO;have hbl:a.blk<w.heap.size:=(h3 0 _ _ rfl hS).2;have hTa:=(h3 0 _ _ rfl hS).1;have ha3:M.length*5<=a.lim:=ha3;have ha2:arr.size=a.lim:=ha2;have hnc:M.length<=c:=hnc;have hb0':a.base=0:=hb0;have hc: ∀k,k<M.length*5->arr[k]? =some ((nthL M (k/5)).cs[k%5]!):=λk hk=>by
   obtain⟨u,hu,hr⟩:=ha4 k _ (SI (nthL M) hk);rw[aA]at hu;have hr:u=_:=hr;rw[hu,hr]
  refine(anR hs hp hlen (off:=p+0) (cap:=c) (λhne=>by obtain⟨e,_⟩:=hpc (by omega);have e:p=a.base:=e;omega) ha1 (by omega) hc).mono ?_
  rintro e w' ⟨rfl,⟨arr',g1,g2,g3⟩,g4,⟨g5,g6,g7⟩,g8⟩
  have hRel:Rel (hO 1 [wC false L]) ρ T w':=by
   let w1:World:={w with heap:=w.heap.setIfInBounds a.blk (.cells arr' 41 (0,0))}
   have r1:Rel ((hO 1 [.room 41 (.row 5 M.length (λq=>(nthL M q).cs) [])]).set 0 (wC false L)) ρ T w1:=hR.upd rfl ha (by simp[w1]) (λb hb=>by simp[w1,Array.getElem?_setIfInBounds,Ne.symm hb]) (λS hS=>hS.2.1) λS hS _=> .inr ⟨rfl,hb0,hS,arr',by simp[w1,hbl],by rw[g2];exact ha2,by show L.length*5<=a.lim;rw[hLl];exact ha3,λk v hk=>by
    rcases Nat.lt_or_ge k (L.length*5)with hk'|hk'
    ·rw[SI (nthL L) hk']at hk
     cases hk;exact⟨_,by rw[aA];exact g3 k hk',rfl⟩
    ·unfold Cs.get at hk
     rw[show Nat.blt k (L.length*5)=false by rw[bV];exact decide_eq_false (by omega)]at hk
     cases hk⟩
   have r2:Rel (hO 1 [wC false L]) ρ T w1:=r1.less (by simp;exact aY _) λj y hj=>by rw[zV (by rfl)];exact hj
   refine anP r2 (by simpa[w1]using g4) λb hb=> ?_
   have hb:b<w.heap.size:=by simpa[w1]using hb
   by_cases e:b=a.blk
   ·subst e;rw[g1];simp[w1,hbl]
   ·rw[g8 b e hb];simp[w1,Array.getElem?_setIfInBounds,Ne.symm e]
  refine⟨ρ,.tup [],_,hO 1 [wC false L],λ_ _=>rfl,aY _,hRel,⟨#[],rfl,rfl⟩,rfl,⟨g4,g5,g6,g7,λb hb=> ?_⟩,by with_unfolding_all exact Or.inl ⟨(),trivial,rfl,rfl⟩⟩;rcases Nat.lt_or_ge b w.heap.size with h'|h'
  ·exact g8 b (λe=>hb (e▸hTa)) h'
  ·exact(hb (h5 b h')).elim⟩
noncomputable def allT:aeR:={X:=ZLq,args:=λ_=>[.ptr 0 0],L:=λx=>x.L,pre:=λ_=>True,outs:=[
 {Y:=Bool,post:=λx z=>Hd (z=true->x.L=[]),ret:=λx z=> .slV z 1 5 x.L.length,L:=λx _=>x.L,m:=2,ex:=λx z=>[wC z x.L]}]}
def ZMs.all(m:ZMs):Lks:=(List.range m.n).map m.lk
def oH(t:iZ):Nat->Lks
 |0=>[]
 |k+1=>oH t k++(t k).all
structure ZAl where
 z:Bool
 M:Lks
 seen:List Nat
def allI(t:iZ)(k:Nat)(s:ZAl):Prop:=(s.z=true->s.M=[])/\ ∃ps:List Nat,ps.Nodup/\(∀p∈ps,p<(t k).n)/\s.seen=ps.map (t k).born/\s.M.Perm (oH t k++ps.map (t k).lk)
def rZ:AV->Nat
 | .lit (.int _ (Int.ofNat n))=>n
 | .slV _ i _ _=>i
 | .ptr i _=>i
 |_=>100000
def gone9:List (Nat×Option dA):=[(9,none),(10,none),(11,none),(12,none),(13,none),(14,none),(15,none),(16,none),(17,none),(18,none),(19,none),(20,none),(21,none),(22,none),(23,none),(24,none),(25,none),(26,none),(27,none),(28,none),(29,none),(30,none)]
noncomputable def apz(x:ZLq×iZ):FuncId->qR:=λf=>bif Nat.beq f 68 then(λb fr h=>bif Nat.beq b 2 then [
 {σ:=ZAl,fr:=λs=>[(3,.slV s.z h.next 5 s.M.length)],ob:=λs=>(rZ (SE.look fr 19),some (.iter (some (rZ (SE.look fr 15)+1)) (x.2 (rZ (SE.look fr 15))).clk s.seen (x.2 (rZ (SE.look fr 15))).clk))::(h.next,some (wC s.z s.M))::gone9,nx:=1,inv:=λs=>Hd (allI x.2 (rZ (SE.look fr 15)) s),meas:=λs=>(x.2 (rZ (SE.look fr 15))).n-s.seen.length}]else [])elseλ_ _ _=>[]
noncomputable def ajk:jv:=[(118,ctrT apy)]
def ajl(a b:Lks):Prop:= ∀q:Nat,q<a.length->(nthL a q).cs=(nthL b q).cs
def Xg(x:ZLq×iZ)(k:Nat):Prop:=(x.2 k).clk=(x.2 k).clk
def ms8d(x:ZLq×iZ):Prop:=(x.2 7).ms=(x.2 7).ms/\(x.2 6).ms=(x.2 6).ms/\(x.2 5).ms=(x.2 5).ms/\(x.2 4).ms=(x.2 4).ms/\(x.2 3).ms=(x.2 3).ms/\(x.2 2).ms=(x.2 2).ms/\(x.2 1).ms=(x.2 1).ms/\(x.2 0).ms=(x.2 0).ms/\as4/\True
def ms8u(y t:iZ):Prop:=(y 0).ms=(t 0).ms/\(y 1).ms=(t 1).ms/\(y 2).ms=(t 2).ms/\(y 3).ms=(t 3).ms/\(y 4).ms=(t 4).ms/\(y 5).ms=(t 5).ms/\(y 6).ms=(t 6).ms/\(y 7).ms=(t 7).ms/\True
def auM(x:ZLq×iZ)(k:Nat)(s:ZAl)(j j1:Nat):Prop:=s.z=s.z/\s.M.length=s.M.length/\List.all [List.take 5 ((x.2 k).lk j1).cs] (λl=>Nat.beq l.length 5&&l.all Value.oneCell')=true/\(2*(s.M.length+1)+1000)*48<=281474976710656/\
 ∃s1:ZAl,Hd (allI x.2 k s1)/\(x.2 k).n-s1.seen.length<(x.2 k).n-s.seen.length/\((s1.z=false/\s1.M.length=s.M.length+1)/\True)/\(s1.z=false/\s1.M.length=s.M.length+[List.take 5 ((x.2 k).lk j1).cs].length/\ ∀q:Nat,q<s1.M.length->(nthL s1.M q).cs=Cs.eff (λq=>(nthL s.M q).cs) [(s.M.length,List.take 5 ((x.2 k).lk j1).cs)] q)/\(Xg x k/\s1.seen=s.seen++[(x.2 k).born j]/\Xg x k)/\ms8d x
def ajm(x:ZLq×iZ)(k:Nat)(s:ZAl)(R:Prop):Prop:=(∀j:Nat,j<(x.2 k).n->(x.2 k).born j<(x.2 k).clk)/\Xg x k/\Xg x k/\
 (∀j:Nat,j<(x.2 k).n->((x.2 k).born j∈s.seen->False)->Xg x k/\(∃j1:Nat,j1<(x.2 k).n/\(s.seen++[(x.2 k).born j]).getLast? =some ((x.2 k).born j1))/\ ∀j1:Nat,j1<(x.2 k).n->(s.seen++[(x.2 k).born j]).getLast? =some ((x.2 k).born j1)->auM x k s j j1)/\
 ((∀j:Nat,j<(x.2 k).n->(x.2 k).born j∈s.seen)->R)
def apA(x:ZLq×iZ)(s:ZAl):Prop:= ∃x1:ZSl,Hd (srt x1.L/\x1.M.Perm x1.L/\x1.M.length<=300)/\((x1.z=s.z/\x1.M.length=s.M.length)/\(Fn.func 119=Fn.func 119/\True/\True)/\True)/\((x1.z=s.z/\x1.M.length=s.M.length/\ajl x1.M s.M)/\True)/\
 ∀_:Unit,True-> ∃y1:Bool×iZ,(Hd (y1.1=true->x.1.L=[])/\Hd (lV x.1.L y1.2))/\(y1.1=s.z/\x.1.L.length=s.M.length)/\as4/\(y1.1=x1.z/\x.1.L.length=x1.L.length/\ajl x.1.L x1.L)/\ms8u y1.2 x.2
def ent0(s:ZAl):Prop:=s.z=true/\s.M.length=0/\ ∀q:Nat,q<s.M.length->(nthL s.M q).cs=[]
def entS(p s:ZAl):Prop:=s.z=p.z/\s.M.length=p.M.length/\ajl s.M p.M
def sizA(z:Bool)(n:Nat)(s:ZAl):Prop:=(s.z=z/\s.M.length=n)/\True
def ash(x:ZLq×iZ):Nat->Nat->Bool->Nat->(ZAl->Prop)->Prop
 |0,_,_,_,_=>True
 |r+1,k,z,n,ent=>w8 k/\(∃s:ZAl,Hd (allI x.2 k s)/\True/\sizA z n s/\ent s/\(Xg x k/\s.seen=[]/\Xg x k)/\ms8d x)/\
  (∀s:ZAl,Hd (allI x.2 k s)->ajm x k s (I64 ((k:Int)+1)/\(match r with
   |0=>apA x s
   |r'+1=>ash x (r'+1) (k+1) s.z s.M.length (entS s))))/\True
theorem asi(x:ZLq×iZ):ash x 8 0 true 0 ent0=wpF Tryz.prog ajk tt (apz x) 200 6 68 (allT.E.args x) (hO 9 (flatP 1 (allT.E.l x))) (λv h'=>endsPK 1 x v h' allT.E.outs):=by kernel_rfl
theorem asj{m:ZMs}{l:ZLnk}:l∈m.all↔ ∃j,j<m.n/\m.lk j=l:=by
 unfold ZMs.all;rw[List.mem_map];exact⟨λ⟨j,hj,e⟩=>⟨j,List.mem_range.1 hj,e⟩,λ⟨j,hj,e⟩=>⟨j,List.mem_range.2 hj,e⟩⟩
section
variable{L:Lks}{t:iZ}
theorem lV.front(h:lV L t): ∀k,k<=8->(oH t k).Nodup/\ ∀l,l∈oH t k↔l∈L/\bkt l.key<k
 |0,_=>⟨List.nodup_nil,λl=>⟨λhl=>absurd hl List.not_mem_nil,λhl=>absurd hl.2 (Nat.not_lt_zero _)⟩⟩
 |k+1,hk=>by
  obtain⟨h1,h2⟩:=h.front k (by omega);have hm: ∀l,l∈(t k).all↔l∈L/\bkt l.key=k:=λl=>by
   rw[asj];constructor
   ·rintro ⟨j,hj,rfl⟩;exact h.mem k (by omega) j hj
   ·rintro ⟨hl,hb⟩
    obtain⟨j,j1,j2⟩:=h.all l hl;rw[hb]at j1 j2;exact⟨j,j1,j2⟩
  refine⟨List.nodup_append.2 ⟨h1,List.pairwise_map.2 (List.nodup_range.imp_of_mem λ{i j} hi hj hne e=>hne (h.inj k (by omega) i j (List.mem_range.1 hi) (List.mem_range.1 hj) (by rw[e]))),λa ha b hb e=> ?_⟩,λl=> ?_⟩
  ·subst e
   have e1:=((h2 a).1 ha).2;have e2:=((hm a).1 hb).2;omega
  ·show l∈oH t k++(t k).all↔_
   rw[List.mem_append,h2,hm];constructor
   ·rintro (⟨a,b⟩|⟨a,b⟩)
    ·exact⟨a,by omega⟩
    ·exact⟨a,by omega⟩
   ·rintro ⟨a,b⟩
    rcases Nat.lt_or_ge (bkt l.key) k with h'|h'
    ·exact .inl ⟨a,h'⟩
    ·exact .inr ⟨a,by omega⟩
theorem lV.auN(h:lV L t):(oH t 8).Perm L:=by
 obtain⟨h1,h2⟩:=h.front 8 (aY _);exact(List.perm_ext_iff_of_nodup h1 (SC h.srt)).2 λl=>by
  rw[h2];exact⟨λh=>h.1,λh=>⟨h,qQ _⟩⟩
theorem lV.asl(h:lV L t){k:Nat}(hk:k<=8):(oH t k).length<=258:=by
 obtain⟨h1,h2⟩:=h.front k hk;exact Nat.le_trans (List.Nodup.length_le_of_subset h1 λl hl=>((h2 l).1 hl).1) h.size
theorem anT{n:Nat}{ps:List Nat}(h1:ps.Nodup)(h2: ∀p∈ps,p<n):ps.length<=n:=by
 have:=List.Nodup.length_le_of_subset h1 (λp hp=>List.mem_range.2 (h2 p hp):ps ⊆ List.range n);simpa using this
theorem ajn{n:Nat}{ps:List Nat}(h1:ps.Nodup)(h2: ∀p∈ps,p<n)(h3: ∀p,p<n->p∈ps):ps.Perm (List.range n):=
 (List.perm_ext_iff_of_nodup h1 List.nodup_range).2 λp=>⟨λh=>List.mem_range.2 (h2 p h),λh=>h3 p (List.mem_range.1 h)⟩
theorem anU{M:Lks}{l:ZLnk}{q:Nat}(hq:q<(M++[l]).length):nthL (M++[l]) q=if q=M.length then l else nthL M q:=by
 unfold nthL;rw[List.length_append]at hq;have hq:q<M.length+1:=hq;rw[List.getD_eq_getElem?_getD,List.getD_eq_getElem?_getD];by_cases e:q=M.length
 ·subst e;rw[if_pos rfl,List.getElem?_append_right (aY _)];simp
 ·rw[if_neg e,List.getElem?_append_left (by omega)]
theorem BO{x:ZLq×iZ}(h:lV x.1.L x.2){k:Nat}(hk:k<8){s:ZAl}(hs:allI x.2 k s){R:Prop}(hR:(s.z=true->s.M=[])->s.M.Perm (oH x.2 (k+1))->R):ajm x k s R:=by
 obtain⟨hz,ps,p1,p2,p3,p4⟩:=hs;have hsl:s.seen.length=ps.length:=by rw[p3,List.length_map]
 have hML:s.M.length=(oH x.2 k).length+ps.length:=by rw[p4.length_eq,List.length_append,List.length_map]
 have notin: ∀j,j<(x.2 k).n->(x.2 k).born j ∉ s.seen->j ∉ ps:=λj hj hn hp=>hn (by rw[p3];exact List.mem_map_of_mem hp)
 refine⟨λj hj=>h.born k hk j hj,rfl,rfl,λj hj hn=>⟨rfl,⟨j,hj,by simp⟩,λj1 hj1 he=> ?_⟩,λhall=> ?_⟩
 ·have he:(x.2 k).born j=(x.2 k).born j1:=by simpa using he
  obtain rfl:=h.bi k hk j j1 hj hj1 he;have hjp:=notin j hj hn;have hlt:ps.length+1<=(x.2 k).n:=anT (ps:=j::ps) (List.nodup_cons.2 ⟨hjp,p1⟩) λp hp=>by
   rcases List.mem_cons.1 hp with rfl|hp
   ·exact hj
   ·exact p2 p hp
  have hfl:(oH x.2 (k+1)).length<=258:=h.asl (by omega);have hfe:(oH x.2 (k+1)).length=(oH x.2 k).length+(x.2 k).n:=by
   show(oH x.2 k++(x.2 k).all).length=_;rw[List.length_append];unfold ZMs.all;simp
  refine⟨rfl,rfl,rfl,by omega,⟨false,s.M++[(x.2 k).lk j],s.seen++[(x.2 k).born j]⟩,aZ.2 ⟨λh=>(by cases h),ps++[j],?_,?_,?_,?_⟩,?_,⟨⟨rfl,by simp⟩,trivial⟩,⟨rfl,by simp,λq hq=> ?_⟩,⟨rfl,rfl,rfl⟩,⟨rfl,rfl,rfl,rfl,rfl,rfl,rfl,rfl,BN,trivial⟩⟩
  ·exact List.nodup_append.2 ⟨p1,by simp,λa ha b hb e=>by simp at hb;subst hb;subst e;exact hjp ha⟩
  ·intro p hp
   rcases List.mem_append.1 hp with hp|hp
   ·exact p2 p hp
   ·simp at hp;subst hp;exact hj
  ·show s.seen++_=_;rw[p3,List.map_append];rfl
  ·show(s.M++[_]).Perm _
   rw[List.map_append,<-List.append_assoc];exact p4.append_right _
  ·show(x.2 k).n-(s.seen++[_]).length<_
   rw[List.length_append,hsl];simp only[List.length_cons,List.length_nil];omega
  ·show(nthL (s.M++[(x.2 k).lk j]) q).cs=bif Nat.beq q s.M.length then List.take 5 ((x.2 k).lk j).cs else(nthL s.M q).cs
   rw[anU hq,dB];by_cases e:q=s.M.length
   ·rw[if_pos e,decide_eq_true e];rfl
   ·rw[if_neg e,decide_eq_false e];rfl
 ·have hp:ps.Perm (List.range (x.2 k).n):=ajn p1 p2 λp hp=>by
   have:=hall p hp;rw[p3]at this;obtain⟨q,hq,he⟩:=List.mem_map.1 this;exact h.bi k hk q p (p2 q hq) hp he▸hq
  exact hR hz (p4.trans ((hp.map _).append_left _))
theorem Xh{x:ZLq×iZ}(h:lV x.1.L x.2){s:ZAl}(hz:s.z=true->s.M=[])(hp:s.M.Perm x.1.L):apA x s:=by
 have hsz:=h.size;have hl:=hp.length_eq
 exact⟨⟨s.z,s.M,x.1.L⟩,aZ.2 ⟨h.srt,hp,by show s.M.length<=300;omega⟩,⟨⟨rfl,rfl⟩,⟨rfl,trivial,trivial⟩,trivial⟩,⟨⟨rfl,rfl,λ_ _=>rfl⟩,trivial⟩,λ_ _=>⟨(s.z,x.2),⟨aZ.2 λe=>by
  have e:=hz e;rw[e]at hp
  exact hp.symm.eq_nil,aZ.2 h⟩,⟨rfl,hl.symm⟩,BN,⟨rfl,rfl,λ_ _=>rfl⟩,⟨rfl,rfl,rfl,rfl,rfl,rfl,rfl,rfl,trivial⟩⟩⟩
theorem adV{x:ZLq×iZ}(h:lV x.1.L x.2)(r:Nat): ∀k z n ent,k+(r+1)=8->(∃s:ZAl,s.seen=[]/\allI x.2 k s/\s.z=z/\s.M.length=n/\ent s)->ash x (r+1) k z n ent:=by
 induction r with
 |zero=>
  rintro k z n ent hk ⟨s0,e1,e2,e3,e4,e5⟩
  refine⟨⟨by omega,by omega⟩,⟨s0,aZ.2 e2,trivial,⟨⟨e3,e4⟩,trivial⟩,e5,⟨rfl,e1,rfl⟩,⟨rfl,rfl,rfl,rfl,rfl,rfl,rfl,rfl,BN,trivial⟩⟩,λs hs=>BO h (by omega) (aZ.1 hs) λhz hp=>⟨by unfold I64;omega,?_⟩,trivial⟩;obtain rfl:k=7:=by omega
  exact Xh h hz (hp.trans h.auN)
 |succ r ih=>
  rintro k z n ent hk ⟨s0,e1,e2,e3,e4,e5⟩
  refine⟨⟨by omega,by omega⟩,⟨s0,aZ.2 e2,trivial,⟨⟨e3,e4⟩,trivial⟩,e5,⟨rfl,e1,rfl⟩,⟨rfl,rfl,rfl,rfl,rfl,rfl,rfl,rfl,BN,trivial⟩⟩,λs hs=>BO h (by omega) (aZ.1 hs) λhz hp=>⟨by unfold I64;omega,?_⟩,trivial⟩;exact ih (k+1) _ _ _ (by omega) ⟨⟨s.z,s.M,[]⟩,rfl,⟨hz,[],List.nodup_nil,λp hp=>absurd hp List.not_mem_nil,rfl,by simpa using hp⟩,rfl,rfl,rfl,rfl,λ_ _=>rfl⟩
end
theorem adW:dY Tryz.prog ajk:= .cons (bM anS) .nil
theorem asn:bY Tryz.prog 68 allT.C:=FB ⟨Tryz.f68,by kernel_rfl,by kernel_rfl,by kernel_rfl⟩ (List.forall_mem_cons.2 ⟨λ_ _=>rfl,λ_ h=>(List.not_mem_nil h).elim⟩) (cO dD mixed adW 9 apz 200 6 (λ_=>⟨rfl,rfl,rfl,rfl⟩) λx hx=>Eq.mp (asi x) (adV (aZ.1 hx.2) 7 0 true 0 ent0 rfl ⟨⟨true,[],[]⟩,rfl,⟨λ_=>rfl,[],List.nodup_nil,λp hp=>absurd hp List.not_mem_nil,rfl,by simp[oH]⟩,rfl,rfl,rfl,rfl,λq hq=>absurd hq (Nat.not_lt_zero q)⟩))
def fO(a:eX):Prop:=a.now=a.now/\a.dur=a.dur/\a.jJ=a.jJ/\(0=0/\a.t=a.t/\a.t=a.t)/\True
def lW(a:eX):Prop:=258=258/\ ∀q:Nat,q<258->[Value.bool (a.L q)]=[Value.bool (a.L q)]
def BP(a:vW):Prop:=(a.c.t=a.c.t/\ ∀q:Nat,q<a.c.t->[Value.int .i64 (ite (q=a.t/\0<=a.l/\a.l<258) (a.c.o q+1) (a.c.o q))]=[Value.int .i64 (a.c.o q)])/\True
def BQ(a:vW):Prop:=258=258/\ ∀q:Nat,q<258->[Value.bool (Bool.or (a.c.N q) (decide (a.l=(q:Int))))]=[Value.bool (a.c.N q)]
def kD(a:eX):Prop:=(a.t=a.t/\ ∀q:Nat,q<a.t->[Value.int .i64 (a.o q)]=[Value.int .i64 (a.o q)])/\True
def gY(a:eX):Prop:=258=258/\ ∀q:Nat,q<258->[Value.bool (a.N q)]=[Value.bool (a.N q)]
def su(a:vW):Prop:=(a.c.t=a.c.t/\ ∀q:Nat,q<a.c.t->[Value.int .i64 (ite (q=a.t/\0<=a.l/\a.l<258) (a.c.o q+1) (a.c.o q))]=Cs.eff (λ(k:Nat)=>[Value.int .i64 (a.c.o k)]) [(0+a.t,[Value.int .i64 (a.c.o (0+a.t)+1)])] q)/\True
def sD(a:eX):Prop:=lW a/\(@Fn.func (107: @FuncId)= @Fn.func (107: @FuncId)/\(0=0/\True)/\True)/\True
def sF(a:eX):Prop:=lW a/\(@Fn.func (165: @FuncId)= @Fn.func (165: @FuncId)/\(0=0/\True)/\True)/\True
def sG(a:eX):Prop:=lW a/\(@Fn.func (212: @FuncId)= @Fn.func (212: @FuncId)/\(0=0/\True)/\True)/\True
def sH(a:eX):Prop:=lW a/\(@Fn.func (57: @FuncId)= @Fn.func (57: @FuncId)/\(0=0/\True)/\True)/\True
def sJ(a:vW):Prop:=258=258/\ ∀q:Nat,q<258->[Value.bool (Bool.or (a.c.N q) (decide (a.l=(q:Int))))]=Cs.eff (λ(k:Nat)=>[Value.bool (a.c.N k)]) [(Int.toNat a.l,[Value.bool true])] q
def sK(a:eX):Prop:=(0=a.t*1/\ ∀q:Nat,q<a.t->[Value.int .i64 (a.o q)]=List.take 1 (List.drop (q*1) (@List.nil Value)))/\kD a
def sN(a:eX):Prop:=(a.t=0+a.t/\ ∀q:Nat,q<a.t->[Value.int .i64 (a.o q)]=[Value.int .i64 (a.o (0+(q-0)))])/\kD a
def nG(a:Int):Prop:=ite (0<=a/\a<258) (0:Int) (2:Int)=2
def kY(a:vW):Prop:=0<=(a.t:Int)/\(a.t:Int)<(a.c.t:Int)
def sO(a:Int):Prop:=ite (0<=a/\a<258) (0:Int) (2:Int)=1
def sQ(a:Int):Prop:=ite (0<=a/\a<258) (0:Int) (2:Int)=0
def sS(a:Nat):Prop:=(2*(0+a)+1000)*8<=281474976710656
def Xi(a:vW):Prop:=(fO a.c/\BQ a/\sH a.c)/\BP a
def LP(a:vW):Prop:=(fO a.c/\BQ a/\sD a.c)/\BP a
def LQ(a:vW):Prop:=(fO a.c/\BQ a/\sF a.c)/\BP a
def LU(a:vW):Prop:=(fO a.c/\BQ a/\sG a.c)/\BP a
def Xj(a:vW):Prop:= ∃y:Unit,True/\nG a.l/\Xi a
def Xk(x:vW):Prop:=
 cP (decide ((x.t:Int)>=(x.c.t:Int))) (∃y:Unit,True/\sO x.l/\Xi x) (cP (decide (x.l<0)) (Xj x) (cP (decide (x.l>=(258:Int))) (Xj x) (kY x/\0+x.t<x.c.t/\I64 (x.c.o (0+x.t)+1)/\kY x/\0+x.t<x.c.t/\(0<=x.l/\x.l<258)/\Int.toNat x.l<258/\ ∃y:Unit,True/\sQ x.l/\(fO x.c/\sJ x/\sH x.c)/\su x)))
theorem adX(x:vW):Xk x=wpF Tryz.prog oZ tt (noA x) 200 5 64 ((oP 1).args x) (hO 2 (flatP 1 ((oP 1).l x))) (λv h'=>endsPK 1 x v h' (oP 1).outs):=by kernel_rfl
def Xl(x:eX):Prop:=
 ∃y:Unit,True/\x.now=x.now/\(fO x/\gY x/\sH x)/\kD x
theorem adY(x:eX):Xl x=wpF Tryz.prog oZ tt (noA x) 200 5 45 ((nS 1).args x) (hO 2 (flatP 1 ((nS 1).l x))) (λv h'=>endsPK 1 x v h' (nS 1).outs):=by kernel_rfl
def Xm(x:eX):Prop:=
 0+x.t<=x.t/\cP (Nat.beq x.t 0) (∃y:Unit,True/\(x.t=0/\0=0/\0=0)/\(fO x/\gY x/\sH x)/\sK x) (sS x.t/\ ∃y:Unit,True/\(0=0/\x.t=0+x.t)/\(fO x/\gY x/\sH x)/\sN x)
theorem adZ(x:eX):Xm x=wpF Tryz.prog oZ tt (noA x) 200 5 204 ((oQ 1).args x) (hO 2 (flatP 1 ((oQ 1).l x))) (λv h'=>endsPK 1 x v h' (oQ 1).outs):=by kernel_rfl
def Xn(x:vW):Prop:=
 cP (decide ((x.t:Int)>=(x.c.t:Int))) (∃y:Unit,True/\sO x.l/\LP x) (cP (decide (x.l<0)) (∃y:Unit,True/\nG x.l/\LP x) (cP (decide (x.l>=(258:Int))) (∃y:Unit,True/\nG x.l/\LP x) (kY x/\0+x.t<x.c.t/\I64 (x.c.o (0+x.t)+1)/\kY x/\0+x.t<x.c.t/\(0<=x.l/\x.l<258)/\Int.toNat x.l<258/\ ∃y:Unit,True/\sQ x.l/\(fO x.c/\sJ x/\sD x.c)/\su x)))
theorem ad1(x:vW):Xn x=wpF Tryz.prog oZ tt (noA x) 200 5 64 ((oP 2).args x) (hO 2 (flatP 1 ((oP 2).l x))) (λv h'=>endsPK 1 x v h' (oP 2).outs):=by kernel_rfl
def Xo(x:eX):Prop:=
 ∃y:Unit,True/\x.now=x.now/\(fO x/\gY x/\sD x)/\kD x
theorem ad2(x:eX):Xo x=wpF Tryz.prog oZ tt (noA x) 200 5 45 ((nS 2).args x) (hO 2 (flatP 1 ((nS 2).l x))) (λv h'=>endsPK 1 x v h' (nS 2).outs):=by kernel_rfl
def Xp(x:eX):Prop:=
 0+x.t<=x.t/\cP (Nat.beq x.t 0) (∃y:Unit,True/\(x.t=0/\0=0/\0=0)/\(fO x/\gY x/\sD x)/\sK x) (sS x.t/\ ∃y:Unit,True/\(0=0/\x.t=0+x.t)/\(fO x/\gY x/\sD x)/\sN x)
theorem ad3(x:eX):Xp x=wpF Tryz.prog oZ tt (noA x) 200 5 204 ((oQ 2).args x) (hO 2 (flatP 1 ((oQ 2).l x))) (λv h'=>endsPK 1 x v h' (oQ 2).outs):=by kernel_rfl
def Xq(x:vW):Prop:=
 cP (decide ((x.t:Int)>=(x.c.t:Int))) (∃y:Unit,True/\sO x.l/\LQ x) (cP (decide (x.l<0)) (∃y:Unit,True/\nG x.l/\LQ x) (cP (decide (x.l>=(258:Int))) (∃y:Unit,True/\nG x.l/\LQ x) (kY x/\0+x.t<x.c.t/\I64 (x.c.o (0+x.t)+1)/\kY x/\0+x.t<x.c.t/\(0<=x.l/\x.l<258)/\Int.toNat x.l<258/\ ∃y:Unit,True/\sQ x.l/\(fO x.c/\sJ x/\sF x.c)/\su x)))
theorem ad4(x:vW):Xq x=wpF Tryz.prog oZ tt (noA x) 200 5 64 ((oP 3).args x) (hO 2 (flatP 1 ((oP 3).l x))) (λv h'=>endsPK 1 x v h' (oP 3).outs):=by kernel_rfl
def Xr(x:eX):Prop:=
 ∃y:Unit,True/\x.now=x.now/\(fO x/\gY x/\sF x)/\kD x
theorem ad5(x:eX):Xr x=wpF Tryz.prog oZ tt (noA x) 200 5 45 ((nS 3).args x) (hO 2 (flatP 1 ((nS 3).l x))) (λv h'=>endsPK 1 x v h' (nS 3).outs):=by kernel_rfl
def Xt(x:eX):Prop:=
 0+x.t<=x.t/\cP (Nat.beq x.t 0) (∃y:Unit,True/\(x.t=0/\0=0/\0=0)/\(fO x/\gY x/\sF x)/\sK x) (sS x.t/\ ∃y:Unit,True/\(0=0/\x.t=0+x.t)/\(fO x/\gY x/\sF x)/\sN x)
theorem ad6(x:eX):Xt x=wpF Tryz.prog oZ tt (noA x) 200 5 204 ((oQ 3).args x) (hO 2 (flatP 1 ((oQ 3).l x))) (λv h'=>endsPK 1 x v h' (oQ 3).outs):=by kernel_rfl
def Xu(x:vW):Prop:=
 cP (decide ((x.t:Int)>=(x.c.t:Int))) (∃y:Unit,True/\sO x.l/\LU x) (cP (decide (x.l<0)) (∃y:Unit,True/\nG x.l/\LU x) (cP (decide (x.l>=(258:Int))) (∃y:Unit,True/\nG x.l/\LU x) (kY x/\0+x.t<x.c.t/\I64 (x.c.o (0+x.t)+1)/\kY x/\0+x.t<x.c.t/\(0<=x.l/\x.l<258)/\Int.toNat x.l<258/\ ∃y:Unit,True/\sQ x.l/\(fO x.c/\sJ x/\sG x.c)/\su x)))
theorem ad7(x:vW):Xu x=wpF Tryz.prog oZ tt (noA x) 200 5 64 ((oP 4).args x) (hO 2 (flatP 1 ((oP 4).l x))) (λv h'=>endsPK 1 x v h' (oP 4).outs):=by kernel_rfl
def Xv(x:eX):Prop:=
 ∃y:Unit,True/\x.now=x.now/\(fO x/\gY x/\sG x)/\kD x
theorem ad8(x:eX):Xv x=wpF Tryz.prog oZ tt (noA x) 200 5 45 ((nS 4).args x) (hO 2 (flatP 1 ((nS 4).l x))) (λv h'=>endsPK 1 x v h' (nS 4).outs):=by kernel_rfl
def Xw(x:eX):Prop:=
 0+x.t<=x.t/\cP (Nat.beq x.t 0) (∃y:Unit,True/\(x.t=0/\0=0/\0=0)/\(fO x/\gY x/\sG x)/\sK x) (sS x.t/\ ∃y:Unit,True/\(0=0/\x.t=0+x.t)/\(fO x/\gY x/\sG x)/\sN x)
theorem ad9(x:eX):Xw x=wpF Tryz.prog oZ tt (noA x) 200 5 204 ((oQ 4).args x) (hO 2 (flatP 1 ((oQ 4).l x))) (λv h'=>endsPK 1 x v h' (oQ 4).outs):=by kernel_rfl
theorem SK(x:vW)(hx:x.c.ok/\x.t<x.c.t):Xk x:=by
 obtain⟨⟨h1,h2,h3,h4,h5,h6⟩,ht⟩:=hx;have hs:=h6 x.t;unfold small at hs;unfold Xk;simp only[sO,Xi,Xj,kY,sQ,fO,sJ,sH,su,lW,nG,BQ,BP];simp only[aZ,aV,aU,aA,aI,bQ,bF,aO,aK,ay,aX,aW,bT,bG,bH,bI,bU,bC,bJ,bn,eH,aH,aN,ah,ak,aB,aF,aC,aG];refine bf (λh=>absurd (aS h) (by omega)) λ_=>bf (λh=> ?_) λh=>bf (λh2=> ?_) λh2=> ?_
 ·have h:=aS h
  exact⟨by rw[if_neg (by omega)],λq hq=>by simp;intro;omega,λq hq=>by rw[if_neg (by omega)]⟩
 ·have h:=aS h2
  exact⟨by rw[if_neg (by omega)],λq hq=>by simp;intro;omega,λq hq=>by rw[if_neg (by omega)]⟩
 ·have h:=aT h
  have h2:=aT h2;have hl:0<=x.l/\x.l<258:=by omega
  refine⟨by omega,by omega,by unfold I64;omega,by omega,by omega,hl,by omega,by rw[if_pos hl],λq hq=> ?_,λq hq=> ?_⟩
  ·simp only[Cs.eff,bV,dh,dB,dI,<-Bool.decide_and]
   by_cases e:q=x.l.toNat
   ·rw[if_pos e,show decide (x.l=(q:Int))=true by simp;omega,Bool.or_true]
   ·rw[if_neg e,show decide (x.l=(q:Int))=false by simp;omega,Bool.or_false]
  ·simp only[Cs.eff,bV,dh,dB,dI,<-Bool.decide_and]
   by_cases e:q=x.t
   ·subst e;rw[if_pos ⟨rfl,hl⟩,if_pos rfl]
   ·rw[if_neg (by omega),if_neg e]
theorem SL(x:eX)(hx:x.ok):Xl x:=by
 unfold Xl;simp only[fO,gY,sH,kD,lW];simp only[aZ,aV,aU,aA,aI,bQ,bF,aO,aK,ay,aX,aW,bT,bG,bH,bI,bU,bC,bJ,bn,eH,aH,aN,ah,ak,aB,aF,aC,aG]
theorem SN(x:eX)(hx:x.ok):Xm x:=by
 have:=hx.1;have:=hx.2.1;unfold Xm;simp only[fO,gY,sH,sK,sS,sN,kD,lW];simp only[aZ,aV,aU,aA,aI,bQ,bF,aO,aK,ay,aX,aW,bT,bG,bH,bI,bU,bC,bJ,bn,eH,aH,aN,ah,ak,aB,aF,aC,aG];exact⟨by omega,bf (λh=>absurd (au h) (by omega)) λ_=>by omega⟩
theorem anV:bY Tryz.prog 64 (oP 1).ctr:=cO dD mixed dP 2 noA 200 5 (λ_=>⟨rfl,rfl,rfl,rfl⟩) λx hx=>Eq.mp (adX x) (SK x (aZ.1 hx))
theorem anW:bY Tryz.prog 45 (nS 1).ctr:=cO dD mixed dP 2 noA 200 5 (λ_=>⟨rfl,rfl,rfl,rfl⟩) λx hx=>Eq.mp (adY x) (SL x (aZ.1 hx))
theorem anX:bY Tryz.prog 204 (oQ 1).ctr:=cO dD mixed dP 2 noA 200 5 (λ_=>⟨rfl,rfl,rfl,rfl⟩) λx hx=>Eq.mp (adZ x) (SN x (aZ.1 hx))
theorem SQ(x:vW)(hx:x.c.ok/\x.t<x.c.t):Xn x:=by
 obtain⟨⟨h1,h2,h3,h4,h5,h6⟩,ht⟩:=hx;have hs:=h6 x.t;unfold small at hs;unfold Xn;simp only[sO,LP,nG,kY,sQ,fO,sJ,sD,su,lW,BQ,BP];simp only[aZ,aV,aU,aA,aI,bQ,bF,aO,aK,ay,aX,aW,bT,bG,bH,bI,bU,bC,bJ,bn,eH,aH,aN,ah,ak,aB,aF,aC,aG];refine bf (λh=>absurd (aS h) (by omega)) λ_=>bf (λh=> ?_) λh=>bf (λh2=> ?_) λh2=> ?_
 ·have h:=aS h
  exact⟨by rw[if_neg (by omega)],λq hq=>by simp;intro;omega,λq hq=>by rw[if_neg (by omega)]⟩
 ·have h:=aS h2
  exact⟨by rw[if_neg (by omega)],λq hq=>by simp;intro;omega,λq hq=>by rw[if_neg (by omega)]⟩
 ·have h:=aT h
  have h2:=aT h2;have hl:0<=x.l/\x.l<258:=by omega
  refine⟨by omega,by omega,by unfold I64;omega,by omega,by omega,hl,by omega,by rw[if_pos hl],λq hq=> ?_,λq hq=> ?_⟩
  ·simp only[Cs.eff,bV,dh,dB,dI,<-Bool.decide_and]
   by_cases e:q=x.l.toNat
   ·rw[if_pos e,show decide (x.l=(q:Int))=true by simp;omega,Bool.or_true]
   ·rw[if_neg e,show decide (x.l=(q:Int))=false by simp;omega,Bool.or_false]
  ·simp only[Cs.eff,bV,dh,dB,dI,<-Bool.decide_and]
   by_cases e:q=x.t
   ·subst e;rw[if_pos ⟨rfl,hl⟩,if_pos rfl]
   ·rw[if_neg (by omega),if_neg e]
theorem SS(x:eX)(hx:x.ok):Xo x:=by
 unfold Xo;simp only[fO,gY,sD,kD,lW];simp only[aZ,aV,aU,aA,aI,bQ,bF,aO,aK,ay,aX,aW,bT,bG,bH,bI,bU,bC,bJ,bn,eH,aH,aN,ah,ak,aB,aF,aC,aG]
theorem SV(x:eX)(hx:x.ok):Xp x:=by
 have:=hx.1;have:=hx.2.1;unfold Xp;simp only[fO,gY,sD,sK,sS,sN,kD,lW];simp only[aZ,aV,aU,aA,aI,bQ,bF,aO,aK,ay,aX,aW,bT,bG,bH,bI,bU,bC,bJ,bn,eH,aH,aN,ah,ak,aB,aF,aC,aG];exact⟨by omega,bf (λh=>absurd (au h) (by omega)) λ_=>by omega⟩
theorem anY:bY Tryz.prog 64 (oP 2).ctr:=cO dD mixed dP 2 noA 200 5 (λ_=>⟨rfl,rfl,rfl,rfl⟩) λx hx=>Eq.mp (ad1 x) (SQ x (aZ.1 hx))
theorem anZ:bY Tryz.prog 45 (nS 2).ctr:=cO dD mixed dP 2 noA 200 5 (λ_=>⟨rfl,rfl,rfl,rfl⟩) λx hx=>Eq.mp (ad2 x) (SS x (aZ.1 hx))
theorem an0:bY Tryz.prog 204 (oQ 2).ctr:=cO dD mixed dP 2 noA 200 5 (λ_=>⟨rfl,rfl,rfl,rfl⟩) λx hx=>Eq.mp (ad3 x) (SV x (aZ.1 hx))
theorem SX(x:vW)(hx:x.c.ok/\x.t<x.c.t):Xq x:=by
 obtain⟨⟨h1,h2,h3,h4,h5,h6⟩,ht⟩:=hx;have hs:=h6 x.t;unfold small at hs;unfold Xq;simp only[sO,LQ,nG,kY,sQ,fO,sJ,sF,su,lW,BQ,BP];simp only[aZ,aV,aU,aA,aI,bQ,bF,aO,aK,ay,aX,aW,bT,bG,bH,bI,bU,bC,bJ,bn,eH,aH,aN,ah,ak,aB,aF,aC,aG];refine bf (λh=>absurd (aS h) (by omega)) λ_=>bf (λh=> ?_) λh=>bf (λh2=> ?_) λh2=> ?_
 ·have h:=aS h
  exact⟨by rw[if_neg (by omega)],λq hq=>by simp;intro;omega,λq hq=>by rw[if_neg (by omega)]⟩
 ·have h:=aS h2
  exact⟨by rw[if_neg (by omega)],λq hq=>by simp;intro;omega,λq hq=>by rw[if_neg (by omega)]⟩
 ·have h:=aT h
  have h2:=aT h2;have hl:0<=x.l/\x.l<258:=by omega
  refine⟨by omega,by omega,by unfold I64;omega,by omega,by omega,hl,by omega,by rw[if_pos hl],λq hq=> ?_,λq hq=> ?_⟩
  ·simp only[Cs.eff,bV,dh,dB,dI,<-Bool.decide_and]
   by_cases e:q=x.l.toNat
   ·rw[if_pos e,show decide (x.l=(q:Int))=true by simp;omega,Bool.or_true]
   ·rw[if_neg e,show decide (x.l=(q:Int))=false by simp;omega,Bool.or_false]
  ·simp only[Cs.eff,bV,dh,dB,dI,<-Bool.decide_and]
   by_cases e:q=x.t
   ·subst e;rw[if_pos ⟨rfl,hl⟩,if_pos rfl]
   ·rw[if_neg (by omega),if_neg e]
theorem SY(x:eX)(hx:x.ok):Xr x:=by
 unfold Xr;simp only[fO,gY,sF,kD,lW];simp only[aZ,aV,aU,aA,aI,bQ,bF,aO,aK,ay,aX,aW,bT,bG,bH,bI,bU,bC,bJ,bn,eH,aH,aN,ah,ak,aB,aF,aC,aG]
theorem S9(x:eX)(hx:x.ok):Xt x:=by
 have:=hx.1;have:=hx.2.1;unfold Xt;simp only[fO,gY,sF,sK,sS,sN,kD,lW];simp only[aZ,aV,aU,aA,aI,bQ,bF,aO,aK,ay,aX,aW,bT,bG,bH,bI,bU,bC,bJ,bn,eH,aH,aN,ah,ak,aB,aF,aC,aG];exact⟨by omega,bf (λh=>absurd (au h) (by omega)) λ_=>by omega⟩
theorem an1:bY Tryz.prog 64 (oP 3).ctr:=cO dD mixed dP 2 noA 200 5 (λ_=>⟨rfl,rfl,rfl,rfl⟩) λx hx=>Eq.mp (ad4 x) (SX x (aZ.1 hx))
theorem an2:bY Tryz.prog 45 (nS 3).ctr:=cO dD mixed dP 2 noA 200 5 (λ_=>⟨rfl,rfl,rfl,rfl⟩) λx hx=>Eq.mp (ad5 x) (SY x (aZ.1 hx))
theorem an3:bY Tryz.prog 204 (oQ 3).ctr:=cO dD mixed dP 2 noA 200 5 (λ_=>⟨rfl,rfl,rfl,rfl⟩) λx hx=>Eq.mp (ad6 x) (S9 x (aZ.1 hx))
theorem Tc(x:vW)(hx:x.c.ok/\x.t<x.c.t):Xu x:=by
 obtain⟨⟨h1,h2,h3,h4,h5,h6⟩,ht⟩:=hx;have hs:=h6 x.t;unfold small at hs;unfold Xu;simp only[sO,LU,nG,kY,sQ,fO,sJ,sG,su,lW,BQ,BP];simp only[aZ,aV,aU,aA,aI,bQ,bF,aO,aK,ay,aX,aW,bT,bG,bH,bI,bU,bC,bJ,bn,eH,aH,aN,ah,ak,aB,aF,aC,aG];refine bf (λh=>absurd (aS h) (by omega)) λ_=>bf (λh=> ?_) λh=>bf (λh2=> ?_) λh2=> ?_
 ·have h:=aS h
  exact⟨by rw[if_neg (by omega)],λq hq=>by simp;intro;omega,λq hq=>by rw[if_neg (by omega)]⟩
 ·have h:=aS h2
  exact⟨by rw[if_neg (by omega)],λq hq=>by simp;intro;omega,λq hq=>by rw[if_neg (by omega)]⟩
 ·have h:=aT h
  have h2:=aT h2;have hl:0<=x.l/\x.l<258:=by omega
  refine⟨by omega,by omega,by unfold I64;omega,by omega,by omega,hl,by omega,by rw[if_pos hl],λq hq=> ?_,λq hq=> ?_⟩
  ·simp only[Cs.eff,bV,dh,dB,dI,<-Bool.decide_and]
   by_cases e:q=x.l.toNat
   ·rw[if_pos e,show decide (x.l=(q:Int))=true by simp;omega,Bool.or_true]
   ·rw[if_neg e,show decide (x.l=(q:Int))=false by simp;omega,Bool.or_false]
  ·simp only[Cs.eff,bV,dh,dB,dI,<-Bool.decide_and]
   by_cases e:q=x.t
   ·subst e;rw[if_pos ⟨rfl,hl⟩,if_pos rfl]
   ·rw[if_neg (by omega),if_neg e]
theorem Td(x:eX)(hx:x.ok):Xv x:=by
 unfold Xv;simp only[fO,gY,sG,kD,lW];simp only[aZ,aV,aU,aA,aI,bQ,bF,aO,aK,ay,aX,aW,bT,bG,bH,bI,bU,bC,bJ,bn,eH,aH,aN,ah,ak,aB,aF,aC,aG]
theorem Tf(x:eX)(hx:x.ok):Xw x:=by
 have:=hx.1;have:=hx.2.1;unfold Xw;simp only[fO,gY,sG,sK,sS,sN,kD,lW];simp only[aZ,aV,aU,aA,aI,bQ,bF,aO,aK,ay,aX,aW,bT,bG,bH,bI,bU,bC,bJ,bn,eH,aH,aN,ah,ak,aB,aF,aC,aG];exact⟨by omega,bf (λh=>absurd (au h) (by omega)) λ_=>by omega⟩
theorem an4:bY Tryz.prog 64 (oP 4).ctr:=cO dD mixed dP 2 noA 200 5 (λ_=>⟨rfl,rfl,rfl,rfl⟩) λx hx=>Eq.mp (ad7 x) (Tc x (aZ.1 hx))
theorem an5:bY Tryz.prog 45 (nS 4).ctr:=cO dD mixed dP 2 noA 200 5 (λ_=>⟨rfl,rfl,rfl,rfl⟩) λx hx=>Eq.mp (ad8 x) (Td x (aZ.1 hx))
theorem an6:bY Tryz.prog 204 (oQ 4).ctr:=cO dD mixed dP 2 noA 200 5 (λ_=>⟨rfl,rfl,rfl,rfl⟩) λx hx=>Eq.mp (ad9 x) (Tf x (aZ.1 hx))
structure ZCk where
 c:eX
 ph:Nat
noncomputable def ZCk.os(k:ZCk):List dA:=k.c.os k.ph
structure alc where
 k:ZCk
 t:Nat
 l:Int
noncomputable def auO:Ctr:=det alc (λx=>[.ptr 0 0,i64 x.t,i64 x.l]) 1 (λx=>[.abs (ownM x.k.os)]) (λx=>Hd (x.k.ph<=4/\x.k.c.ok/\x.t<x.k.c.t)) (λx=>i64 (if 0<=x.l/\x.l<258 then 0 else 2)) 1 (λx=>[.abs (ownM (ZCk.os ⟨x.k.c.note x.t x.l,x.k.ph⟩))])
noncomputable def ajo:Ctr:=det ZCk (λ_=>[.ptr 0 0]) 1 (λk=>[.abs (ownM k.os)]) (λk=>Hd (k.ph<=4/\k.c.ok)) (λk=>u64 k.c.now) 1 (λk=>[.abs (ownM k.os)])
noncomputable def aso:Ctr:=det ZCk (λ_=>[.ptr 0 0]) 1 (λk=>[.abs (ownM k.os)]) (λk=>Hd (k.ph<=4/\k.c.ok)) (λk=> .slW 1 0 1 k.c.t) 2 (λk=>[.abs (ownM k.os),.room 3 (.row 1 k.c.t (λq=>[.int .i64 (k.c.o q)]) [])])
theorem LV{p:Nat}(h:p<=4):p=0\/p=1\/p=2\/p=3\/p=4:=by omega
theorem an7{p:Nat}(h:p<=4):bY Tryz.prog 64 (oP p).ctr:=by
 rcases LV h with rfl|rfl|rfl|rfl|rfl
 ·exact amA
 ·exact anV
 ·exact anY
 ·exact an1
 ·exact an4
theorem an8{p:Nat}(h:p<=4):bY Tryz.prog 45 (nS p).ctr:=by
 rcases LV h with rfl|rfl|rfl|rfl|rfl
 ·exact aaA
 ·exact anW
 ·exact anZ
 ·exact an2
 ·exact an5
theorem an9{p:Nat}(h:p<=4):bY Tryz.prog 204 (oQ p).ctr:=by
 rcases LV h with rfl|rfl|rfl|rfl|rfl
 ·exact amB
 ·exact anX
 ·exact an0
 ·exact an3
 ·exact an6
theorem aoa:bY Tryz.prog 64 auO:=jP λx hx=>by
 obtain⟨h1,h2⟩:=aZ.1 hx
 exact⟨_,an7 h1,rfl,⟨x.k.c,x.t,x.l⟩,aZ.2 h2,rfl,rfl,λv h' hh=>by
  obtain⟨y,h0,e1,e2⟩:=jh hh
  exact eP ⟨y,h0,e1,e2⟩⟩
theorem uZ:bY Tryz.prog 45 ajo:=jP λx hx=>by
 obtain⟨h1,h2⟩:=aZ.1 hx
 exact⟨_,an8 h1,rfl,x.c,aZ.2 h2,rfl,rfl,λv h' hh=>by
  obtain⟨y,h0,e1,e2⟩:=jh hh
  exact eP ⟨y,h0,e1,e2⟩⟩
theorem LW:bY Tryz.prog 204 aso:=jP λx hx=>by
 obtain⟨h1,h2⟩:=aZ.1 hx
 exact⟨_,an9 h1,rfl,x.c,aZ.2 h2,rfl,rfl,λv h' hh=>by
  obtain⟨y,h0,e1,e2⟩:=jh hh
  exact eP ⟨y,h0,e1,e2⟩⟩
structure ZSto where
 d:DevM
 p:ZPool
 r:ZRd
 c:eX
 ph:Nat
 b:iF
 l:ZLn
 L:Lks
 id:Int
 ver:Int
 n:Nat
 e:Nat->ZEff
namespace ZSto
def ck(a:ZSto):ZCk:=⟨a.c,a.ph⟩
noncomputable def os(a:ZSto):List dA:=[.cells 113 (.av [.ptr 1 0,.ptr 3 0,.ptr 4 0,.ptr 5 0,.ptr 6 0,.ptr 7 0,.ptr 8 0,.ptr 9 0,u64 a.id,u64 a.ver,.slV (Nat.beq a.n 0) 10 7 a.n]),
 .cells 145 (.av [.ptr 2 0,u32 1,.lit (.int .i32 0),u32 0]),.abs (ownM a.d.os),.abs (ownM a.p.os),.abs (ownM a.r.os),.abs (ownM a.ck.os),.abs (ownM a.b.os),.abs (tabA a.L),.abs (ordA a.L),.abs (ownM a.l.os),.gX (Nat.beq a.n 0) 95 (.row 7 a.n (λi=>(a.e i).cs) [])]
end ZSto
noncomputable def newSto(n t:Nat)(d:DevM):ZSto:=⟨d,dV ((n-2)/8) ((n-2)/8),amv t,agP t 0,0,aaU,amT,[],0,0,0,λ_=>⟨0,⟨#[]⟩,⟨#[]⟩,0,0,0,0⟩⟩
noncomputable def ajp:jg:={X:=ZNew,args:=λx=>[i64 x.n,i64 x.t],k:=0,l:=λ_=>[],pre:=λx=>Hd (10<=x.n/\x.n<=258/\1<=x.t/\x.t<=4),outs:=[
 {Y:=DevM,post:=λx d=>Hd (d.ok/\d.n=x.n/\d.st=2/\d.fl=2/\d.fe=1),ret:=λ_ _=> .tup [.ptr 0 0,i64 0],m:=1,l:=λx d=>[.m (newSto x.n x.t d).os]}]}
noncomputable def auP:jv:=oZ++[(48,ctrT aij.ctr),(79,ctrT aik.ctr),(80,ctrT RF.ctr),(81,ctrT ail.ctr),(82,ctrT ain.ctr),(85,ctrT newT),(86,ctrT newO),(84,ctrT aio.ctr),(87,ctrT aip.ctr),(148,arx auj)]
def ajq(a:ZNew)(b:Nat)(c:DevM)(d:Prod Nat Int):Prop:=ownM (ZRd.os (amv a.t))=ownM (ZRd.os (amv b))/\ownM (ZCk.os (ZSto.ck (newSto a.n a.t c)))=ownM (eX.os (agP d.1 d.2) 0)/\ownM aaU.os=ownM aaU.os/\tabA (@List.nil ZLnk)=tabA (@List.nil ZLnk)/\ordA (@List.nil ZLnk)=ordA (@List.nil ZLnk)/\ownM amT.os=ownM amT.os/\(Nat.beq 0 0=true/\0=0/\ ∀q:Nat,q<0->[Value.int .i64 0,Value.string (ByteArray.mk #[]),Value.string (ByteArray.mk #[]),Value.int .u64 0,Value.int .u64 0,Value.int .u64 0,Value.int .i64 0]= @List.nil Value)/\True
def ajr:Prop:=0=0/\0=0/\0=0/\0=0/\0=0/\0=0/\0=0/\0=0/\(0:Int)=0/\(0:Int)=0/\(Nat.beq 0 0=true/\0=0)/\True
def LX(a:DevM)(b:Nat):Prop:=Hd (a.ok/\a.n=b/\a.st=2/\a.fl=2/\a.fe=1)
def ajs(x:ZNew):Prop:=
 ∃x_1:Nat,Hd (1<=x_1/\x_1<=258)/\((x_1:Int)=(x.n:Int)/\True)/\True/\ ∀y:Unit,True-> ∃x_2:Nat,Hd (1<=x_2/\x_2<=4)/\((x_2:Int)=(x.t:Int)/\True)/\True/\ ∀y_1:Unit,True-> ∃x_3:DevM,Hd x_3.ok/\(0=0/\True)/\(ownM x_3.os=ownM (DevM.os (yw x_1))/\True)/\ ∀y_2:Unit,True->cP (decide ((x_3.n:Int)<10)) (∃y_3:DevM,LX y_3 x.n/\(False/\(0:Int)=2/\True)/\False/\False/\False/\False/\False/\False/\False/\False/\False/\False/\False/\True) (∃x_4:Prod Nat Int,Hd (1<=x_4.1/\x_4.1<=4/\0<=x_4.2/\x_4.2<=1152921504606846976)/\((x_4.1:Int)=(x.t:Int)/\x_4.2=0/\True)/\True/\ ∀y_3:Unit,True-> ∃x_5:DevM,Hd x_5.ok/\(0=0/\True)/\(ownM x_5.os=ownM x_3.os/\True)/\ ∀y_4:Unit,True->cP (decide ((x_5.n:Int)<10)) (∃x_6:Nat,Hd (1<=x_6/\x_6<=32)/\((x_6:Int)=0/\True)/\True/\ ∀y_5:Unit,True-> ∃x_7:Unit,Hd True/\True/\True/\ ∀y_6:Unit,True-> ∃x_8:Unit,True/\True/\True/\ ∀y_7:Unit,True-> ∃x_9:Unit,True/\True/\True/\ ∀y_8:Unit,True-> ∃x_10:Unit,Hd True/\True/\True/\ ∀y_9:Unit,True-> ∃x_11:DevM,Hd (x_11.ok/\10<=x_11.n/\x_11.wide (10:Int))/\(0=0/\True)/\(ownM x_11.os=ownM x_5.os/\True)/\ ∀y_10:DevM,Hd (y_10.ok/\y_10.n=x_11.n/\y_10.st=x_11.st+2/\y_10.fl=x_11.fl+2/\y_10.fe=x_11.fe+1)-> ∃asq:DevM,LX asq x.n/\(0=0/\(0:Int)=0/\True)/\ajr/\(0=0/\(1:Int)=1/\(0:Int)=0/\(0:Int)=0/\True)/\ownM asq.os=ownM y_10.os/\ownM (ZPool.os (dV ((x.n-2)/8) ((x.n-2)/8)))=ownM (ZPool.os (dV x_6 x_6))/\ajq x x_2 asq x_4) (I64 (DI (x_5.n:Int) (258:Int)-2)/\((8:Int)=0->False)/\
 I64 (Int.tdiv (DI (x_5.n:Int) (258:Int)-2) (8:Int))/\ ∃x_6:Nat,Hd (1<=x_6/\x_6<=32)/\((x_6:Int)=Int.tdiv (DI (x_5.n:Int) (258:Int)-2) (8:Int)/\True)/\True/\ ∀y_5:Unit,True-> ∃x_7:Unit,Hd True/\True/\True/\ ∀y_6:Unit,True-> ∃x_8:Unit,True/\True/\True/\ ∀y_7:Unit,True-> ∃x_9:Unit,True/\True/\True/\ ∀y_8:Unit,True-> ∃x_10:Unit,Hd True/\True/\True/\ ∀y_9:Unit,True-> ∃x_11:DevM,Hd (x_11.ok/\10<=x_11.n/\x_11.wide (10:Int))/\(0=0/\True)/\(ownM x_11.os=ownM x_5.os/\True)/\ ∀y_10:DevM,Hd (y_10.ok/\y_10.n=x_11.n/\y_10.st=x_11.st+2/\y_10.fl=x_11.fl+2/\y_10.fe=x_11.fe+1)-> ∃asq:DevM,LX asq x.n/\(0=0/\(0:Int)=0/\True)/\ajr/\(0=0/\(1:Int)=1/\(0:Int)=0/\(0:Int)=0/\True)/\ownM asq.os=ownM y_10.os/\ownM (ZPool.os (dV ((x.n-2)/8) ((x.n-2)/8)))=ownM (ZPool.os (dV x_6 x_6))/\ajq x x_2 asq x_4))
theorem ajt(x:ZNew):ajs x=wpF Tryz.prog auP tt (noA x) 200 5 13 (ajp.args x) (hO 0 (flatP 0 (ajp.l x))) (λv h'=>endsPK 0 x v h' ajp.outs):=by kernel_rfl
theorem Xx(x:ZNew)(hx:10<=x.n/\x.n<=258/\1<=x.t/\x.t<=4):ajs x:=by
 unfold ajs;simp only[LX,ajr,ajq];simp only[aZ,aV,aU,aA,aI,bQ,bF,aO,aK,ay,aX,aW,bT,bG,bH,bI,bU,bC,bJ,bn,eH,aH,aN,ah,ak,aB,aF,aC,aG];have h1:=WL x.n hx.2.1;have hm:DI (x.n:Int) 258=x.n:=by unfold DI;omega
 have hd:((x.n:Int)-2).tdiv 8=(((x.n-2)/8:Nat):Int):=by
  rw[show(x.n:Int)-2=((x.n-2:Nat):Int) by omega];exact(Int.ofNat_tdiv (x.n-2) 8).symm
 refine⟨x.n,⟨by omega,by omega⟩,rfl,x.t,⟨by omega,by omega⟩,rfl,yw x.n,h1,rfl,bf (λh=>absurd (aS h) (by show¬((x.n:Int)<10);omega)) λ_=>⟨(x.t,0),⟨by show 1<=x.t;omega,by show x.t<=4;omega,Int.le_refl 0,show(0:Int)<=1152921504606846976 by decide⟩,⟨rfl,rfl⟩,yw x.n,h1,rfl,bf (λh=>absurd (aS h) (by show¬((x.n:Int)<10);omega)) λ_=> ?_⟩⟩;show I64 (DI (x.n:Int) 258-2)/\_;rw[show DI ((yw x.n).n:Int) 258=x.n from hm,hd];refine⟨by show I64 (DI (x.n:Int) 258-2);rw[hm];unfold I64;omega,by omega,by unfold I64;omega,(x.n-2)/8,by omega,rfl,yw x.n,⟨h1,by show 10<=x.n;omega,⟨show(0:Int)+10<1099511627776 by decide,show(0:Int)+10<1099511627776 by decide,show(0:Int)+10<1099511627776 by decide⟩⟩,rfl,λy hy=>⟨y,⟨hy.1,hy.2.1,hy.2.2.1,hy.2.2.2.1,hy.2.2.2.2⟩,?_⟩⟩
 repeat' (first|exact rfl|exactλq hq=>absurd hq (Nat.not_lt_zero q)|refine And.intro ?_ ?_)
theorem aob:dY Tryz.prog auP:= .append dP (.cons (bM amU) (.cons (bM amV) (.cons (bM amY) (.cons (bM amW) (.cons (bM amX) (.cons (bM asa) (.cons (bM asb) (.cons (bM amZ) (.cons (bM am0) (.cons (λ_ _ _ hq=>amN am1 _ _ _ hq) .nil))))))))))
theorem asr:bY Tryz.prog 13 ajp.ctr:=cO dD mixed aob 0 noA 200 5 (λ_=>⟨rfl,rfl,rfl,rfl⟩) λx hx=>Eq.mp (ajt x) (Xx x (aZ.1 hx))
structure ZCh where
 kind:Int
 key:ByteArray
 value:ByteArray
 had:Bool
 old:ZLnk
 line:Int
 cls:Int
namespace ZCh
def av(x:ZCh):AV:= .agg [i64 x.kind,.lit (.string x.key),.lit (.string x.value),boo x.had,.lit (.string x.old.key),u64 x.old.id,u64 x.old.ver,i64 x.old.line,i64 x.old.cls,i64 x.line,i64 x.cls]
end ZCh
structure ZCg where
 a:ZSto
 t:Nat
 e:Int
 x:ZCh
 ln:Nat
 g:Int
namespace ZCg
def av(y:ZCg)(k:Int)(had:Bool):AV:=({y.x with kind:=k,had:=had,line:=y.ln}:ZCh).av
def gr(y:ZCg):Int:=if y.g=0 then y.a.ver+1 else y.g
def idP(y:ZCg)(had:Bool):Int:=bif had then y.x.old.id else y.a.id+1
def blk(y:ZCg)(k:Int)(had:Bool):ZBlk:=if k=2 then⟨y.x.cls,1,y.idP had,y.a.ver+1,y.e,y.x.key,y.x.value⟩else if k=4 then⟨y.x.cls,2,y.a.id+1,y.a.ver+1,y.e,⟨#[]⟩,y.x.value⟩else⟨0,3,y.x.old.id,y.a.ver+1,y.e,⟨#[]⟩,⟨#[]⟩⟩
def lnk(y:ZCg)(k:Int)(had:Bool):ZLnk:=⟨(y.blk k had).key,(y.blk k had).id,y.a.ver+1,y.ln,(y.blk k had).cls⟩
def eff(y:ZCg)(k:Int)(had:Bool):ZEff:=if k=2 then⟨1,y.x.key,y.x.value,y.idP had,y.a.ver+1,y.e,y.gr⟩else if k=3 then⟨2,y.x.key,⟨#[]⟩,y.x.old.id,y.a.ver+1,y.e,y.gr⟩else if k=4 then⟨3,⟨#[]⟩,y.x.value,y.a.id+1,y.a.ver+1,y.e,y.gr⟩else⟨4,⟨#[]⟩,⟨#[]⟩,y.x.old.id,y.a.ver+1,y.e,y.gr⟩
def ent(y:ZCg)(k:Int):iq:=⟨y.x.old.line,y.x.old.cls,y.a.r.now,y.e,if k=2 then-1 else y.ln⟩
noncomputable def res(y:ZCg)(k:Int)(had:Bool):ZSto:={y.a with
 d:=y.a.d.store y.ln 0 64 (y.blk k had).enc
 c:=y.a.c.notes y.t y.ln (y.blk k had).dK
 b:=if had=true/\k≠4 then y.a.b.put (y.ent k)else y.a.b
 l:=if k=4 then y.a.l.push (y.lnk k had)else if k=5 then y.a.l.pop else y.a.l
 L:=if k=2 then jy y.a.L (y.lnk k had)else if k=3 then fU y.a.L y.x.key else y.a.L
 id:=if k=4\/k=2/\had=false then y.a.id+1 else y.a.id
 ver:=y.a.ver+1
 n:=y.a.n+1
 e:=λi=>if i=y.a.n then y.eff k had else y.a.e i}
def ok(y:ZCg)(k:Int)(had:Bool):Prop:=y.a.d.ok/\y.a.c.ok/\y.a.ph<=4/\y.t<y.a.c.t/\y.ln<y.a.d.n/\y.a.d.n<=258/\(y.blk k had).may/\y.x.key.size<1099511627776/\y.x.value.size<1099511627776/\0<=y.a.ver/\y.a.ver<1152921504606846976/\0<=y.a.id/\y.a.id<1152921504606846976/\0<=y.g/\y.g<1152921504606846977/\y.a.n<1099511627776/\
 (∀q,y.a.c.o q+8<1099511627776)/\(had=true->y.a.b.ok/\y.a.r.ok/\(y.ent k).may)/\(k=2->(jy y.a.L (y.lnk k had)).length<=258)/\(k=4\/k=5->y.a.l.ok)
end ZCg
noncomputable def aoc(k:Int)(had:Bool):jg:=ql ZCg (λy=>[.ptr 0 0,i64 y.t,u64 y.e,y.av k had,u64 y.g]) 1 (λy=>[.m y.a.os]) (λy=>Hd (y.ok k had)) (λy=>u64 (y.a.ver+1)) 1 (λy=>[.m (y.res k had).os])
noncomputable def anCg(k:Int)(had:Bool)(y:ZCg):FuncId->qR:=λf=>bif Nat.beq f 210 then(λb _ _=>
 bif Nat.beq b 1007 then [{σ:=Unit,fr:=λ_=>[(4,u64 y.gr)],ob:=λ_=>[],inv:=λ_=>Hd True,meas:=λ_=>0}]else
 bif Nat.beq b 0 then [{σ:=Nat,fr:=λi=>[(67,i64 i)],ob:=λi=>[(5,some (.abs (ownM (ZCk.os ⟨y.a.c.notes y.t y.ln i,y.a.ph⟩))))],inv:=λi=>Hd (i<=(y.blk k had).dK),meas:=λi=>(y.blk k had).dK-i}]else [])elseλ_ _ _=>[]
noncomputable def apB:aeR:={X:=ZTq,args:=λx=>[.ptr 0 0,.lit (.string x.s)],L:=λx=>x.L,pre:=λx=>Hd (x.s.size<1099511627776),outs:=[
 {Y:=ZLnk×Bool,post:=λ_ _=>True,ret:=λ_ y=> .tup [y.1.av,boo y.2],L:=λx _=>fU x.L x.s,m:=1,ex:=λ_ _=>[]}]}
theorem aod{L:Lks}{s:ByteArray}(h:gI L s=none):fU L s=L:=List.filter_eq_self.2 λl hl=>by
 have:=uV h l hl;rw[decide_eq_false this];rfl
theorem aju:bY Tryz.prog 252 apB.C:=jP λx hx=>⟨_,anB,rfl,x,hx,rfl,rfl,λv h' hh=>by
 rcases pR hh with ⟨y,h0,e1,e2⟩|⟨y,h0,e1,e2⟩
 ·have e2:h'=hO 1 [.abs (tabA x.L)]:=e2
  refine eP ⟨(iT,false),trivial,e1,?_⟩;show h'=hO 1 [.abs (tabA (fU x.L x.s))];rw[aod (aZ.1 h0)];exact e2
 ·exact eP ⟨(y,true),trivial,e1,e2⟩⟩
noncomputable def asu:jv:=oZ++[(113,aiv),(180,ctrT apg),(62,ctrT I9.ctr),(64,ctrT auO),(250,ctrT auB.C),(251,ctrT setO.C),(252,ctrT apB.C),(253,ctrT auI.C),(254,ctrT Q7.ctr),(255,ctrT aaF.ctr),(66,ctrT ahB.ctr),(67,ctrT atY.ctr)]
def wE(a:Nat):Prop:=Nat.beq a 0=Nat.beq a 0
def BR(a:ZSto):Prop:=wE a.n/\a.n=a.n/\ ∀q:Nat,q<a.n->[Value.int .i64 (ZEff.kind (a.e q)),Value.string (ZEff.key (a.e q)),Value.string (ZEff.value (a.e q)),Value.int .u64 (ZEff.id (a.e q)),Value.int .u64 (ZEff.ver (a.e q)),Value.int .u64 (ZEff.epoch (a.e q)),Value.int .i64 (ZEff.group (a.e q))]=[Value.int .i64 (ZEff.kind (a.e q)),Value.string (ZEff.key (a.e q)),Value.string (ZEff.value (a.e q)),Value.int .u64 (ZEff.id (a.e q)),Value.int .u64 (ZEff.ver (a.e q)),Value.int .u64 (ZEff.epoch (a.e q)),Value.int .i64 (ZEff.group (a.e q))]
def abj(a:ZCg):Prop:=a.x.old.key=a.x.old.key/\a.x.old.id=a.x.old.id/\a.x.old.ver=a.x.old.ver/\a.x.old.line=a.x.old.line/\a.x.old.cls=a.x.old.cls/\(a.ln:Int)=(a.ln:Int)/\a.x.cls=a.x.cls/\True
def FN(a:Int):Prop:=IntKind.wrap .u64 (a+1)=IntKind.wrap .u64 (a+1)
def FQ(a:Int):Prop:=a+1=IntKind.wrap .u64 (a+1)
def sU(a:ZPool):Prop:=ownM a.os=ownM a.os
def zY:Prop:=0=0/\(1:Int)=1/\(0:Int)=0/\(0:Int)=0/\True
def LY(a:Nat):Prop:=AV.slV (Nat.beq a 0) 10 7 a=AV.slV (Nat.beq a 0) 10 7 a/\True
def Xy(a:Int):Prop:=AV.lit (Value.int .i64 a)=AV.lit (Value.int .i64 a)
def ajv(a:ZLnk):Prop:=Xy a.cls/\Xy a.line/\AV.ptr 6 0=AV.ptr 6 0/\True
def yY(a:Nat):Prop:=Nat.beq (a+1) 0=false
def LZ(a:ZSto):Prop:=FQ a.ver/\(yY a.n/\a.n+1=a.n+1)/\True
def qE(a:Int)(b:Int):Prop:=a=IntKind.wrap .u64 (b+1)
def FT(a:ZLnk)(b:ZCg):Prop:=qE a.ver b.a.ver/\a.line=(b.ln:Int)/\a.cls=b.x.cls/\True
def L6(a:Nat):Prop:=(2*(a+1)+1000)*72<=281474976710656
def Xz(a:ZCg)(b:lN)(c:Nat):Prop:=I64 a.gr/\ ∃x_2:H7,Hd (x_2.l.key.size<1099511627776/\List.length (jy x_2.L x_2.l)<=258)/\(0=0/\(x_2.l.key=a.x.key/\x_2.l.id=a.x.old.id/\FT x_2.l a)/\True)/\(tabA x_2.L=tabA a.a.L/\True)/\ ∀y_3:Unit,True->True/\ ∃x_3:H7,Hd (x_3.l.key.size<1099511627776/\List.length (jy x_3.L x_3.l)<=300)/\(0=0/\(x_3.l.key=a.x.key/\x_3.l.id=a.x.old.id/\FT x_3.l a)/\True)/\(ordA x_3.L=ordA a.a.L/\True)/\ ∀y_4:Unit,True->True/\ ∃x_4:ZRd,Hd x_4.ok/\(0=0/\True)/\(ownM x_4.os=ownM a.a.r.os/\True)/\ ∀y_5:Unit,True->ajv a.x.old/\ ∃x_5:CJ,Hd (x_5.b.ok/\x_5.x.may)/\(0=0/\(x_5.x.line=a.x.old.line/\x_5.x.cls=a.x.old.cls/\x_5.x.r=x_4.now/\x_5.x.d=a.e/\x_5.x.anti=(-(1:Int))/\True)/\True)/\(ownM x_5.b.os=ownM a.a.b.os/\True)/\ ∀y_6:Unit,True->True/\LY a.a.n/\wE a.a.n/\a.a.n=a.a.n/\List.all [List.take 7 [Value.int .i64 1,Value.string a.x.key,Value.string a.x.value,Value.int .u64 a.x.old.id,Value.int .u64 (IntKind.wrap .u64 (a.a.ver+1)),Value.int .u64 a.e,Value.int .i64 a.gr]] (λ(l:List Value)=>Nat.beq (List.length l) 7&&List.all l Value.oneCell')=true/\L6 a.a.n/\True/\True/\ ∃y_7:Unit,True/\FQ a.a.ver/\(0=0/\0=0/\0=0/\0=0/\0=0/\0=0/\0=0/\0=0/\ite ((2:Int)=4\/(2:Int)=2/\true=false) (a.a.id+1) a.a.id=a.a.id/\LZ a.a)/\zY/\ownM (DevM.os (a.a.d.store a.ln 0 64 (ZBlk.enc (a.blk (2:Int) true))))=ownM (DevM.os (b.d.store b.k b.a b.b.n (λ(q:Nat)=>b.b.g (b.b.q+q))))/\sU a.a.p/\ownM a.a.r.os=ownM x_4.os/\ownM (ZCk.os (ZSto.ck (a.res (2:Int) true)))=ownM (ZCk.os (ZCk.mk (a.a.c.notes a.t (a.ln:Int) c) a.a.ph))/\ownM (iF.os (ite (true=true/\
 (2:Int)≠(4:Int)) (a.a.b.put (a.ent (2:Int))) a.a.b))=ownM (iF.os (x_5.b.put x_5.x))/\tabA (ite ((2:Int)=2) (jy a.a.L (a.lnk (2:Int) true)) (ite ((2:Int)=3) (fU a.a.L a.x.key) a.a.L))=tabA (jy x_2.L x_2.l)/\ordA (ite ((2:Int)=2) (jy a.a.L (a.lnk (2:Int) true)) (ite ((2:Int)=3) (fU a.a.L a.x.key) a.a.L))=ordA (jy x_3.L x_3.l)/\ownM (ZLn.os (ite ((2:Int)=4) (a.a.l.push (a.lnk (2:Int) true)) (ite ((2:Int)=5) a.a.l.pop a.a.l)))=ownM a.a.l.os/\(yY a.a.n/\a.a.n+1=a.a.n+List.length [List.take 7 [Value.int .i64 1,Value.string a.x.key,Value.string a.x.value,Value.int .u64 a.x.old.id,Value.int .u64 (IntKind.wrap .u64 (a.a.ver+1)),Value.int .u64 a.e,Value.int .i64 a.gr]]/\ ∀q:Nat,q<a.a.n+1->[Value.int .i64 (ZEff.kind (ite (q=a.a.n) (a.eff (2:Int) true) (a.a.e q))),Value.string (ZEff.key (ite (q=a.a.n) (a.eff (2:Int) true) (a.a.e q))),Value.string (ZEff.value (ite (q=a.a.n) (a.eff (2:Int) true) (a.a.e q))),Value.int .u64 (ZEff.id (ite (q=a.a.n) (a.eff (2:Int) true) (a.a.e q))),Value.int .u64 (ZEff.ver (ite (q=a.a.n) (a.eff (2:Int) true) (a.a.e q))),Value.int .u64 (ZEff.epoch (ite (q=a.a.n) (a.eff (2:Int) true) (a.a.e q))),Value.int .i64 (ZEff.group (ite (q=a.a.n) (a.eff (2:Int) true) (a.a.e q)))]=Cs.eff (λ(i:Nat)=>ZEff.cs (a.a.e i)) [(a.a.n,List.take 7 [Value.int .i64 1,Value.string a.x.key,Value.string a.x.value,Value.int .u64 a.x.old.id,Value.int .u64 (IntKind.wrap .u64 (a.a.ver+1)),Value.int .u64 a.e,Value.int .i64 a.gr])] q)/\True
def L8(a:lN):Prop:=ownM (DevM.os (a.d.store a.k a.a a.b.n (λ(q:Nat)=>a.b.g (a.b.q+q))))=ownM (DevM.os (a.d.store a.k a.a a.b.n (λ(q:Nat)=>a.b.g (a.b.q+q))))
def XA(a:ZSto):Prop:=zY/\(0=0/\0=0/\0=0/\0=0/\0=0/\0=0/\0=0/\0=0/\FN a.id/\FN a.ver/\(wE a.n/\a.n=a.n)/\True)/\True
def XB(a:ZSto)(b:lN):Prop:=ownM a.r.os=ownM a.r.os/\sU a.p/\L8 b/\XA a
def XC(a:ZSto):Prop:=zY/\(0=0/\0=0/\0=0/\0=0/\0=0/\0=0/\0=0/\0=0/\a.id=a.id/\FN a.ver/\(wE a.n/\a.n=a.n)/\True)/\True
def XD(a:ZLnk)(b:ZCg):Prop:=qE a.id b.a.id/\FT a b
def XE(a:ZCg)(b:lN)(c:Nat):Prop:=I64 a.gr/\ ∃x_2:H7,Hd (x_2.l.key.size<1099511627776/\List.length (jy x_2.L x_2.l)<=258)/\(0=0/\(x_2.l.key=a.x.key/\XD x_2.l a)/\True)/\(tabA x_2.L=tabA a.a.L/\True)/\ ∀y_3:Unit,True->True/\ ∃x_3:H7,Hd (x_3.l.key.size<1099511627776/\List.length (jy x_3.L x_3.l)<=300)/\(0=0/\(x_3.l.key=a.x.key/\XD x_3.l a)/\True)/\(ordA x_3.L=ordA a.a.L/\True)/\ ∀y_4:Unit,True->True/\LY a.a.n/\wE a.a.n/\a.a.n=a.a.n/\List.all [List.take 7 [Value.int .i64 1,Value.string a.x.key,Value.string a.x.value,Value.int .u64 (IntKind.wrap .u64 (a.a.id+1)),Value.int .u64 (IntKind.wrap .u64 (a.a.ver+1)),Value.int .u64 a.e,Value.int .i64 a.gr]] (λ(l:List Value)=>Nat.beq (List.length l) 7&&List.all l Value.oneCell')=true/\L6 a.a.n/\True/\True/\ ∃y_5:Unit,True/\FQ a.a.ver/\(0=0/\0=0/\0=0/\0=0/\0=0/\0=0/\0=0/\0=0/\ite ((2:Int)=4\/(2:Int)=2/\false=false) (a.a.id+1) a.a.id=IntKind.wrap .u64 (a.a.id+1)/\LZ a.a)/\zY/\ownM (DevM.os (a.a.d.store a.ln 0 64 (ZBlk.enc (a.blk (2:Int) false))))=ownM (DevM.os (b.d.store b.k b.a b.b.n (λ(q:Nat)=>b.b.g (b.b.q+q))))/\sU a.a.p/\ownM a.a.r.os=ownM a.a.r.os/\ownM (ZCk.os (ZSto.ck (a.res (2:Int) false)))=ownM (ZCk.os (ZCk.mk (a.a.c.notes a.t (a.ln:Int) c) a.a.ph))/\ownM (iF.os (ite (false=true/\(2:Int)≠(4:Int)) (a.a.b.put (a.ent (2:Int))) a.a.b))=ownM a.a.b.os/\tabA (ite ((2:Int)=2) (jy a.a.L (a.lnk (2:Int) false)) (ite ((2:Int)=3) (fU a.a.L a.x.key) a.a.L))=tabA (jy x_2.L x_2.l)/\ordA (ite ((2:Int)=2) (jy a.a.L (a.lnk (2:Int) false)) (ite ((2:Int)=3) (fU a.a.L a.x.key) a.a.L))=ordA (jy x_3.L x_3.l)/\
 ownM (ZLn.os (ite ((2:Int)=4) (a.a.l.push (a.lnk (2:Int) false)) (ite ((2:Int)=5) a.a.l.pop a.a.l)))=ownM a.a.l.os/\(yY a.a.n/\a.a.n+1=a.a.n+List.length [List.take 7 [Value.int .i64 1,Value.string a.x.key,Value.string a.x.value,Value.int .u64 (IntKind.wrap .u64 (a.a.id+1)),Value.int .u64 (IntKind.wrap .u64 (a.a.ver+1)),Value.int .u64 a.e,Value.int .i64 a.gr]]/\ ∀q:Nat,q<a.a.n+1->[Value.int .i64 (ZEff.kind (ite (q=a.a.n) (a.eff (2:Int) false) (a.a.e q))),Value.string (ZEff.key (ite (q=a.a.n) (a.eff (2:Int) false) (a.a.e q))),Value.string (ZEff.value (ite (q=a.a.n) (a.eff (2:Int) false) (a.a.e q))),Value.int .u64 (ZEff.id (ite (q=a.a.n) (a.eff (2:Int) false) (a.a.e q))),Value.int .u64 (ZEff.ver (ite (q=a.a.n) (a.eff (2:Int) false) (a.a.e q))),Value.int .u64 (ZEff.epoch (ite (q=a.a.n) (a.eff (2:Int) false) (a.a.e q))),Value.int .i64 (ZEff.group (ite (q=a.a.n) (a.eff (2:Int) false) (a.a.e q)))]=Cs.eff (λ(i:Nat)=>ZEff.cs (a.a.e i)) [(a.a.n,List.take 7 [Value.int .i64 1,Value.string a.x.key,Value.string a.x.value,Value.int .u64 (IntKind.wrap .u64 (a.a.id+1)),Value.int .u64 (IntKind.wrap .u64 (a.a.ver+1)),Value.int .u64 a.e,Value.int .i64 a.gr])] q)/\True
def L9(a:ZCg):Prop:=FN a.a.ver/\a.e=a.e/\a.x.key=a.x.key/\a.x.value=a.x.value/\True
def XF(a:ZSto)(b:lN):Prop:=ownM a.r.os=ownM a.r.os/\sU a.p/\L8 b/\XC a
def kP(a:ZCg):Prop:=a.x.cls=a.x.cls/\(1:Int)=1/\a.x.old.id=a.x.old.id/\L9 a
def XG(a:ZSto):Prop:=BR a/\ownM a.l.os=ownM a.l.os/\ordA a.L=ordA a.L/\tabA a.L=tabA a.L/\ownM a.b.os=ownM a.b.os/\ownM a.ck.os=ownM a.ck.os/\ownM a.r.os=ownM a.r.os/\sU a.p/\ownM a.d.os=ownM a.d.os/\XA a
def XH(a:ZSto):Prop:=BR a/\ownM a.l.os=ownM a.l.os/\ordA a.L=ordA a.L/\tabA a.L=tabA a.L/\ownM a.b.os=ownM a.b.os/\ownM a.ck.os=ownM a.ck.os/\ownM a.r.os=ownM a.r.os/\sU a.p/\ownM a.d.os=ownM a.d.os/\XC a
def ajw(a:ZCg):Prop:=a.x.key=a.x.key/\a.x.value=a.x.value/\true=true/\abj a
def ajx(a:ZCg):Prop:=a.x.key=a.x.key/\a.x.value=a.x.value/\false=false/\abj a
def Mc(a:ZCg)(b:Nat)(c:alc):Prop:=ownM (ZCk.os (ZCk.mk (a.a.c.notes a.t (a.ln:Int) b) a.a.ph))=ownM (ZCk.os (ZCk.mk (c.k.c.note c.t c.l) c.k.ph))
def XI(a:ZCg)(b:Nat)(c:alc)(d:lN):Prop:=BR a.a/\ownM a.a.l.os=ownM a.a.l.os/\ordA a.a.L=ordA a.a.L/\tabA a.a.L=tabA a.a.L/\ownM a.a.b.os=ownM a.a.b.os/\Mc a b c/\XB a.a d
def XJ(a:ZCg)(b:Nat)(c:alc)(d:lN):Prop:=BR a.a/\ownM a.a.l.os=ownM a.a.l.os/\ordA a.a.L=ordA a.a.L/\tabA a.a.L=tabA a.a.L/\ownM a.a.b.os=ownM a.a.b.os/\Mc a b c/\XF a.a d
def zZ(a:ZBlk):Prop:=64=64/\ ∀q:Nat,q<64->[Value.int .u8 (a.enc q)]=[Value.int .u8 (a.enc q)]
def Aa(a:Nat):Prop:=AV.lit (Value.int .i64 (a:Int))=AV.lit (Value.int .i64 (a:Int))/\True
def kQ(a:ZCg):Prop:=a.x.cls=a.x.cls/\(1:Int)=1/\FN a.a.id/\L9 a
def XK(a:ZCg)(b:Nat)(c:lN):Prop:=BR a.a/\ownM a.a.l.os=ownM a.a.l.os/\ordA a.a.L=ordA a.a.L/\tabA a.a.L=tabA a.a.L/\ownM a.a.b.os=ownM a.a.b.os/\ownM (ZCk.os (ZCk.mk (a.a.c.notes a.t (a.ln:Int) b) a.a.ph))=ownM a.a.ck.os/\XB a.a c
def XL(a:ZCg)(b:Nat)(c:lN):Prop:=BR a.a/\ownM a.a.l.os=ownM a.a.l.os/\ordA a.a.L=ordA a.a.L/\tabA a.a.L=tabA a.a.L/\ownM a.a.b.os=ownM a.a.b.os/\ownM (ZCk.os (ZCk.mk (a.a.c.notes a.t (a.ln:Int) b) a.a.ph))=ownM a.a.ck.os/\XF a.a c
def Ac(a:lN)(b:Nat):Prop:=0=0/\(a.k:Int)=(b:Int)/\(a.a:Int)=0/\(a.b.q=0/\a.b.n=64)/\True
def Ad(a:ZBlk):Prop:=64*a.dK=64*a.dK/\ ∀q:Nat,q<64*a.dK->[Value.int .u8 (a.enc q)]=[Value.int .u8 (a.enc q)]
def Md(a:Bys)(b:ZBlk):Prop:= ∀q:Nat,q<a.N->[Value.int .u8 (a.g q)]=[Value.int .u8 (b.enc q)]
def Me(a:lN)(b:DevM)(c:ZBlk):Prop:=ownM a.d.os=ownM b.os/\(a.b.N=64/\Md a.b c)/\True
def Ae(a:ZCk)(b:ZCg)(c:Nat):Prop:=ownM a.os=ownM (ZCk.os (ZCk.mk (b.a.c.notes b.t (b.ln:Int) c) b.a.ph))/\True
def Af(a:alc)(b:ZCg)(c:Nat):Prop:=0=0/\(a.t:Int)=(b.t:Int)/\a.l=(b.ln:Int)+(c:Int)/\True
def Ag(a:lN):Prop:=Hd (a.d.ok/\a.k<a.d.n/\a.b.ok/\a.a+a.b.n<=64)
def FU(a:ByteArray):Prop:=AV.lit (Value.string a)=AV.lit (Value.string a)
def Ah(a:alc):Prop:=Hd (a.k.ph<=4/\a.k.c.ok/\a.t<a.k.c.t)
def Ai(a:ByteArray):Prop:=FU a/\True
def nH(a:ZCg):Prop:=(2:Int)=2/\ajx a
def nI(a:ZCg):Prop:=(2:Int)=2/\ajw a
def wF(a:Nat)(b:ZCg):Prop:=Hd (a<=ZBlk.dK (b.blk (2:Int) false))
def MB(a:ZCg):Prop:=a.gr=IntKind.wrap .u64 (a.a.ver+1)/\True
def Aj(a:Nat)(b:Nat):Prop:=(a:Int)=(b:Int)+1/\True
def wG(a:Nat)(b:ZCg):Prop:=Hd (a<=ZBlk.dK (b.blk (2:Int) true))
def MC(a:ZBlk):Prop:=Hd (a.may/\a.key.size<1099511627776/\a.value.size<1099511627776)
def MF:Prop:=0<=64/\64<=64/\64<=64
def MG(a:ZBlk):Prop:=0<=64/\64<=64*a.dK/\64*a.dK<=64*a.dK
def Dx(a:lN)(b:DevM)(c:ZBlk):Prop:=ownM a.d.os=ownM b.os/\(a.b.N=64*c.dK/\Md a.b c)/\True
def vg(a:Nat)(b:Nat):Prop:=I64 ((a:Int)+(b:Int))
def vk(a:Nat):Prop:=(a:Int)=0/\True
def XM(y:ZCg):Prop:=
 cP (BEq.beq y.g (0:Int)) (∃s:Unit,Hd True/\True/\MB y/\nH y/\XG y.a) (∃s:Unit,Hd True/\True/\(y.gr=y.g/\True)/\nH y/\XG y.a)/\(∀s:Unit,Hd True->(FU y.x.value/\Ai y.x.key)/\Ai y.x.value/\True/\ ∃x:ZBlk,MC x/\((x.cls=y.x.cls/\x.kind=1/\qE x.id y.a.id/\qE x.ver y.a.ver/\x.epoch=y.e/\x.key=y.x.key/\x.value=y.x.value/\True)/\True)/\True/\(∀y_1:Unit,Hd (x.cls=0)->(0:Int)<=64/\MF/\Aa y.ln/\ ∃x_1:lN,Ag x_1/\Ac x_1 y.ln/\Me x_1 y.a.d x/\ ∀y_2:Unit,True->True/\(∃s_1:Nat,wF s_1 y/\True/\vk s_1/\zZ x/\kQ y/\kQ y/\kQ y/\nH y/\nH y/\XK y s_1 x_1)/\(∀s_1:Nat,wF s_1 y->cP (decide ((s_1:Int)<spn y.x.cls)) (vg y.ln s_1/\ ∃x_2:alc,Ah x_2/\Af x_2 y s_1/\Ae x_2.k y s_1/\ ∀y_3:Unit,True->True/\I64 ((s_1:Int)+1)/\ ∃s_2:Nat,wF s_2 y/\ZBlk.dK (y.blk (2:Int) false)-s_2<ZBlk.dK (y.blk (2:Int) false)-s_1/\Aj s_2 s_1/\zZ x/\kQ y/\kQ y/\kQ y/\nH y/\nH y/\XI y s_2 x_2 x_1) (XE y x_1 s_1))/\True)/\ ∀y_1:Unit,Hd (x.cls≠(0:Int))->(0:Int)<=64/\MG x/\Aa y.ln/\ ∃x_1:lN,Ag x_1/\Ac x_1 y.ln/\Dx x_1 y.a.d x/\ ∀y_2:Unit,True->True/\(∃s_1:Nat,wF s_1 y/\True/\vk s_1/\Ad x/\kQ y/\kQ y/\kQ y/\nH y/\nH y/\XK y s_1 x_1)/\(∀s_1:Nat,wF s_1 y->cP (decide ((s_1:Int)<spn y.x.cls)) (vg y.ln s_1/\ ∃x_2:alc,Ah x_2/\Af x_2 y s_1/\Ae x_2.k y s_1/\ ∀y_3:Unit,True->True/\I64 ((s_1:Int)+1)/\
 ∃s_2:Nat,wF s_2 y/\ZBlk.dK (y.blk (2:Int) false)-s_2<ZBlk.dK (y.blk (2:Int) false)-s_1/\Aj s_2 s_1/\Ad x/\kQ y/\kQ y/\kQ y/\nH y/\nH y/\XI y s_2 x_2 x_1) (XE y x_1 s_1))/\True)/\True
theorem aea(y:ZCg):XM y=wpF Tryz.prog asu tt (anCg 2 false y) 200 6 210 ((aoc 2 false).args y) (hO 11 (flatP 1 ((aoc 2 false).l y))) (λv h'=>endsPK 1 y v h' (aoc 2 false).outs):=by kernel_rfl
def XO(y:ZCg):Prop:=
 cP (BEq.beq y.g (0:Int)) (∃s:Unit,Hd True/\True/\MB y/\nI y/\XH y.a) (∃s:Unit,Hd True/\True/\(y.gr=y.g/\True)/\nI y/\XH y.a)/\(∀s:Unit,Hd True->(FU y.x.value/\Ai y.x.key)/\Ai y.x.value/\True/\ ∃x:ZBlk,MC x/\((x.cls=y.x.cls/\x.kind=1/\x.id=y.x.old.id/\qE x.ver y.a.ver/\x.epoch=y.e/\x.key=y.x.key/\x.value=y.x.value/\True)/\True)/\True/\(∀y_1:Unit,Hd (x.cls=0)->(0:Int)<=64/\MF/\Aa y.ln/\ ∃x_1:lN,Ag x_1/\Ac x_1 y.ln/\Me x_1 y.a.d x/\ ∀y_2:Unit,True->True/\(∃s_1:Nat,wG s_1 y/\True/\vk s_1/\zZ x/\kP y/\kP y/\kP y/\nI y/\nI y/\XL y s_1 x_1)/\(∀s_1:Nat,wG s_1 y->cP (decide ((s_1:Int)<spn y.x.cls)) (vg y.ln s_1/\ ∃x_2:alc,Ah x_2/\Af x_2 y s_1/\Ae x_2.k y s_1/\ ∀y_3:Unit,True->True/\I64 ((s_1:Int)+1)/\ ∃s_2:Nat,wG s_2 y/\ZBlk.dK (y.blk (2:Int) true)-s_2<ZBlk.dK (y.blk (2:Int) true)-s_1/\Aj s_2 s_1/\zZ x/\kP y/\kP y/\kP y/\nI y/\nI y/\XJ y s_2 x_2 x_1) (Xz y x_1 s_1))/\True)/\ ∀y_1:Unit,Hd (x.cls≠(0:Int))->(0:Int)<=64/\MG x/\Aa y.ln/\ ∃x_1:lN,Ag x_1/\Ac x_1 y.ln/\Dx x_1 y.a.d x/\ ∀y_2:Unit,True->True/\(∃s_1:Nat,wG s_1 y/\True/\vk s_1/\Ad x/\kP y/\kP y/\kP y/\nI y/\nI y/\XL y s_1 x_1)/\(∀s_1:Nat,wG s_1 y->cP (decide ((s_1:Int)<spn y.x.cls)) (vg y.ln s_1/\ ∃x_2:alc,Ah x_2/\Af x_2 y s_1/\Ae x_2.k y s_1/\ ∀y_3:Unit,True->True/\I64 ((s_1:Int)+1)/\ ∃s_2:Nat,wG s_2 y/\
 ZBlk.dK (y.blk (2:Int) true)-s_2<ZBlk.dK (y.blk (2:Int) true)-s_1/\Aj s_2 s_1/\Ad x/\kP y/\kP y/\kP y/\nI y/\nI y/\XJ y s_2 x_2 x_1) (Xz y x_1 s_1))/\True)/\True
theorem aeb(y:ZCg):XO y=wpF Tryz.prog asu tt (anCg 2 true y) 200 6 210 ((aoc 2 true).args y) (hO 11 (flatP 1 ((aoc 2 true).l y))) (λv h'=>endsPK 1 y v h' (aoc 2 true).outs):=by kernel_rfl
theorem MH{n:Nat}{e:Nat->ZEff}{E:ZEff}{cs:List Value}(h:cs=E.cs)(q:Nat):(if q=n then E else e q:ZEff).cs=Cs.eff (λi=>(e i).cs) [(n,List.take 7 cs)] q:=by
 subst h;show _=bif Nat.beq q n then List.take 7 E.cs else(e q).cs;rw[dB];by_cases hq:q=n
 ·rw[if_pos hq,decide_eq_true hq];rfl
 ·rw[if_neg hq,decide_eq_false hq];rfl
theorem apC{y:ZCg}(h1:0<=y.a.ver)(h2:y.a.ver<1152921504606846976)(h3:0<=y.g)(h4:y.g<1152921504606846977):I64 y.gr:=by
 unfold ZCg.gr I64;split<;>omega
theorem Ti(y:ZCg)(hy:y.ok 2 true):XO y:=by
 obtain⟨o1,o2,o3,o4,o5,o6,o7,o8,o9,o10,o11,o12,o13,o14,o15,o16,o17,o18,o19,o20⟩:=hy;obtain⟨p1,p2,p3⟩:=o18 rfl;have o19:=o19 rfl;have w1:IntKind.u64.wrap (y.a.ver+1)=y.a.ver+1:=iC (by omega) (by omega);have w2:IntKind.u64.wrap (y.a.id+1)=y.a.id+1:=iC (by omega) (by omega);have hg:=apC o10 o11 o14 o15;have hs8:=wB (y.blk 2 true);have hsc:((y.blk 2 true).dK:Int)=spn y.x.cls:=hs8.2;have hsp:=Dw o7;have hd: ∀N,(⟨y.a.d,y.ln,0,⟨(y.blk 2 true).enc,0,64,N⟩⟩:lN).d.store y.ln 0 64 (λq=>(y.blk 2 true).enc (0+q))=y.a.d.store y.ln 0 64 (y.blk 2 true).enc:=λ_=>aaV _ _ _ _ _
 unfold XO;simp only[MB,nI,XH,FU,Ai,MC,qE,MF,Aa,Ag,Ac,Me,wG,vk,zZ,kP,XL,vg,Ah,Af,Ae,Aj,XJ,Xz,MG,Dx,Ad,Md,FT,ajv,LY,wE,L6,FQ,LZ,zY,sU,yY,Xy,BR,Mc,XF,L8,XC,FN,L9,ajw,abj];simp only[aZ,aV,aU,aA,aI,bQ,bF,aO,aK,ay,aX,aW,bT,bG,bH,bI,bU,bC,bJ,bn,eH,aH,aN,ah,ak,aB,aF,aC,aG,w1,w2];refine⟨bf (λh=> ?_) λh=> ?_,y.blk 2 true,⟨o7,o8,o9⟩,⟨rfl,rfl,rfl,rfl,rfl,rfl,rfl⟩,λh0=> ?_,λh0=> ?_⟩
 ·have h:=beq_iff_eq.1 h
  unfold ZCg.gr;rw[if_pos h]
 ·have h:=beq_eq_false_iff_ne.1 h
  unfold ZCg.gr;rw[if_neg h]
 ·refine⟨by decide,⟨by decide,by decide⟩,⟨y.a.d,y.ln,0,⟨(y.blk 2 true).enc,0,64,64⟩⟩,⟨o1,o5,⟨aY _,by show 64<1099511627776;decide,yR o7⟩,aY _⟩,⟨rfl,rfl,rfl,rfl⟩,⟨rfl,rfl,λ_ _=>rfl⟩,⟨0,Nat.zero_le _,rfl,rfl⟩,λs hs=>bf (λh=> ?_) λh=> ?_⟩
  ·have h:=aS h
   exact⟨by unfold I64;omega,⟨⟨y.a.c.notes y.t y.ln s,y.a.ph⟩,y.t,y.ln+s⟩,⟨o3,yS o2 o17 _ _ (by omega),by show y.t<(y.a.c.notes y.t y.ln s).t;rw[rU];exact o4⟩,⟨rfl,rfl⟩,rfl,by unfold I64;omega,s+1,by omega,by omega,by omega,rfl⟩
  ·have h:=aT h
   have hs:s<=(y.blk 2 true).dK:=hs;obtain rfl:s=(y.blk 2 true).dK:=by omega
   exact⟨hg,⟨y.a.L,y.lnk 2 true⟩,⟨o8,o19⟩,⟨rfl,rfl,rfl,rfl,rfl⟩,rfl,⟨y.a.L,y.lnk 2 true⟩,⟨o8,Nat.le_trans o19 (by decide)⟩,⟨rfl,rfl,rfl,rfl,rfl⟩,rfl,y.a.r,p2,rfl,⟨y.a.b,y.ent 2⟩,⟨p1,p3⟩,⟨rfl,rfl,rfl,rfl,rfl⟩,rfl,rfl,by omega,⟨rfl,rfl⟩,(congrArg (λd=>ownM (DevM.os d)) (hd 64)).symm,rfl,rfl,rfl,rfl,rfl,rfl,rfl,rfl,λq _=>MH (E:=y.eff 2 true) rfl q⟩
 ·refine⟨by decide,⟨by decide,by omega⟩,⟨y.a.d,y.ln,0,⟨(y.blk 2 true).enc,0,64,64*(y.blk 2 true).dK⟩⟩,⟨o1,o5,⟨by show 0+64<=64*(y.blk 2 true).dK;omega,by show 64<1099511627776;decide,yR o7⟩,aY _⟩,⟨rfl,rfl,rfl,rfl⟩,⟨rfl,rfl,λ_ _=>rfl⟩,⟨0,Nat.zero_le _,rfl,rfl⟩,λs hs=>bf (λh=> ?_) λh=> ?_⟩
  ·have h:=aS h
   exact⟨by unfold I64;omega,⟨⟨y.a.c.notes y.t y.ln s,y.a.ph⟩,y.t,y.ln+s⟩,⟨o3,yS o2 o17 _ _ (by omega),by show y.t<(y.a.c.notes y.t y.ln s).t;rw[rU];exact o4⟩,⟨rfl,rfl⟩,rfl,by unfold I64;omega,s+1,by omega,by omega,by omega,rfl⟩
  ·have h:=aT h
   have hs:s<=(y.blk 2 true).dK:=hs;obtain rfl:s=(y.blk 2 true).dK:=by omega
   exact⟨hg,⟨y.a.L,y.lnk 2 true⟩,⟨o8,o19⟩,⟨rfl,rfl,rfl,rfl,rfl⟩,rfl,⟨y.a.L,y.lnk 2 true⟩,⟨o8,Nat.le_trans o19 (by decide)⟩,⟨rfl,rfl,rfl,rfl,rfl⟩,rfl,y.a.r,p2,rfl,⟨y.a.b,y.ent 2⟩,⟨p1,p3⟩,⟨rfl,rfl,rfl,rfl,rfl⟩,rfl,rfl,by omega,⟨rfl,rfl⟩,(congrArg (λd=>ownM (DevM.os d)) (hd (64*(y.blk 2 true).dK))).symm,rfl,rfl,rfl,rfl,rfl,rfl,rfl,rfl,λq _=>MH (E:=y.eff 2 true) rfl q⟩
theorem Tj(y:ZCg)(hy:y.ok 2 false):XM y:=by
 obtain⟨o1,o2,o3,o4,o5,o6,o7,o8,o9,o10,o11,o12,o13,o14,o15,o16,o17,o18,o19,o20⟩:=hy;have o19:=o19 rfl;have w1:IntKind.u64.wrap (y.a.ver+1)=y.a.ver+1:=iC (by omega) (by omega);have w2:IntKind.u64.wrap (y.a.id+1)=y.a.id+1:=iC (by omega) (by omega);have hg:=apC o10 o11 o14 o15;have hs8:=wB (y.blk 2 false);have hsc:((y.blk 2 false).dK:Int)=spn y.x.cls:=hs8.2;have hsp:=Dw o7;have hd: ∀N,(⟨y.a.d,y.ln,0,⟨(y.blk 2 false).enc,0,64,N⟩⟩:lN).d.store y.ln 0 64 (λq=>(y.blk 2 false).enc (0+q))=y.a.d.store y.ln 0 64 (y.blk 2 false).enc:=λ_=>aaV _ _ _ _ _
 unfold XM;simp only[MB,nH,XG,FU,Ai,MC,qE,MF,Aa,Ag,Ac,Me,wF,vk,zZ,kQ,XK,vg,Ah,Af,Ae,Aj,XI,XE,MG,Dx,Ad,Md,XD,LY,wE,L6,FQ,LZ,zY,sU,yY,FT,BR,Mc,XB,L8,XA,FN,L9,ajx,abj];simp only[aZ,aV,aU,aA,aI,bQ,bF,aO,aK,ay,aX,aW,bT,bG,bH,bI,bU,bC,bJ,bn,eH,aH,aN,ah,ak,aB,aF,aC,aG,w1,w2];refine⟨bf (λh=> ?_) λh=> ?_,y.blk 2 false,⟨o7,o8,o9⟩,⟨rfl,rfl,rfl,rfl,rfl,rfl,rfl⟩,λh0=> ?_,λh0=> ?_⟩
 ·have h:=beq_iff_eq.1 h
  unfold ZCg.gr;rw[if_pos h]
 ·have h:=beq_eq_false_iff_ne.1 h
  unfold ZCg.gr;rw[if_neg h]
 ·refine⟨by decide,⟨by decide,by decide⟩,⟨y.a.d,y.ln,0,⟨(y.blk 2 false).enc,0,64,64⟩⟩,⟨o1,o5,⟨aY _,by show 64<1099511627776;decide,yR o7⟩,aY _⟩,⟨rfl,rfl,rfl,rfl⟩,⟨rfl,rfl,λ_ _=>rfl⟩,⟨0,Nat.zero_le _,rfl,rfl⟩,λs hs=>bf (λh=> ?_) λh=> ?_⟩
  ·have h:=aS h
   exact⟨by unfold I64;omega,⟨⟨y.a.c.notes y.t y.ln s,y.a.ph⟩,y.t,y.ln+s⟩,⟨o3,yS o2 o17 _ _ (by omega),by show y.t<(y.a.c.notes y.t y.ln s).t;rw[rU];exact o4⟩,⟨rfl,rfl⟩,rfl,by unfold I64;omega,s+1,by omega,by omega,by omega,rfl⟩
  ·have h:=aT h
   have hs:s<=(y.blk 2 false).dK:=hs;obtain rfl:s=(y.blk 2 false).dK:=by omega
   exact⟨hg,⟨y.a.L,y.lnk 2 false⟩,⟨o8,o19⟩,⟨rfl,rfl,rfl,rfl,rfl⟩,rfl,⟨y.a.L,y.lnk 2 false⟩,⟨o8,Nat.le_trans o19 (by decide)⟩,⟨rfl,rfl,rfl,rfl,rfl⟩,rfl,rfl,by omega,⟨rfl,rfl⟩,(congrArg (λd=>ownM (DevM.os d)) (hd 64)).symm,rfl,rfl,rfl,rfl,rfl,rfl,rfl,λq _=>MH (E:=y.eff 2 false) rfl q⟩
 ·refine⟨by decide,⟨by decide,by omega⟩,⟨y.a.d,y.ln,0,⟨(y.blk 2 false).enc,0,64,64*(y.blk 2 false).dK⟩⟩,⟨o1,o5,⟨by show 0+64<=64*(y.blk 2 false).dK;omega,by show 64<1099511627776;decide,yR o7⟩,aY _⟩,⟨rfl,rfl,rfl,rfl⟩,⟨rfl,rfl,λ_ _=>rfl⟩,⟨0,Nat.zero_le _,rfl,rfl⟩,λs hs=>bf (λh=> ?_) λh=> ?_⟩
  ·have h:=aS h
   exact⟨by unfold I64;omega,⟨⟨y.a.c.notes y.t y.ln s,y.a.ph⟩,y.t,y.ln+s⟩,⟨o3,yS o2 o17 _ _ (by omega),by show y.t<(y.a.c.notes y.t y.ln s).t;rw[rU];exact o4⟩,⟨rfl,rfl⟩,rfl,by unfold I64;omega,s+1,by omega,by omega,by omega,rfl⟩
  ·have h:=aT h
   have hs:s<=(y.blk 2 false).dK:=hs;obtain rfl:s=(y.blk 2 false).dK:=by omega
   exact⟨hg,⟨y.a.L,y.lnk 2 false⟩,⟨o8,o19⟩,⟨rfl,rfl,rfl,rfl,rfl⟩,rfl,⟨y.a.L,y.lnk 2 false⟩,⟨o8,Nat.le_trans o19 (by decide)⟩,⟨rfl,rfl,rfl,rfl,rfl⟩,rfl,rfl,by omega,⟨rfl,rfl⟩,(congrArg (λd=>ownM (DevM.os d)) (hd (64*(y.blk 2 false).dK))).symm,rfl,rfl,rfl,rfl,rfl,rfl,rfl,λq _=>MH (E:=y.eff 2 false) rfl q⟩
theorem abk:dY Tryz.prog asu:= .append dP (.cons Le (.cons (bM apk) (.cons (bM QU) (.cons (bM aoa) (.cons (bM ar8) (.cons (bM ar9) (.cons (bM aju) (.cons (bM anD) (.cons (bM Wj) (.cons (bM ac7) (.cons (bM ahD) (.cons (bM at6) .nil))))))))))))
theorem aoe:bY Tryz.prog 210 (aoc 2 false).ctr:=cO dD mixed abk 11 (anCg 2 false) 200 6 (λ_=>⟨rfl,rfl,rfl,rfl⟩) λx hx=>Eq.mp (aea x) (Tj x (aZ.1 hx))
theorem aof:bY Tryz.prog 210 (aoc 2 true).ctr:=cO dD mixed abk 11 (anCg 2 true) 200 6 (λ_=>⟨rfl,rfl,rfl,rfl⟩) λx hx=>Eq.mp (aeb x) (Ti x (aZ.1 hx))
def arnS(d p r c b t o l i v:AV):dA:= .ro (.av [d,p,r,c,b,t,o,l,i,v,.any])
structure sV where
 b:iF
 l:ZLn
 L:Lks
 k:Int
namespace sV
def inT(x:sV):Prop:= ∃i,i<x.L.length/\(nthL x.L i).line=x.k
def inL(x:sV):Prop:= ∃i,i<x.l.n/\(x.l.get i).line=x.k
def inB(x:sV):Prop:= ∃i,i<x.b.n/\((x.b.e i).line=x.k\/(x.b.e i).anti=x.k)
def used(x:sV):Prop:=x.inT\/x.inL\/x.inB
noncomputable def os(x:sV):List dA:=[arnS .any .any .any .any (.ptr 1 0) (.ptr 2 0) .any (.ptr 3 0) .any .any,.abs (ownM x.b.os),.abs (tabA x.L),.abs (ownM x.l.os)]
def nth(x:sV)(i:Nat):ZLnk:=if i<x.L.length then nthL x.L i else x.l.get (i-x.L.length)
end sV
noncomputable def XP:Ctr:={X:=sV,args:=λx=>[.ptr 0 0,i64 x.k],k:=4,os:=sV.os,pre:=λx=>Hd (x.b.ok/\x.l.ok/\x.l.n<1099511627776/\x.L.length<=300),outs:=[
 {Y:=Unit,post:=λx _=>Hd x.used,ret:=λ_ _=>boo true,m:=4,os:=λx _=>x.os},
 {Y:=Unit,post:=λx _=>Hd (¬x.used),ret:=λ_ _=>boo false,m:=4,os:=λx _=>x.os}]}
def ajy(x:sV):FuncId->qR:=λf=>bif Nat.beq f 247 then(λb _ h=>bif Nat.beq b 2000 then [
 {σ:=Bool,fr:=λz=>[(19,.slV z h.next 5 (x.L.length+x.l.n)),(20,i64 (x.L.length+x.l.n:Nat)),(21,i64 0)],ob:=λz=>[(h.next,some (.gX z 41 (.row 5 (x.L.length+x.l.n) (λj=>(x.nth j).cs) [])))],nx:=1,inv:=λ_=>Hd True,meas:=λ_=>0}]else bif Nat.beq b 0 then [
 {σ:=Nat,fr:=λi=>[(21,i64 i)],ob:=λ_=>[],inv:=λi=>Hd (i<=x.L.length+x.l.n/\ ∀j,j<i->(x.nth j).line≠x.k),meas:=λi=>x.L.length+x.l.n-i}]else bif Nat.beq b 2 then [
 {σ:=Nat,fr:=λi=>[(36,i64 i)],ob:=λ_=>[],inv:=λi=>Hd (i<=x.b.n/\ ∀j,j<i->(x.b.e j).line≠x.k/\(x.b.e j).anti≠x.k),meas:=λi=>x.b.n-i}]else [])elseλ_ _ _=>[]
noncomputable def auQ:jv:=[(68,ctrT allT.C),(70,ctrT aaG.ctr),(278,ctrT ahC.ctr)]
def abl(a:Bool)(b:sV):Prop:=a=a/\List.length b.L+b.l.n=List.length b.L+b.l.n/\ ∀q:Nat,q<List.length b.L+b.l.n->[Value.string (ZLnk.key (b.nth q)),Value.int .u64 (ZLnk.id (b.nth q)),Value.int .u64 (ZLnk.ver (b.nth q)),Value.int .i64 (ZLnk.line (b.nth q)),Value.int .i64 (ZLnk.cls (b.nth q))]=[Value.string (ZLnk.key (b.nth q)),Value.int .u64 (ZLnk.id (b.nth q)),Value.int .u64 (ZLnk.ver (b.nth q)),Value.int .i64 (ZLnk.line (b.nth q)),Value.int .i64 (ZLnk.cls (b.nth q))]
def Tm:Prop:=True/\True/\True/\True/\0=0/\0=0/\True/\0=0/\True/\True/\True/\True
def MI(a:iF):Prop:=ownM a.os=ownM a.os
def Ak(a:iF):Prop:=MI a/\Tm/\True
def ajz(a:Bool)(b:sV)(c:Lks)(d:ZLn):Prop:=True/\ ∃s:Bool,Hd True/\True/\((s=a/\List.length b.L+b.l.n=List.length c)/\((List.length b.L+b.l.n:Nat):Int)=((List.length c:Nat):Int)/\(0:Int)=0/\True)/\(s=a/\List.length b.L+b.l.n=List.length c/\ ∀q:Nat,q<List.length b.L+b.l.n->[Value.string (ZLnk.key (b.nth q)),Value.int .u64 (ZLnk.id (b.nth q)),Value.int .u64 (ZLnk.ver (b.nth q)),Value.int .i64 (ZLnk.line (b.nth q)),Value.int .i64 (ZLnk.cls (b.nth q))]=[Value.string (ZLnk.key (nthL c q)),Value.int .u64 (ZLnk.id (nthL c q)),Value.int .u64 (ZLnk.ver (nthL c q)),Value.int .i64 (ZLnk.line (nthL c q)),Value.int .i64 (ZLnk.cls (nthL c q))])/\ownM b.l.os=ownM d.os/\tabA b.L=tabA c/\Ak b.b
def MJ(a:sV):Prop:=tabA a.L=tabA a.L/\ownM a.l.os=ownM a.l.os/\True
def FV(a:sV)(b:iF):Prop:=Tm/\ownM a.b.os=ownM b.os/\MJ a
def XT(a:iF)(b:Bool)(c:sV):Prop:=(a.n=a.n/\ ∀q:Nat,q<a.n->[Value.int .i64 (iq.line (a.e q)),Value.int .i64 (iq.cls (a.e q)),Value.int .u64 (iq.r (a.e q)),Value.int .u64 (iq.d (a.e q)),Value.int .i64 (iq.anti (a.e q))]=[Value.int .i64 (iq.line (a.e q)),Value.int .i64 (iq.cls (a.e q)),Value.int .u64 (iq.r (a.e q)),Value.int .u64 (iq.d (a.e q)),Value.int .i64 (iq.anti (a.e q))])/\abl b c/\ownM c.l.os=ownM c.l.os/\tabA c.L=tabA c.L/\Ak a
def Am(a:Nat)(b:sV):Prop:=Hd (a<=b.b.n/\ ∀j:Nat,j<a->iq.line (b.b.e j)≠b.k/\iq.anti (b.b.e j)≠b.k)
def MK(a:Nat)(b:sV):Prop:=Hd (a<=List.length b.L+b.l.n/\ ∀j:Nat,j<a->ZLnk.line (b.nth j)≠b.k)
def XU(a:sV)(b:iF):Prop:=(∃y_1:Unit,Hd a.used/\true=false/\FV a b)\/ ∃y_1:Unit,Hd (Not a.used)/\false=false/\FV a b
def XV(a:sV)(b:iF):Prop:=(∃y_1:Unit,Hd a.used/\true=true/\FV a b)\/ ∃y_1:Unit,Hd (Not a.used)/\false=true/\FV a b
def XW(a:Bool)(b:sV):Prop:=abl a b/\ownM b.l.os=ownM b.l.os/\tabA b.L=tabA b.L/\Ak b.b
def XY(x:sV):Prop:=
 (∃x_1:ZLq,True/\(0=0/\True)/\(tabA x_1.L=tabA x.L/\True)/\ ∀y:Bool,Hd (y=true->x_1.L= @List.nil ZLnk)->(AV.ptr 3 0=AV.ptr 3 0/\True)/\ ∃x_2:ZLn,Hd x_2.ok/\(0=0/\True)/\(ownM x_2.os=ownM x.l.os/\True)/\(∀y_1:Unit,Hd (x_2.n=0)->True/\y=y/\List.length x_1.L=List.length x_1.L/\ajz y x x_1.L x_2)/\ ∀y_1:Unit,Hd (x_2.n≠0)->True/\y=y/\List.length x_1.L=List.length x_1.L/\0+x_2.n<=x_2.n/\cP (Nat.beq x_2.n 0) (ajz y x x_1.L x_2) ((∀k:Nat,k<x_2.n->(Nat.beq (List.length [Value.string (ZLnk.key (x_2.get (0+k))),Value.int .u64 (ZLnk.id (x_2.get (0+k))),Value.int .u64 (ZLnk.ver (x_2.get (0+k))),Value.int .i64 (ZLnk.line (x_2.get (0+k))),Value.int .i64 (ZLnk.cls (x_2.get (0+k)))]) 5&&List.all [Value.string (ZLnk.key (x_2.get (0+k))),Value.int .u64 (ZLnk.id (x_2.get (0+k))),Value.int .u64 (ZLnk.ver (x_2.get (0+k))),Value.int .i64 (ZLnk.line (x_2.get (0+k))),Value.int .i64 (ZLnk.cls (x_2.get (0+k)))] Value.oneCell')=true)/\(2*(List.length x_1.L+x_2.n)+1000)*48<=281474976710656/\True/\ ∃s:Bool,Hd True/\True/\((s=false/\List.length x.L+x.l.n=List.length x_1.L+x_2.n)/\((List.length x.L+x.l.n:Nat):Int)=((List.length x_1.L+x_2.n:Nat):Int)/\(0:Int)=0/\True)/\(s=false/\List.length x.L+x.l.n=List.length x_1.L+x_2.n/\
 ∀q:Nat,q<List.length x.L+x.l.n->[Value.string (ZLnk.key (x.nth q)),Value.int .u64 (ZLnk.id (x.nth q)),Value.int .u64 (ZLnk.ver (x.nth q)),Value.int .i64 (ZLnk.line (x.nth q)),Value.int .i64 (ZLnk.cls (x.nth q))]=Cs.eff (λ(q_1:Nat)=>cond (Nat.blt q_1 (List.length x_1.L)) [Value.string (ZLnk.key (nthL x_1.L q_1)),Value.int .u64 (ZLnk.id (nthL x_1.L q_1)),Value.int .u64 (ZLnk.ver (nthL x_1.L q_1)),Value.int .i64 (ZLnk.line (nthL x_1.L q_1)),Value.int .i64 (ZLnk.cls (nthL x_1.L q_1))] [Value.string (ZLnk.key (x_2.get (0+(q_1-List.length x_1.L)))),Value.int .u64 (ZLnk.id (x_2.get (0+(q_1-List.length x_1.L)))),Value.int .u64 (ZLnk.ver (x_2.get (0+(q_1-List.length x_1.L)))),Value.int .i64 (ZLnk.line (x_2.get (0+(q_1-List.length x_1.L)))),Value.int .i64 (ZLnk.cls (x_2.get (0+(q_1-List.length x_1.L))))]) [] q)/\ownM x.l.os=ownM x_2.os/\tabA x.L=tabA x_1.L/\Ak x.b))/\(∀s:Bool,Hd True->(∃s_1:Nat,MK s_1 x/\True/\((s_1:Int)=0/\True)/\XW s x)/\(∀s_1:Nat,MK s_1 x->cP (decide ((s_1:Int)<((List.length x.L+x.l.n:Nat):Int))) ((0<=(s_1:Int)/\(s_1:Int)<((List.length x.L+x.l.n:Nat):Int))/\0+s_1<List.length x.L+x.l.n/\cP (BEq.beq (ZLnk.line (x.nth (0+s_1))) x.k) ((∃y:Unit,Hd x.used/\true=true/\Tm/\MI x.b/\MJ x)\/ ∃y:Unit,Hd (Not x.used)/\false=true/\Tm/\MI x.b/\MJ x) (I64 ((s_1:Int)+1)/\ ∃s_2:Nat,MK s_2 x/\List.length x.L+x.l.n-s_2<List.length x.L+x.l.n-s_1/\((s_2:Int)=(s_1:Int)+1/\True)/\XW s x)) (∃x_1:iF,Hd x_1.ok/\(0=0/\True)/\(ownM x_1.os=ownM x.b.os/\True)/\(∀y:Unit,Hd (x_1.n=0)->(∃s_2:Nat,Am s_2 x/\True/\((s_2:Int)=0/\True)/\
 abl s x/\ownM x.l.os=ownM x.l.os/\tabA x.L=tabA x.L/\Ak x_1)/\(∀s_2:Nat,Am s_2 x->XU x x_1)/\True)/\ ∀y:Unit,Hd True->(∃s_2:Nat,Am s_2 x/\True/\((s_2:Int)=0/\True)/\XT x_1 s x)/\(∀s_2:Nat,Am s_2 x->cP (decide ((s_2:Int)<(x_1.n:Int))) ((0<=(s_2:Int)/\(s_2:Int)<(x_1.n:Int))/\0+s_2<x_1.n/\cP (BEq.beq (iq.line (x_1.e (0+s_2))) x.k) (XV x x_1) (cP (BEq.beq (iq.anti (x_1.e (0+s_2))) x.k) (XV x x_1) (I64 ((s_2:Int)+1)/\ ∃s_3:Nat,Am s_3 x/\x.b.n-s_3<x.b.n-s_2/\((s_3:Int)=(s_2:Int)+1/\True)/\XT x_1 s x))) (XU x x_1))/\True))/\True)/\True
theorem aec(x:sV):XY x=wpF Tryz.prog auQ tt (ajy x) 200 6 247 (XP.args x) (hO XP.k (XP.os x)) (λv h'=>eG XP.k x v h' XP.outs):=by kernel_rfl
theorem Tn(x:sV)(hx:x.b.ok/\x.l.ok/\x.l.n<1099511627776/\x.L.length<=300):XY x:=by
 obtain⟨hb,hl,hln,hL⟩:=hx;have hbn:=hb.1;have rows:x.l.n=0-> ∀q,q<x.L.length+x.l.n->(x.nth q).cs=(nthL x.L q).cs:=λh0 q hq=>by unfold sV.nth;rw[if_pos (by omega)]
 have no: ∀s,(∀j,j<s->(x.nth j).line≠x.k)->x.L.length+x.l.n<=s-> ¬x.inT/\ ¬x.inL:=λs hs hge=>by
  refine⟨λ⟨i,hi,he⟩=>hs i (by omega) ?_,λ⟨i,hi,he⟩=>hs (x.L.length+i) (by omega) ?_⟩
  ·unfold sV.nth;rw[if_pos hi];exact he
  ·unfold sV.nth;rw[if_neg (by omega),show x.L.length+i-x.L.length=i by omega];exact he
 have yes: ∀s,s<x.L.length+x.l.n->(x.nth s).line=x.k->x.used:=λs hs he=>by
  unfold sV.nth at he;by_cases h:s<x.L.length
  ·rw[if_pos h]at he;exact .inl ⟨s,h,he⟩
  ·rw[if_neg h]at he;exact .inr (.inl ⟨s-x.L.length,by omega,he⟩)
 unfold XY;simp only[ajz,Ak,MK,XW,Tm,MI,MJ,Am,abl,XU,XT,XV,FV];simp only[aZ,aV,aU,aA,aI,bQ,bF,aO,aK,ay,aX,aW,bT,bG,bH,bI,bU,bC,bJ,bn,eH,aH,aN,ah,ak,aB,aF,aC,aG];refine⟨⟨⟨x.L⟩,rfl,λy hy=>⟨x.l,hl,rfl,λh0=> ?_,λh0=>⟨aY _,bf (λhz=>absurd (au hz) h0) λ_=>⟨λk _=>rfl,by show(2*(x.L.length+x.l.n)+1000)*48<=281474976710656;omega,false,⟨⟨rfl,rfl⟩,rfl⟩,⟨rfl,rfl,λq hq=> ?_⟩,rfl,rfl⟩⟩⟩⟩,λz=>⟨⟨0,⟨Nat.zero_le _,λj hj=>absurd hj (Nat.not_lt_zero j)⟩,rfl⟩,λs hs=>bf (λh=> ?_) λh=> ?_⟩⟩
 ·exact⟨y,⟨⟨rfl,by show x.L.length+x.l.n=x.L.length;omega⟩,by show((x.L.length+x.l.n:Nat):Int)=(x.L.length:Nat);rw[h0,aI]⟩,⟨rfl,by show x.L.length+x.l.n=x.L.length;omega,λq hq=>rows h0 q hq⟩,rfl,rfl⟩
 ·show(x.nth q).cs=bif Nat.blt q x.L.length then(nthL x.L q).cs else(x.l.get (q-x.L.length)).cs
  unfold sV.nth;rw[bV];by_cases h:q<x.L.length
  ·rw[if_pos h,decide_eq_true h];rfl
  ·rw[if_neg h,decide_eq_false h];rfl
 ·have h':s<x.L.length+x.l.n:=by have:=aS h;omega
  refine⟨⟨by omega,by omega⟩,h',bf (λe=> .inl (yes s h' (beq_iff_eq.1 e))) λe=>⟨by unfold I64;omega,s+1,⟨by omega,λj hj=> ?_⟩,by omega,by omega⟩⟩;by_cases hjs:j=s
  ·subst hjs;exact beq_eq_false_iff_ne.1 e
  ·exact hs.2 j (by omega)
 ·have hge:x.L.length+x.l.n<=s:=by have:=aT h;omega
  obtain⟨n1,n2⟩:=no s hs.2 hge;refine⟨x.b,hb,rfl,λh0=>⟨⟨0,⟨Nat.zero_le _,λj hj=>absurd hj (Nat.not_lt_zero j)⟩,rfl⟩,λs1 hs1=> .inr ⟨λhu=> ?_,rfl⟩⟩,⟨0,⟨Nat.zero_le _,λj hj=>absurd hj (Nat.not_lt_zero j)⟩,rfl⟩,λs1 hs1=>bf (λh=> ?_) λh=> ?_⟩
  ·rcases hu with hu|hu|⟨i,hi,_⟩
   ·exact n1 hu
   ·exact n2 hu
   ·omega
  ·have h':s1<x.b.n:=by have:=aS h;omega
   refine⟨⟨by omega,by omega⟩,h',bf (λe=> .inl ⟨.inr (.inr ⟨s1,h',.inl (beq_iff_eq.1 e)⟩),rfl⟩) λe=>bf (λe2=> .inl ⟨.inr (.inr ⟨s1,h',.inr (beq_iff_eq.1 e2)⟩),rfl⟩) λe2=>⟨by unfold I64;omega,s1+1,⟨by omega,λj hj=> ?_⟩,by omega,by omega⟩⟩;by_cases hjs:j=s1
   ·subst hjs;exact⟨beq_eq_false_iff_ne.1 e,beq_eq_false_iff_ne.1 e2⟩
   ·exact hs1.2 j (by omega)
  ·have h': ¬s1<x.b.n:=by have:=aT h;omega
   refine .inr ⟨λhu=> ?_,rfl⟩;rcases hu with hu|hu|⟨i,hi,hh⟩
   ·exact n1 hu
   ·exact n2 hu
   ·exact hh.elim (hs1.2 i (by omega)).1 (hs1.2 i (by omega)).2
theorem aog:dY Tryz.prog auQ:= .cons (bM asn) (.cons (bM ac8) (.cons (bM ahE) .nil))
theorem abm:bY Tryz.prog 247 XP:=jf dD mixed aog ajy 200 6 (λ_=>rfl) (λ_=>⟨λ_=>rfl,λ_=>rfl,trivial⟩) λx hx=>Eq.mp (aec x) (Tn x (aZ.1 hx))
def pOf:AV->Nat
 | .ptr i _=>i
 |_=>0
def aed(A:SE.Own)(ids:List Nat)(h:Heap):Heap:=(SE.fU ids h).set (atL ids 0) (.abs A)
def isAbs:Option dA->Bool
 |some (.abs _)=>true
 |_=>false
def Jr(h:Heap)(i:Nat):List Nat:=match h.get i with
 |some (.cells _ (.av [d0,p,r,c,b,t,o,l,_,_,ef]))=>match h.get (pOf d0)with
  |some (.cells _ (.av (d::_)))=>match ef with
   | .slV _ j _ _=>[i,pOf d0,pOf d,pOf p,pOf r,pOf c,pOf b,pOf t,pOf o,pOf l,j]
   |_=>[]
  |_=>[]
 |_=>[]
def auR(a:ZSto)(ids:List Nat)(h:Heap):Prop:=DT (atL ids) 11 h 0 a.os
noncomputable def ajA(T:WTr):WTr:=λargs h K=>match args with
 | .ptr i z::r=>bif isAbs (h.get i)then T (.ptr i z::r) h K else
  bif G5 0 (Jr h i) (Jr h i).length&&Nat.beq (Jr h i).length 11 then∃a:ZSto,auR a (Jr h i) h/\T (.ptr i z::r) (aed (ownM a.os) (Jr h i) h) K else False
 |_=>False
theorem Tq{P:Program}{f:FuncId}{T:WTr}(hT: ∀args h K,T args h K->Sp P f args h K)(args:List AV)(h:Heap)(K:AV->Heap->Prop)(hq:ajA T args h K):Sp P f args h K:=by
 unfold ajA at hq;split at hq
 ·rename_i i z r
  cases ha:isAbs (h.get i)<;>rw[ha]at hq
  ·generalize Jr h i=ids at hq
   cases hb:(G5 0 ids ids.length&&Nat.beq ids.length 11)<;>rw[hb]at hq
   ·exact hq.elim
   ·simp only[aJ]at hb
    obtain⟨b1,b2⟩:=hb;obtain⟨a,hs,hq⟩:=hq;have hl:ids.length=11:=au b2;rw[hl]at b1;refine Qd (Φ:=λh=>h=hOf a.os) 11 ids a.os rfl rfl b1 rfl hs (hT _ _ _ ?_);have e:qZ (λh=>h=hOf a.os) ids h=aed (ownM a.os) ids h:=by
     unfold qZ aed;rw[oM];rfl
    rw[e];exact hq
  ·exact hT _ _ _ hq
 ·exact hq.elim
structure ZPt where
 a:ZSto
 t:Nat
 e:Int
 x:ZCh
 ln:Nat
namespace ZPt
def cg(y:ZPt):ZCg:=⟨y.a,y.t,y.e,{y.x with line:=y.ln},y.ln,0⟩
def lst(y:ZPt)(k:Int)(had:Bool):dA:= .ro (.av [i64 k,.lit (.string y.x.key),.lit (.string y.x.value),boo had,.lit (.string y.x.old.key),u64 y.x.old.id,u64 y.x.old.ver,i64 y.x.old.line,i64 y.x.old.cls,i64 y.ln,i64 y.x.cls])
def was(y:ZPt)(had:Bool):Prop:=gI y.a.L y.x.key=(if had=true then some y.x.old else none)
def inP(y:ZPt)(i j:Nat):Prop:=i<y.a.p.n/\0<=y.a.p.cls i/\j<ZPool.many (y.a.p.cls i)/\y.a.p.tk i j=true/\(y.ln:Int)=2+i*8+j*spn (y.a.p.cls i)
def us(y:ZPt):sV:=⟨y.a.b,y.a.l,y.a.L,y.ln⟩
def ok(y:ZPt)(k:Int)(had:Bool):Prop:=y.cg.ok k had/\y.was had/\y.a.c.now=y.e/\y.a.p.ok/\y.a.b.ok/\y.a.l.ok/\y.a.l.n<1099511627776/\y.a.L.length<=300/\(∃i j,y.inP i j/\y.a.p.cls i=y.x.cls)/\(¬y.us.used)/\(k≠2->y.x.cls=0)
def bad(y:ZPt)(had:Bool):Prop:=y.a.c.ok/\y.a.ph<=4/\y.t<y.a.c.t/\y.x.key.size<1099511627776/\(y.a.c.now≠y.e\/ ¬y.was had)
end ZPt
noncomputable def aoh(k:Int)(had:Bool):jg:=ql ZPt (λy=>[.ptr 0 0,i64 y.t,u64 y.e,.sl 1 0 1 1]) 2 (λy=>[.m y.a.os,.o (y.lst k had)]) (λy=>Hd (y.ok k had)) (λ_=> .tup [.slW 2 0 1 1,i64 0]) 3 (λy=>[.o (.abs (ownM (y.cg.res k had).os)),.o (y.lst k had),.o (.room 4 (.row 1 1 (λ_=>[.bool had]) []))])
noncomputable def aoi(k:Int)(had:Bool):jv:=oZ++[(204,ctrT aso),(45,ctrT ajo),(245,ctrT as3.C),(246,ctrT ofP.ctr),(247,ctrT XP),(229,ctrT apf),(210,ajA (ctrT (aoc k had).ctr))]
noncomputable def yZ(k:Int)(had:Bool):Ctr:=det ZPt (λy=>[.ptr 0 0,i64 y.t,u64 y.e,.sl 3 0 1 1]) 4 (λy=>[arnS .any .any .any (.ptr 1 0) .any (.ptr 2 0) .any .any .any .any,.abs (ownM y.a.ck.os),.abs (tabA y.a.L),y.lst k had]) (λy=>Hd (y.bad had)) (λ_=> .tup [ig,i64 8]) 4 (λy=>[arnS .any .any .any (.ptr 1 0) .any (.ptr 2 0) .any .any .any .any,.abs (ownM y.a.ck.os),.abs (tabA y.a.L),y.lst k had])
def auS:WTr:=λ_ _ _=>False
theorem aoj{P:Program}{f:FuncId}(args:List AV)(h:Heap)(K:AV->Heap->Prop)(hq:auS args h K):Sp P f args h K:=hq.elim
noncomputable def asv:jv:=oZ++[(207,auS),(204,ctrT aso),(45,ctrT ajo),(245,ctrT as3.C)]
def Js(a:ZPt):Prop:=a.x.old.key=a.x.old.key/\a.x.old.id=a.x.old.id/\a.x.old.ver=a.x.old.ver/\a.x.old.line=a.x.old.line/\a.x.old.cls=a.x.old.cls/\(a.ln:Int)=(a.ln:Int)/\a.x.cls=a.x.cls/\True
def FW(a:ZPt):Prop:=a.x.key=a.x.key/\a.x.value=a.x.value/\true=true/\Js a
def ML:Prop:=(0=0/\1=1)/\(0:Int)=0/\True
def kZ(a:ZPt):Prop:=False/\((2:Int)=2/\FW a)/\False/\True
def kE(a:ByteArray):Prop:=AV.lit (Value.string a)=AV.lit (Value.string a)
def MN(a:ZBlk)(b:ZPt):Prop:=(a.cls=b.x.cls/\a.kind=1/\a.id=1/\a.ver=1/\a.epoch=b.e/\a.key=b.x.key/\a.value=b.x.value/\True)/\True
def MO(a:ZCg)(b:ZPt):Prop:=a.x.old.key=b.x.old.key/\a.x.old.id=b.x.old.id/\a.x.old.ver=b.x.old.ver/\a.x.old.line=b.x.old.line/\a.x.old.cls=b.x.old.cls/\(a.ln:Int)=(b.ln:Int)/\a.x.cls=b.x.cls/\True
def MP(a:ZSto)(b:ZSto)(c:ZCk)(d:sV):Prop:=(true=true/\false=false/\some (dA.abs (ownM a.r.os))=some (dA.abs (ownM b.r.os)))/\(true=true/\false=false/\some (dA.abs (ownM c.os))=some (dA.abs (ownM b.ck.os)))/\(true=true/\false=false/\some (dA.abs (ownM d.b.os))=some (dA.abs (ownM b.b.os)))/\(true=true/\false=false/\some (dA.abs (tabA d.L))=some (dA.abs (tabA b.L)))/\(true=true/\false=false/\some (dA.abs (ordA a.L))=some (dA.abs (ordA b.L)))/\(true=true/\false=false/\some (dA.abs (ownM d.l.os))=some (dA.abs (ownM b.l.os)))/\(true=true/\false=false/\some (dA.gX (Nat.beq a.n 0) (95: @TypeId) (Cs.row 7 a.n (λ(i:Nat)=>[Value.int .i64 (ZEff.kind (a.e i)),Value.string (ZEff.key (a.e i)),Value.string (ZEff.value (a.e i)),Value.int .u64 (ZEff.id (a.e i)),Value.int .u64 (ZEff.ver (a.e i)),Value.int .u64 (ZEff.epoch (a.e i)),Value.int .i64 (ZEff.group (a.e i))]) (@List.nil (Prod Nat (List Value)))))=some (dA.gX (Nat.beq b.n 0) (95: @TypeId) (Cs.row 7 b.n (λ(i:Nat)=>[Value.int .i64 (ZEff.kind (b.e i)),Value.string (ZEff.key (b.e i)),Value.string (ZEff.value (b.e i)),Value.int .u64 (ZEff.id (b.e i)),Value.int .u64 (ZEff.ver (b.e i)),Value.int .u64 (ZEff.epoch (b.e i)),Value.int .i64 (ZEff.group (b.e i))]) (@List.nil (Prod Nat (List Value))))))/\True
def MQ:Prop:=true=true/\false=false/\some (dA.cells (145: @TypeId) (Cs.av [AV.ptr 3 0,AV.lit (Value.int .u32 1),AV.lit (Value.int .i32 0),AV.lit (Value.int .u32 0)]))=some (dA.cells (145: @TypeId) (Cs.av [AV.ptr 3 0,AV.lit (Value.int .u32 1),AV.lit (Value.int .i32 0),AV.lit (Value.int .u32 0)]))
def MR(a:sV)(b:ZSto)(c:Lks):Prop:=(True/\True/\True/\True/\0=0/\0=0/\True/\0=0/\True/\True/\True/\True)/\ownM a.b.os=ownM b.b.os/\tabA a.L=tabA c/\ownM a.l.os=ownM b.l.os/\True
def MV(a:ZSto)(b:ZSto):Prop:=true=true/\false=false/\some (dA.cells (113: @TypeId) (Cs.av [AV.ptr 2 0,AV.ptr 4 0,AV.ptr 5 0,AV.ptr 6 0,AV.ptr 7 0,AV.ptr 8 0,AV.ptr 9 0,AV.ptr 10 0,AV.lit (Value.int .u64 a.id),AV.lit (Value.int .u64 a.ver),AV.slV (Nat.beq a.n 0) 11 7 a.n]))=some (dA.cells (113: @TypeId) (Cs.av [AV.ptr 2 0,AV.ptr 4 0,AV.ptr 5 0,AV.ptr 6 0,AV.ptr 7 0,AV.ptr 8 0,AV.ptr 9 0,AV.ptr 10 0,AV.lit (Value.int .u64 b.id),AV.lit (Value.int .u64 b.ver),AV.slV (Nat.beq b.n 0) 11 7 b.n]))
def MW(a:ZPool)(b:ZPool):Prop:=true=true/\false=false/\some (dA.abs (ownM a.os))=some (dA.abs (ownM b.os))
def sW:Prop:=False/\(0:Int)=1/\True
def MX(a:ZBlk):Prop:=Hd (a.key.size<1099511627776/\a.value.size<1099511627776)
def Ap:Prop:=False/\(0:Int)=10/\True
def MZ(a:DevM)(b:DevM):Prop:=true=true/\false=false/\some (dA.abs (ownM a.os))=some (dA.abs (ownM b.os))
def qF:Prop:=False/\(0:Int)=8/\True
def iM:Prop:=(0:Int)<=0/\(0:Int)<=0
def ajB:Prop:=(1=1/\ ∀q:Nat,q<1->[Value.bool true]=Cs.eff (λ(x_7:Nat)=>[]) [(0,List.take 1 [Value.bool true])] q)/\True
def Aq:Prop:=False/\(0:Int)=3/\True
def Na(a:sV):Prop:=Hd (a.b.ok/\a.l.ok/\a.l.n<1099511627776/\List.length a.L<=300)
def ajC(a0:ZLnk)(b:ZPt)(c:Lks)(d:ZCk):Prop:=True/\True/\cP (Bool.not (BEq.beq (ByteArray.toList a0.key) (ByteArray.toList b.x.old.key)&&(BEq.beq a0.id b.x.old.id&&(BEq.beq a0.ver b.x.old.ver&&(BEq.beq a0.line b.x.old.line&&(BEq.beq a0.cls b.x.old.cls&&true)))))) (∃y_4:Unit,True/\qF/\kZ b) (I64 (1:Int)/\iM/\ ∃x_3:fM,Hd x_3.ok/\(0=0/\x_3.line=(b.ln:Int)/\True)/\(ownM x_3.p.os=ownM b.a.p.os/\True)/\ ∀y_4:Unit,True->True/\cP (bne (x_3.p.cls x_3.i) b.x.cls) (∃y_5:Unit,True/\sW/\kZ b) (∃x_4:sV,Na x_4/\(0=0/\x_4.k=(b.ln:Int)/\True)/\MR x_4 b.a c/\(∀y_5:Unit,Hd x_4.used-> ∃y_6:Unit,True/\sW/\kZ b)/\ ∀y_5:Unit,Hd (Not x_4.used)->I64 (1:Int)/\True/\True/\iM/\(kE b.x.value/\kE b.x.key/\True)/\(kE b.x.value/\True)/\True/\ ∃x_5:ZBlk,MX x_5/\MN x_5 b/\True/\ ∀y_6:Unit,True->cP (Bool.not x_5.OY) (∃y_7:Unit,True/\Aq/\kZ b) (cP (bne b.x.cls b.x.cls) (∃y_7:Unit,True/\Aq/\kZ b) (cP (decide (IntKind.wrap .u64 (b.a.ver+1)>(2305843009213693952:Int))) (I64 (1:Int)/\ ∃y_7:Unit,True/\Ap/\kZ b) (I64 (1:Int)/\cP (decide (b.a.id>(2305843009213693952:Int))) (∃y_7:Unit,True/\Ap/\kZ b) (iM/\1002<=281474976710656/\ ∃a:ZSto,(MV b.a a/\MQ/\MZ b.a.d a.d/\MW x_3.p a.p/\MP b.a a d x_4)/\ ∃x_6:ZCg,Hd (x_6.ok (2:Int) true)/\(0=0/\(x_6.t:Int)=(b.t:Int)/\x_6.e=b.e/\((2:Int)=2/\x_6.x.key=b.x.key/\x_6.x.value=b.x.value/\true=true/\MO x_6 b)/\x_6.g=0/\True)/\(ownM x_6.a.os=ownM a.os/\True)/\ ∀y_7:Unit,True->I64 (1:Int)/\ ∃y_8:Unit,True/\ML/\
 ownM (ZSto.os (b.cg.res (2:Int) true))=ownM (ZSto.os (x_6.res (2:Int) true))/\((2:Int)=2/\FW b)/\ajB))))))
def wH(a:ZPt):Prop:=(2:Int)=2/\a.x.key=a.x.key/\a.x.value=a.x.value/\false=false/\Js a
def nJ(a:ZPt):Prop:=False/\wH a/\False/\True
def ajD(a0:ZPt)(b:Lks)(c:ZCk):Prop:=True/\True/\I64 (1:Int)/\iM/\ ∃x_3:fM,Hd x_3.ok/\(0=0/\x_3.line=(a0.ln:Int)/\True)/\(ownM x_3.p.os=ownM a0.a.p.os/\True)/\ ∀y_4:Unit,True->True/\cP (bne (x_3.p.cls x_3.i) a0.x.cls) (∃y_5:Unit,True/\sW/\nJ a0) (∃x_4:sV,Na x_4/\(0=0/\x_4.k=(a0.ln:Int)/\True)/\MR x_4 a0.a b/\(∀y_5:Unit,Hd x_4.used-> ∃y_6:Unit,True/\sW/\nJ a0)/\ ∀y_5:Unit,Hd (Not x_4.used)->I64 (1:Int)/\True/\True/\iM/\(kE a0.x.value/\kE a0.x.key/\True)/\(kE a0.x.value/\True)/\True/\ ∃x_5:ZBlk,MX x_5/\MN x_5 a0/\True/\ ∀y_6:Unit,True->cP (Bool.not x_5.OY) (∃y_7:Unit,True/\Aq/\nJ a0) (cP (bne a0.x.cls a0.x.cls) (∃y_7:Unit,True/\Aq/\nJ a0) (cP (decide (IntKind.wrap .u64 (a0.a.ver+1)>(2305843009213693952:Int))) (I64 (1:Int)/\ ∃y_7:Unit,True/\Ap/\nJ a0) (I64 (1:Int)/\cP (decide (IntKind.wrap .u64 (a0.a.id+1)>(2305843009213693952:Int))) (∃y_7:Unit,True/\Ap/\nJ a0) (iM/\1002<=281474976710656/\ ∃a:ZSto,(MV a0.a a/\MQ/\MZ a0.a.d a.d/\MW x_3.p a.p/\MP a0.a a c x_4)/\ ∃x_6:ZCg,Hd (x_6.ok (2:Int) false)/\(0=0/\(x_6.t:Int)=(a0.t:Int)/\x_6.e=a0.e/\((2:Int)=2/\x_6.x.key=a0.x.key/\x_6.x.value=a0.x.value/\false=false/\MO x_6 a0)/\x_6.g=0/\True)/\(ownM x_6.a.os=ownM a.os/\True)/\ ∀y_7:Unit,True->I64 (1:Int)/\ ∃y_8:Unit,True/\ML/\ownM (ZSto.os (a0.cg.res (2:Int) false))=ownM (ZSto.os (x_6.res (2:Int) false))/\wH a0/\(1=1/\ ∀q:Nat,q<1->[Value.bool false]=Cs.eff (λ(x_7:Nat)=>[]) [(0,List.take 1 [Value.bool false])] q)/\True)))))
def sZ:Prop:=True/\True/\True/\0=0/\True/\0=0/\True/\True/\True/\True/\True/\True
def FX:Prop:=Value.slice none 0 0=Value.slice none 0 0
def Ar:Prop:=FX/\(8:Int)=8/\True
def tq(a:ZSto)(b:ZCk):Prop:=ownM a.ck.os=ownM b.os
def Nb(a:ZPt)(b:ZCk)(c:Lks):Prop:= ∃y_4:Unit,True/\Ar/\sZ/\tq a.a b/\tabA a.a.L=tabA c/\((2:Int)=2/\FW a)/\True
def XZ(a:ZLnk)(b:ZPt)(c:ZCk)(d:Lks):Prop:=True/\True/\cP (Bool.not (BEq.beq (ByteArray.toList a.key) (ByteArray.toList b.x.old.key)&&(BEq.beq a.id b.x.old.id&&(BEq.beq a.ver b.x.old.ver&&(BEq.beq a.line b.x.old.line&&(BEq.beq a.cls b.x.old.cls&&true)))))) (Nb b c d) (I64 (1:Int)/\False)
def lg(a:ZTq):Prop:=Hd (gI a.L a.s= @Option.none ZLnk)
def lq(a:ByteArray):Prop:=Hd (a.size<1099511627776)
def lu(a:ZCk):Prop:=Hd (a.ph<=4/\a.c.ok)
def lC(a:ZTq)(b:ZLnk):Prop:=Hd (gI a.L a.s=some b)
def lD(a:Lks)(b:Lks):Prop:=tabA a=tabA b/\True
def lF(a:ByteArray)(b:ByteArray):Prop:=0=0/\a=b/\True
def tu(a:ZCk)(b:ZSto):Prop:=ownM a.os=ownM b.ck.os/\True
def X0(a:ZPt)(b:ZCk)(c:Lks):Prop:=True/\True/\ ∃y_4:Unit,True/\Ar/\sZ/\tq a.a b/\tabA a.a.L=tabA c/\wH a/\True
def tC(a:ZCk)(b:ZCk):Prop:=ownM a.os=ownM b.os/\True
def X3(y:ZPt):Prop:=
 ∃x:ZCk,lu x/\(0=0/\True)/\tu x y.a/\ ∀y_1:Unit,True->cP (decide ((y.t:Int)>=(x.c.t:Int))) (∃y_2:Unit,True/\sW/\nJ y) (iM/\I64 (1:Int)/\ ∃x_1:ZCk,lu x_1/\(0=0/\True)/\tC x_1 x/\ ∀y_2:Unit,True->cP (bne x_1.c.now y.e) (∃y_3:Unit,True/\qF/\nJ y) (iM/\(∃x_2:ZTq,lq x_2.s/\lF x_2.s y.x.key/\lD x_2.L y.a.L/\(∀y_3:Unit,lg x_2->True/\ajD y x_2.L x_1)/\ ∀y_3:ZLnk,lC x_2 y_3->True/\True/\True/\ ∃y_4:Unit,True/\qF/\nJ y)/\(kE y.x.key/\AV.ptr 8 0=AV.ptr 8 0/\True)/\ ∃x_2:ZTq,lq x_2.s/\lF x_2.s y.x.key/\lD x_2.L y.a.L/\(∀y_3:Unit,lg x_2->ajD y x_2.L x_1)/\ ∀y_3:ZLnk,lC x_2 y_3->True/\True/\ ∃y_4:Unit,True/\qF/\nJ y))
theorem aee(y:ZPt):X3 y=wpF Tryz.prog (aoi 2 false) tt (noA y) 200 6 162 ((aoh 2 false).args y) (hO 12 (flatP 2 ((aoh 2 false).l y))) (λv h'=>endsPK 2 y v h' (aoh 2 false).outs):=by kernel_rfl
def X4(y:ZPt):Prop:=
 ∃x:ZCk,lu x/\(0=0/\True)/\tu x y.a/\ ∀y_1:Unit,True->cP (decide ((y.t:Int)>=(x.c.t:Int))) (∃y_2:Unit,True/\sW/\kZ y) (iM/\I64 (1:Int)/\ ∃x_1:ZCk,lu x_1/\(0=0/\True)/\tC x_1 x/\ ∀y_2:Unit,True->cP (bne x_1.c.now y.e) (∃y_3:Unit,True/\qF/\kZ y) (iM/\(∃x_2:ZTq,lq x_2.s/\lF x_2.s y.x.key/\lD x_2.L y.a.L/\(∀y_3:Unit,lg x_2->True/\True/\True/\ ∃y_4:Unit,True/\qF/\kZ y)/\ ∀y_3:ZLnk,lC x_2 y_3->True/\ajC y_3 y x_2.L x_1)/\(kE y.x.key/\AV.ptr 8 0=AV.ptr 8 0/\True)/\ ∃x_2:ZTq,lq x_2.s/\lF x_2.s y.x.key/\lD x_2.L y.a.L/\(∀y_3:Unit,lg x_2->True/\True/\ ∃y_4:Unit,True/\qF/\kZ y)/\ ∀y_3:ZLnk,lC x_2 y_3->ajC y_3 y x_2.L x_1))
theorem aef(y:ZPt):X4 y=wpF Tryz.prog (aoi 2 true) tt (noA y) 200 6 162 ((aoh 2 true).args y) (hO 12 (flatP 2 ((aoh 2 true).l y))) (λv h'=>endsPK 2 y v h' (aoh 2 true).outs):=by kernel_rfl
def X5(y:ZPt):Prop:=
 ∃x:ZCk,lu x/\(0=0/\True)/\tu x y.a/\ ∀y_1:Unit,True->cP (decide ((y.t:Int)>=(x.c.t:Int))) (∃y_2:Unit,True/\(FX/\(8:Int)=1/\True)/\sZ/\tq y.a x/\tabA y.a.L=tabA y.a.L/\wH y/\True) (iM/\I64 (1:Int)/\ ∃x_1:ZCk,lu x_1/\(0=0/\True)/\tC x_1 x/\ ∀y_2:Unit,True->cP (bne x_1.c.now y.e) (∃y_3:Unit,True/\Ar/\sZ/\tq y.a x_1/\tabA y.a.L=tabA y.a.L/\wH y/\True) (iM/\(∃x_2:ZTq,lq x_2.s/\lF x_2.s y.x.key/\lD x_2.L y.a.L/\(∀y_3:Unit,lg x_2->True/\True/\True/\I64 (1:Int)/\False)/\ ∀y_3:ZLnk,lC x_2 y_3->True/\X0 y x_1 x_2.L)/\(kE y.x.key/\AV.ptr 2 0=AV.ptr 2 0/\True)/\ ∃x_2:ZTq,lq x_2.s/\lF x_2.s y.x.key/\lD x_2.L y.a.L/\(∀y_3:Unit,lg x_2->True/\True/\I64 (1:Int)/\False)/\ ∀y_3:ZLnk,lC x_2 y_3->X0 y x_1 x_2.L))
theorem aeg(y:ZPt):X5 y=wpF Tryz.prog asv tt (noA y) 200 6 162 ((yZ 2 false).args y) (hO 4 ((yZ 2 false).os y)) (λv h'=>eG 4 y v h' (yZ 2 false).outs):=by kernel_rfl
def X6(y:ZPt):Prop:=
 ∃x:ZCk,lu x/\(0=0/\True)/\tu x y.a/\ ∀y_1:Unit,True->cP (decide ((y.t:Int)>=(x.c.t:Int))) (∃y_2:Unit,True/\(FX/\(8:Int)=1/\True)/\sZ/\tq y.a x/\tabA y.a.L=tabA y.a.L/\((2:Int)=2/\FW y)/\True) (iM/\I64 (1:Int)/\ ∃x_1:ZCk,lu x_1/\(0=0/\True)/\tC x_1 x/\ ∀y_2:Unit,True->cP (bne x_1.c.now y.e) (∃y_3:Unit,True/\Ar/\sZ/\tq y.a x_1/\tabA y.a.L=tabA y.a.L/\((2:Int)=2/\FW y)/\True) (iM/\(∃x_2:ZTq,lq x_2.s/\lF x_2.s y.x.key/\lD x_2.L y.a.L/\(∀y_3:Unit,lg x_2->True/\True/\True/\Nb y x_1 x_2.L)/\ ∀y_3:ZLnk,lC x_2 y_3->True/\XZ y_3 y x_1 x_2.L)/\(kE y.x.key/\AV.ptr 2 0=AV.ptr 2 0/\True)/\ ∃x_2:ZTq,lq x_2.s/\lF x_2.s y.x.key/\lD x_2.L y.a.L/\(∀y_3:Unit,lg x_2->True/\True/\Nb y x_1 x_2.L)/\ ∀y_3:ZLnk,lC x_2 y_3->XZ y_3 y x_1 x_2.L))
theorem aeh(y:ZPt):X6 y=wpF Tryz.prog asv tt (noA y) 200 6 162 ((yZ 2 true).args y) (hO 4 ((yZ 2 true).os y)) (λv h'=>eG 4 y v h' (yZ 2 true).outs):=by kernel_rfl
theorem Tt(y:ZPt)(hy:y.bad false):X5 y:=by
 obtain⟨b1,b2,b3,b4,b5⟩:=hy;unfold X5;simp only[lu,tu,FX,sZ,tq,wH,iM,tC,Ar,lq,lF,lD,lg,lC,X0,kE,Js];simp only[aZ,aV,aU,aA,aI,bQ,bF,aO,aK,ay,aX,aW,bT,bG,bH,bI,bU,bC,bJ,bn,eH,aH,aN,ah,ak,aB,aF,aC,aG];refine⟨y.a.ck,⟨b2,b1⟩,rfl,bf (λh=>absurd (aS h) (by show¬((y.t:Int)>=(y.a.c.t:Nat));omega)) λ_=>⟨by decide,by unfold I64;omega,y.a.ck,⟨b2,b1⟩,rfl,bf (λ_=>rfl) λh=>⟨by decide,⟨y.a.L,y.x.key⟩,b4,rfl,rfl,λhn=> ?_,λl hl=>⟨rfl,rfl⟩⟩⟩⟩;have h:y.a.c.now=y.e:=by have h:(y.a.c.now !=y.e)=false:=h;simpa using h
 exact(b5.elim (λe=>e h) λe=>e hn).elim
theorem asw{l k:ZLnk}(h:(!(l.key.toList==k.key.toList&&(l.id==k.id&&(l.ver==k.ver&&(l.line==k.line&&(l.cls==k.cls&&true))))))=false):l=k:=by
 simp only[Bool.not_eq_false',aJ,beq_iff_eq,aV]at h;obtain⟨h1,h2,h3,h4,h5⟩:=h;rw[iG,iG]at h1;exact ZLnk.ext5 (ByteArray.ext (Array.toList_inj.1 h1)) h2 h3 h4 h5
theorem Tv(y:ZPt)(hy:y.bad true):X6 y:=by
 obtain⟨b1,b2,b3,b4,b5⟩:=hy;unfold X6;simp only[lu,tu,FX,sZ,tq,FW,iM,tC,Ar,lq,lF,lD,lg,Nb,lC,XZ,kE,Js];simp only[aZ,aV,aU,aA,aI,bQ,bF,aO,aK,ay,aX,aW,bT,bG,bH,bI,bU,bC,bJ,bn,eH,aH,aN,ah,ak,aB,aF,aC,aG];refine⟨y.a.ck,⟨b2,b1⟩,rfl,bf (λh=>absurd (aS h) (by show¬((y.t:Int)>=(y.a.c.t:Nat));omega)) λ_=>⟨by decide,by unfold I64;omega,y.a.ck,⟨b2,b1⟩,rfl,bf (λ_=>rfl) λh=>⟨by decide,⟨y.a.L,y.x.key⟩,b4,rfl,rfl,λhn=>⟨rfl,rfl⟩,λl hl=>bf (λ_=>⟨rfl,rfl⟩) λhc=> ?_⟩⟩⟩;have h:y.a.c.now=y.e:=by have h:(y.a.c.now !=y.e)=false:=h;simpa using h
 have e:=asw hc;exact(b5.elim (λe=>e h) λe2=>e2 (hl.trans (congrArg some e))).elim
theorem Tz(y:ZPt)(hy:y.ok 2 false):X3 y:=by
 obtain⟨hg,c1,c2,c3,c4,c5,c6,c7,⟨i,j,⟨p1,p2,p3,p4,p5⟩,p6⟩,c8,c9⟩:=hy;obtain⟨o1,o2,o3,o4,o5,o6,o7,o8,o9,o10,o11,o12,o13,o14,o15,o16,o17,o18,o19,o20⟩:=id hg;have q10:0<=y.a.ver:=o10;have q11:y.a.ver<1152921504606846976:=o11;have q12:0<=y.a.id:=o12;have q13:y.a.id<1152921504606846976:=o13;have q4:y.t<y.a.c.t:=o4;have w1:IntKind.u64.wrap (y.a.ver+1)=y.a.ver+1:=iC (by omega) (by omega);have w2:IntKind.u64.wrap (y.a.id+1)=y.a.id+1:=iC (by omega) (by omega);have hq:ZBlk.may ⟨y.x.cls,1,1,1,y.e,y.x.key,y.x.value⟩:=by
  obtain⟨m0,m⟩:=o7;refine⟨m0,?_⟩;rcases m with ⟨m,_⟩|⟨_,m1,m2,m3,m4,_,_,m5⟩|⟨m,_⟩|⟨m,_⟩
  ·exact absurd (show(1:Int)=0 from m) (by decide)
  ·exact .inr (.inl ⟨rfl,m1,m2,m3,m4,⟨show(1:Int)<=1 by decide,show(1:Int)<=2305843009213693952 by decide⟩,⟨show(1:Int)<=1 by decide,show(1:Int)<=2305843009213693952 by decide⟩,m5⟩)
  ·exact absurd (show(1:Int)=2 from m) (by decide)
  ·exact absurd (show(1:Int)=3 from m) (by decide)
 have core: ∀R:Prop,R->cP (!(⟨y.x.cls,1,1,1,y.e,y.x.key,y.x.value⟩:ZBlk).OY) ((False/\(0:Int)=3)/\False) R:=λR h=>by rw[yN.2 hq,Bool.not_true,iy];exact h
 unfold X3;simp only[lu,tu,sW,nJ,iM,tC,qF,lq,lF,lD,lg,ajD,lC,kE,Na,MR,MX,MN,Aq,Ap,MV,MQ,MZ,MW,MP,MO,ML,wH,Js];simp only[aZ,aV,aU,aA,aI,bQ,bF,aO,aK,ay,aX,aW,bT,bG,bH,bI,bU,bC,bJ,bn,eH,aH,aN,ah,ak,aB,aF,aC,aG,w1,w2];refine⟨y.a.ck,⟨o3,o2⟩,rfl,bf (λh=>absurd (aS h) (by show¬((y.t:Int)>=(y.a.c.t:Nat));omega)) λ_=>⟨by decide,by unfold I64;omega,y.a.ck,⟨o3,o2⟩,rfl,bf (λh=>absurd c2 (bne_iff_ne.1 h)) λ_=>⟨by decide,⟨y.a.L,y.x.key⟩,o8,rfl,rfl,λ_=>⟨by unfold I64;omega,by decide,⟨y.a.p,i,j⟩,⟨c3,p1,p2,p3,p4⟩,p5.symm,rfl,bf (λh=>absurd p6 (bne_iff_ne.1 h)) λ_=>⟨y.us,⟨c4,c5,c6,c7⟩,rfl,⟨rfl,rfl,rfl⟩,λhu=>absurd hu c8,λ_=>⟨by unfold I64;omega,by decide,⟨y.x.cls,1,1,1,y.e,y.x.key,y.x.value⟩,⟨o8,o9⟩,⟨rfl,rfl,rfl,rfl,rfl,rfl,rfl⟩,core _ ?_⟩⟩⟩,λl hl=>absurd (c1.symm.trans hl) (by simp)⟩⟩⟩;rw[bne_self_eq_false,iy];refine bf (λh=>absurd (aS h) (by omega)) λ_=>⟨by unfold I64;omega,bf (λh=>absurd (aS h) (by omega)) λ_=>⟨by decide,by decide,y.a,?_,y.cg,hg,?_⟩⟩
 ·repeat' (first|exact rfl|refine And.intro ?_ ?_)
 ·repeat' (first|exact rfl|(intro q hq;have h0:q=0:=(by omega);subst h0;rfl)|(show I64 _;unfold I64;omega)|refine And.intro ?_ ?_)
theorem TA(y:ZPt)(hy:y.ok 2 true):X4 y:=by
 obtain⟨hg,c1,c2,c3,c4,c5,c6,c7,⟨i,j,⟨p1,p2,p3,p4,p5⟩,p6⟩,c8,c9⟩:=hy;obtain⟨o1,o2,o3,o4,o5,o6,o7,o8,o9,o10,o11,o12,o13,o14,o15,o16,o17,o18,o19,o20⟩:=id hg;have q10:0<=y.a.ver:=o10;have q11:y.a.ver<1152921504606846976:=o11;have q12:0<=y.a.id:=o12;have q13:y.a.id<1152921504606846976:=o13;have q4:y.t<y.a.c.t:=o4;have w1:IntKind.u64.wrap (y.a.ver+1)=y.a.ver+1:=iC (by omega) (by omega);have w2:IntKind.u64.wrap (y.a.id+1)=y.a.id+1:=iC (by omega) (by omega);have hq:ZBlk.may ⟨y.x.cls,1,1,1,y.e,y.x.key,y.x.value⟩:=by
  obtain⟨m0,m⟩:=o7;refine⟨m0,?_⟩;rcases m with ⟨m,_⟩|⟨_,m1,m2,m3,m4,_,_,m5⟩|⟨m,_⟩|⟨m,_⟩
  ·exact absurd (show(1:Int)=0 from m) (by decide)
  ·exact .inr (.inl ⟨rfl,m1,m2,m3,m4,⟨show(1:Int)<=1 by decide,show(1:Int)<=2305843009213693952 by decide⟩,⟨show(1:Int)<=1 by decide,show(1:Int)<=2305843009213693952 by decide⟩,m5⟩)
  ·exact absurd (show(1:Int)=2 from m) (by decide)
  ·exact absurd (show(1:Int)=3 from m) (by decide)
 have core: ∀R:Prop,R->cP (!(⟨y.x.cls,1,1,1,y.e,y.x.key,y.x.value⟩:ZBlk).OY) ((False/\(0:Int)=3)/\False) R:=λR h=>by rw[yN.2 hq,Bool.not_true,iy];exact h
 unfold X4;simp only[lu,tu,sW,kZ,iM,tC,qF,lq,lF,lD,lg,lC,ajC,kE,Na,MR,MX,MN,Aq,Ap,MV,MQ,MZ,MW,MP,MO,ML,FW,ajB,Js];simp only[aZ,aV,aU,aA,aI,bQ,bF,aO,aK,ay,aX,aW,bT,bG,bH,bI,bU,bC,bJ,bn,eH,aH,aN,ah,ak,aB,aF,aC,aG,w1,w2];refine⟨y.a.ck,⟨o3,o2⟩,rfl,bf (λh=>absurd (aS h) (by show¬((y.t:Int)>=(y.a.c.t:Nat));omega)) λ_=>⟨by decide,by unfold I64;omega,y.a.ck,⟨o3,o2⟩,rfl,bf (λh=>absurd c2 (bne_iff_ne.1 h)) λ_=>⟨by decide,⟨y.a.L,y.x.key⟩,o8,rfl,rfl,λhn=>absurd (c1.symm.trans hn) (by simp),λl hl=>bf (λhc=> ?_) λ_=>⟨by unfold I64;omega,by decide,⟨y.a.p,i,j⟩,⟨c3,p1,p2,p3,p4⟩,p5.symm,rfl,bf (λh=>absurd p6 (bne_iff_ne.1 h)) λ_=>⟨y.us,⟨c4,c5,c6,c7⟩,rfl,⟨rfl,rfl,rfl⟩,λhu=>absurd hu c8,λ_=>⟨by unfold I64;omega,by decide,⟨y.x.cls,1,1,1,y.e,y.x.key,y.x.value⟩,⟨o8,o9⟩,⟨rfl,rfl,rfl,rfl,rfl,rfl,rfl⟩,core _ ?_⟩⟩⟩⟩⟩⟩
 ·have e:l=y.x.old:=by have:=c1.symm.trans hl;simpa using this.symm
  subst e;simp at hc
 ·rw[bne_self_eq_false,iy]
  refine bf (λh=>absurd (aS h) (by omega)) λ_=>⟨by unfold I64;omega,bf (λh=>absurd (aS h) (by omega)) λ_=>⟨by decide,by decide,y.a,?_,y.cg,hg,?_⟩⟩
  ·repeat' (first|exact rfl|refine And.intro ?_ ?_)
  ·repeat' (first|exact rfl|(intro q hq;have h0:q=0:=(by omega);subst h0;rfl)|(show I64 _;unfold I64;omega)|refine And.intro ?_ ?_)
theorem aei:dY Tryz.prog (aoi 2 false):= .append dP (.cons (bM LW) (.cons (bM uZ) (.cons (bM Xa) (.cons (bM atX) (.cons (bM abm) (.cons (bM ahO) (.cons (Tq (bM aoe)) .nil)))))))
theorem aok:bY Tryz.prog 162 (aoh 2 false).ctr:=cO dD mixed aei 12 noA 200 6 (λ_=>⟨rfl,rfl,rfl,rfl⟩) λx hx=>Eq.mp (aee x) (Tz x (aZ.1 hx))
theorem aej:dY Tryz.prog (aoi 2 true):= .append dP (.cons (bM LW) (.cons (bM uZ) (.cons (bM Xa) (.cons (bM atX) (.cons (bM abm) (.cons (bM ahO) (.cons (Tq (bM aof)) .nil)))))))
theorem aol:bY Tryz.prog 162 (aoh 2 true).ctr:=cO dD mixed aej 12 noA 200 6 (λ_=>⟨rfl,rfl,rfl,rfl⟩) λx hx=>Eq.mp (aef x) (TA x (aZ.1 hx))
theorem abn:dY Tryz.prog asv:= .append dP (.cons aoj (.cons (bM LW) (.cons (bM uZ) (.cons (bM Xa) .nil))))
theorem aom:bY Tryz.prog 162 (yZ 2 false):=dL dD mixed abn noA 200 6 (λ_=>rfl) (λ_=>rfl) λx hx=>Eq.mp (aeg x) (Tt x (aZ.1 hx))
theorem aon:bY Tryz.prog 162 (yZ 2 true):=dL dD mixed abn noA 200 6 (λ_=>rfl) (λ_=>rfl) λx hx=>Eq.mp (aeh x) (Tv x (aZ.1 hx))
structure ZFp where
 key:ByteArray
 value:ByteArray
 to:ByteArray
 epoch:Int
 pos:ByteArray
 past:Bool
 had:Bool
 old:ZLnk
 line:Int
 cls:Int
 piece:Int
 code:Int
 found:Bool
 ans:ByteArray
 aep:Int
namespace ZFp
def l(f:ZFp)(k ph:Int)(b:AV):List AV:=[i64 k,.lit (.string f.key),.lit (.string f.value),.lit (.string f.to),ig,i64 ph,u64 f.epoch,.lit (.string f.pos),boo f.past,i64 0,boo f.had,.lit (.string f.old.key),u64 f.old.id,u64 f.old.ver,i64 f.old.line,i64 f.old.cls,i64 f.line,i64 f.cls,i64 f.piece,b,i64 0,ig,i64 f.code,boo f.found,.lit (.string f.ans),ig,ig,u64 f.aep]
def av(f:ZFp)(k ph:Int)(b:AV):AV:= .agg (f.l k ph b)
end ZFp
def goodP(k:Int)(key v:ByteArray):Int:=if key.size=0 then 1 else if 16<key.size\/k=2/\400<v.size then 5 else 0
structure ZPs where
 a:ZSto
 f:ZFp
 t:Nat
namespace ZSto
def GN(a:ZSto)(t:Nat)(v:Int):ZSto:={a with r:=a.r.put t v}
def X7(a:ZSto)(p:ZPool):ZSto:={a with p:=p}
def GR(a:ZSto)(d:DevM):ZSto:={a with d:=d}
end ZSto
namespace ZPs
noncomputable def nxt(x:ZPs):Option ZLnk:=nextL x.a.L (bkt x.f.key) x.f.pos x.f.past
def goes(x:ZPs)(y:ZLnk):Prop:=x.nxt=some y/\kl y.key x.f.key=true
def hit(x:ZPs)(y:ZLnk):Prop:=x.nxt=some y/\y.key=x.f.key
def miss(x:ZPs):Prop:= ∀y,x.nxt=some y->kl y.key x.f.key=false/\y.key≠x.f.key
def nd(x:ZPs)(k:Int):Int:=if k=2 then ned ((x.f.key.size+x.f.value.size:Nat):Int)else 0
end ZPs
def nx3(f:ZFp)(k:Int)(h:Bool):Int:=if k=1 then(if h=true then 2 else 6)else if k=3/\h=false then 6 else if f.line<0 then 3 else 5
noncomputable def qG(k:Int):jg:={X:=ZPs,args:=λx=>[.ptr 0 0,i64 x.t,x.f.av k 0 ig],k:=1,l:=λx=>[.m x.a.os],pre:=λx=>Hd (x.a.r.ok/\x.a.c.ok/\x.a.ph<=4/\x.t<x.a.r.t/\x.a.r.has x.t=0),outs:=[
 {Y:=Unit,post:=λx _=>Hd (goodP k x.f.key x.f.value≠0),ret:=λx _=>{x.f with code:=goodP k x.f.key x.f.value}.av k 7 ig,m:=1,l:=λx _=>[.m x.a.os]},
 {Y:=Unit,post:=λx _=>Hd (goodP k x.f.key x.f.value=0),ret:=λx _=>{x.f with epoch:=x.a.c.now}.av k 1 ig,m:=1,l:=λx _=>[.m (x.a.GN x.t x.a.r.now).os]}]}
noncomputable def tH(k:Int):jg:={X:=ZPs,args:=λx=>[.ptr 0 0,i64 x.t,x.f.av k 1 ig],k:=1,l:=λx=>[.m x.a.os],pre:=λx=>Hd (x.f.key.size<1099511627776/\x.f.pos.size<1099511627776/\(k=3->x.miss->x.f.line<0)),outs:=[
 {Y:=ZLnk,post:=λx y=>Hd (x.goes y),ret:=λx y=>{x.f with pos:=y.key,past:=true}.av k 1 ig,m:=1,l:=λx _=>[.m x.a.os]},
 {Y:=ZLnk,post:=λx y=>Hd (x.hit y),ret:=λx y=>{x.f with had:=true,old:=y,piece:=if k=1 then 0 else x.f.piece}.av k (nx3 x.f k true) ig,m:=1,l:=λx _=>[.m x.a.os]},
 {Y:=Unit,post:=λx _=>Hd x.miss,ret:=λx _=>{x.f with had:=false,old:=iT}.av k (nx3 x.f k false) ig,m:=1,l:=λx _=>[.m x.a.os]}]}
structure ZPg where
 a:ZSto
 f:ZFp
 t:Nat
 i:Nat
 k:Nat
def ZPg.pb(x:ZPg):fM:=⟨x.a.p,x.i,x.k⟩
def ZPg.fr(x:ZPg):ZFp:={x.f with line:=x.pb.line}
noncomputable def auT:jg:=ql ZPg (λx=>[.ptr 0 0,i64 x.t,x.fr.av 3 1 ig]) 1 (λx=>[.m x.a.os]) (λx=>Hd (x.f.key.size<1099511627776/\x.f.pos.size<1099511627776/\x.pb.ok/\ZPs.miss ⟨x.a,x.f,x.t⟩)) (λx=>{x.f with had:=false,old:=iT,line:= -1}.av 3 6 ig) 1 (λx=>[.m (x.a.X7 (x.a.p.give x.i x.k)).os])
noncomputable def TB(k:Int):jg:={X:=ZPs,args:=λx=>[.ptr 0 0,i64 x.t,x.f.av k 3 ig],k:=1,l:=λx=>[.m x.a.os],pre:=λx=>Hd (x.a.p.ok/\x.f.key.size<=16/\x.f.value.size<=400),outs:=[
 {Y:=Unit,post:=λx _=>Hd (∀i,i<x.a.p.n->x.a.p.cls i≠ -1/\x.a.p.full (x.nd k) i),ret:=λx _=>{x.f with cls:=x.nd k,code:=4}.av k 6 ig,m:=1,l:=λx _=>[.m x.a.os]},
 {Y:=Nat×Nat,post:=λx y=>Hd (x.a.p.takes (x.nd k) y.1 y.2),ret:=λx y=>{x.f with cls:=x.nd k,line:=2+y.1*8+y.2*spn (x.nd k),piece:=0}.av k 4 ig,m:=1,l:=λx y=>[.m (x.a.X7 (x.a.p.take (x.nd k) y.1 y.2)).os]}]}
noncomputable def qH(k:Int):jg:=ql ZPs (λx=>[.ptr 0 0,i64 x.t,x.f.av k 6 ig]) 1 (λx=>[.m x.a.os]) (λx=>Hd (x.a.r.ok/\x.t<x.a.r.t)) (λx=>x.f.av k 7 ig) 1 (λx=>[.m (x.a.GN x.t 0).os])
structure ZPw where
 a:ZSto
 f:ZFp
 t:Nat
 ln:Nat
 c:Int
 p:Nat
def ZPw.draft(x:ZPw):ZBlk:=⟨x.c,0,0,0,0,⟨#[]⟩,⟨#[]⟩⟩
def ZPw.blk(x:ZPw):ZBlk:=⟨x.c,1,0,0,0,x.f.key,x.f.value⟩
def ZPw.ok(x:ZPw):Prop:=x.a.d.ok/\0<=x.c/\x.c<=3/\x.ln+spn x.c<=x.a.d.n/\x.p<spn x.c/\x.f.key.size<=16/\x.f.value.size<=400/\x.a.d.st+10<1099511627776
noncomputable def ZPw.d'(x:ZPw):DevM:=if x.p=0 then x.a.d.store x.ln 0 64 (x.draft.jS (λ_=>0) (cpc x.c).toNat)else x.a.d.store (x.ln+x.p) 0 64 (λq=>x.blk.enc (64*x.p+q))
def ZPw.fr(x:ZPw)(p:Int):ZFp:={x.f with line:=x.ln,cls:=x.c,piece:=p}
noncomputable def FY(k:Int):jg:={X:=ZPw,args:=λx=>[.ptr 0 0,i64 x.t,(x.fr 0).av k 4 ig],k:=1,l:=λx=>[.m x.a.os],pre:=λx=>Hd (x.ok/\x.p=0),outs:=[
 {Y:=Unit,post:=λx _=>Hd (1≠spn x.c),ret:=λx _=>(x.fr 1).av k 4 ig,m:=1,l:=λx _=>[.m (x.a.GR x.d').os]},
 {Y:=Unit,post:=λx _=>Hd (1=spn x.c),ret:=λx _=>(x.fr 0).av k 5 ig,m:=1,l:=λx _=>[.m (x.a.GR x.d').os]}]}
noncomputable def FZ:jg:={X:=ZPw,args:=λx=>[.ptr 0 0,i64 x.t,(x.fr x.p).av 2 4 ig],k:=1,l:=λx=>[.m x.a.os],pre:=λx=>Hd (x.ok/\x.p≠0),outs:=[
 {Y:=Unit,post:=λx _=>Hd (x.p+1≠spn x.c),ret:=λx _=>(x.fr (x.p+1)).av 2 4 ig,m:=1,l:=λx _=>[.m (x.a.GR x.d').os]},
 {Y:=Unit,post:=λx _=>Hd (x.p+1=spn x.c),ret:=λx _=>(x.fr 0).av 2 5 ig,m:=1,l:=λx _=>[.m (x.a.GR x.d').os]}]}
structure ZPr where
 a:ZSto
 f:ZFp
 t:Nat
 b:ZBlk
 ln:Nat
 p:Nat
def ZPr.ok(x:ZPr):Prop:=x.a.d.ok/\x.b.may/\x.b.kind=1/\x.ln+spn x.b.cls<=x.a.d.n/\x.p<spn x.b.cls/\ ∀q,q<64*x.b.dK->x.a.d.b ((x.ln+q/64)*193+q%64)=x.b.enc q
def ZPr.fr(x:ZPr)(p:Int):ZFp:={x.f with had:=true,old:=⟨x.b.key,x.b.id,x.b.ver,x.ln,x.b.cls⟩,piece:=p}
def ZPr.fr2(x:ZPr)(p:Int):ZFp:={x.fr p with found:=true,ans:=x.b.value}
noncomputable def TF:jg:={X:=ZPr,args:=λx=>[.ptr 0 0,i64 x.t,(x.fr 0).av 1 2 ig],k:=1,l:=λx=>[.m x.a.os],pre:=λx=>Hd (x.ok/\x.p=0),outs:=[
 {Y:=Unit,post:=λx _=>Hd (1≠spn x.b.cls),ret:=λx _=>(x.fr 1).av 1 2 (.slW 1 0 1 64),m:=2,l:=λx _=>[.m x.a.os,.o (adv x.b.enc 64)]},
 {Y:=Unit,post:=λx _=>Hd (1=spn x.b.cls),ret:=λx _=>(x.fr2 1).av 1 6 ig,m:=1,l:=λx _=>[.m x.a.os]}]}
noncomputable def abo:jg:={X:=ZPr,args:=λx=>[.ptr 0 0,i64 x.t,(x.fr x.p).av 1 2 (.slW 1 0 1 (64*x.p))],k:=2,l:=λx=>[.m x.a.os,.o (adv x.b.enc (64*x.p))],pre:=λx=>Hd (x.ok/\x.p≠0),outs:=[
 {Y:=Unit,post:=λx _=>Hd (x.p+1≠spn x.b.cls),ret:=λx _=>(x.fr (x.p+1)).av 1 2 (.slW 2 0 1 (64*(x.p+1))),m:=3,l:=λx _=>[.m x.a.os,.o (adv x.b.enc (64*x.p)),.o (adv x.b.enc (64*(x.p+1)))]},
 {Y:=Unit,post:=λx _=>Hd (x.p+1=spn x.b.cls),ret:=λx _=>(x.fr2 (x.p+1)).av 1 6 ig,m:=2,l:=λx _=>[.m x.a.os,.o (adv x.b.enc (64*x.p))]}]}
structure ZDm where
 cls:Int
 id:Int
 ver:Int
 epoch:Int
 key:ByteArray
 value:ByteArray
 g:Nat->Int
def ZDm.b(x:ZDm):ZBlk:=⟨x.cls,1,x.id,x.ver,x.epoch,x.key,x.value⟩
noncomputable def auU:Ctr:=det ZDm (λx=>[.slW 0 0 1 (64*x.b.dK)]) 1 (λx=>[adv x.g (64*x.b.dK)]) (λx=>Hd (x.b.may/\x.b.key.size<1099511627776/\x.b.value.size<1099511627776/\ ∀k,k<64*x.b.dK->x.g k=x.b.enc k)) (λx=> .tup [x.b.av,boo true]) 1 (λx=>[adv x.g (64*x.b.dK)])
theorem asx:bY Tryz.prog 121 auU:=jP λx hx=>by
 have hx:=aZ.1 hx;refine⟨aro,auh,rfl,⟨x.b,x.g⟩,aZ.2 ⟨hx.1,hx.2.1,hx.2.2.1,hx.2.2.2⟩,rfl,rfl,λv h' hh=> ?_⟩;obtain⟨u,e1,e2,e3⟩:=jh hh;exact eP ⟨u,trivial,e2,e3⟩
structure ZPp where
 a:ZSto
 f:ZFp
 t:Nat
 ln:Nat
namespace ZPp
def pt(x:ZPp)(k:Int):ZPt:=⟨x.a,x.t,x.f.epoch,⟨k,x.f.key,x.f.value,x.f.had,x.f.old,x.ln,x.f.cls⟩,x.ln⟩
def fr(x:ZPp)(h:Bool):ZFp:={x.f with had:=h,line:=x.ln}
end ZPp
noncomputable def Nc(k:Int)(had:Bool):Ctr:=det ZPp (λx=>[.ptr 0 0,i64 x.t,(x.fr had).av k 5 ig]) 1 (λx=>[.abs (ownM x.a.os)]) (λx=>Hd ((x.pt k).ok k had)) (λx=>{x.fr had with found:=had,aep:=x.f.epoch,line:= -1}.av k 6 ig) 1 (λx=>[.abs (ownM ((x.pt k).cg.res k had).os)])
noncomputable def Nh(k:Int)(had:Bool):jg:=ql ZPp (λx=>[.ptr 0 0,i64 x.t,(x.fr had).av k 5 ig]) 1 (λx=>[.m x.a.os]) (λx=>Hd ((x.pt k).bad had)) (λx=>{x.fr had with epoch:=x.a.c.now,pos:=emp,past:=false,had:=false,old:=iT}.av k 1 ig) 1 (λx=>[.m x.a.os])
noncomputable def y5(k:Int):Ctr:=det ZPs (λx=>[.ptr 0 0,i64 x.t,x.f.av k 7 ig]) 1 (λx=>[.abs (ownM x.a.os)]) (λ_=>Hd True) (λx=>x.f.av k 7 ig) 1 (λx=>[.abs (ownM x.a.os)])
def aoo:dA:=arnS .any .any .any .any .any (.ptr 1 0) .any .any .any .any
noncomputable def vJ(k:Int):Ctr:={X:=ZPs,args:=λx=>[.ptr 0 0,i64 x.t,x.f.av k 1 ig],k:=2,os:=λx=>[aoo,.abs (tabA x.a.L)],pre:=λx=>Hd (x.f.key.size<1099511627776/\x.f.pos.size<1099511627776/\(k=3->x.miss->x.f.line<0)),outs:=[
 {Y:=ZLnk,post:=λx y=>Hd (x.goes y),ret:=λx y=>{x.f with pos:=y.key,past:=true}.av k 1 ig,m:=2,os:=λx _=>[aoo,.abs (tabA x.a.L)]},
 {Y:=ZLnk,post:=λx y=>Hd (x.hit y),ret:=λx y=>{x.f with had:=true,old:=y,piece:=if k=1 then 0 else x.f.piece}.av k (nx3 x.f k true) ig,m:=2,os:=λx _=>[aoo,.abs (tabA x.a.L)]},
 {Y:=Unit,post:=λx _=>Hd x.miss,ret:=λx _=>{x.f with had:=false,old:=iT}.av k (nx3 x.f k false) ig,m:=2,os:=λx _=>[aoo,.abs (tabA x.a.L)]}]}
noncomputable def asy:jv:=Fh++[(199,ctrT QI.ctr),(45,ctrT ajo)]
noncomputable def asA:jv:=Fh++[(183,ctrT Fp),(182,ctrT nextK.C),(65,ctrT ag4.ctr)]
noncomputable def auV:jv:=Fh++[(201,arH),(202,ctrT ag3.ctr)]
noncomputable def asB:jv:=Fh++[(113,aiv),(121,ctrT auU),(181,ctrT ahi.ctr)]
noncomputable def aop(k:Int)(had:Bool):jv:=Fh++[(162,ctrT (aoh k had).ctr)]
noncomputable def aoq(k:Int)(had:Bool):jv:=Fh++[(162,ctrT (yZ k had)),(45,ctrT ajo)]
def BU(a:ZSto):Prop:=ordA a.L=ordA a.L/\ownM a.l.os=ownM a.l.os/\(Nat.beq a.n 0=Nat.beq a.n 0/\a.n=a.n/\ ∀q:Nat,q<a.n->[Value.int .i64 (ZEff.kind (a.e q)),Value.string (ZEff.key (a.e q)),Value.string (ZEff.value (a.e q)),Value.int .u64 (ZEff.id (a.e q)),Value.int .u64 (ZEff.ver (a.e q)),Value.int .u64 (ZEff.epoch (a.e q)),Value.int .i64 (ZEff.group (a.e q))]=[Value.int .i64 (ZEff.kind (a.e q)),Value.string (ZEff.key (a.e q)),Value.string (ZEff.value (a.e q)),Value.int .u64 (ZEff.id (a.e q)),Value.int .u64 (ZEff.ver (a.e q)),Value.int .u64 (ZEff.epoch (a.e q)),Value.int .i64 (ZEff.group (a.e q))])/\True
def Jt(a:ZSto):Prop:=ownM a.b.os=ownM a.b.os/\tabA a.L=tabA a.L/\BU a
def qI:Prop:=0=0/\(1:Int)=1/\(0:Int)=0/\(0:Int)=0/\True
def bK(a:Int):Prop:=a=a
def iW(a:ZSto):Prop:=0=0/\0=0/\0=0/\0=0/\0=0/\0=0/\0=0/\0=0/\bK a.id/\bK a.ver/\(Nat.beq a.n 0=Nat.beq a.n 0/\a.n=a.n)/\True
def tJ(a:ZPw)(b:lN):Prop:=iW a.a/\qI/\ownM a.d'.os=ownM (DevM.os (b.d.store b.k b.a b.b.n (λ(q:Nat)=>b.b.g (b.b.q+q))))/\ownM a.a.p.os=ownM a.a.p.os/\ownM a.a.r.os=ownM a.a.r.os/\ownM (ZCk.os (ZSto.ck (a.a.GR a.d')))=ownM a.a.ck.os/\Jt a.a
def dW:Prop:=Value.slice none 0 0=Value.slice none 0 0
def jk(a:Int):Prop:=dW/\dW/\bK a/\True
def bW(a:ByteArray):Prop:=a=a
def lG(a:ZFp):Prop:=(0:Int)=0/\dW/\bK a.code/\a.found=a.found/\bW a.ans/\jk a.aep
def jK(a:ZFp):Prop:=dW/\lG a
def Au(a:ZPr):Prop:=64*a.p=64*a.p/\ ∀q:Nat,q<64*a.p->[Value.int .u8 (a.b.enc q)]=[Value.int .u8 (a.b.enc q)]
def tK(a:Nat):Prop:=(a:Int)+1=(a:Int)+1
def fZ(a:Nat):Prop:=(a:Int)=(a:Int)
def Aw(a:ZPr):Prop:=true=a.f.found/\a.b.value=a.f.ans/\jk a.f.aep
def nK(a:ZSto)(b:DevM):Prop:=qI/\ownM a.d.os=ownM b.os/\ownM a.p.os=ownM a.p.os/\ownM a.r.os=ownM a.r.os/\ownM a.ck.os=ownM a.ck.os/\Jt a
def F5(a:ZPr):Prop:=Hd ((a.p:Int)+1≠spn a.b.cls)
def Nj(a:ZPr)(b:DevM):Prop:=(∃y_2:Unit,F5 a/\False)\/ ∃y_2:Unit,Hd ((a.p:Int)+1=spn a.b.cls)/\((1:Int)=1/\bW a.f.key/\bW a.f.value/\bW a.f.to/\dW/\(6:Int)=6/\bK a.f.epoch/\bW a.f.pos/\a.f.past=a.f.past/\(0:Int)=0/\true=true/\bW a.b.key/\bK a.b.id/\bK a.b.ver/\fZ a.ln/\bK a.b.cls/\bK a.f.line/\bK a.f.cls/\tK a.p/\dW/\(0:Int)=0/\dW/\a.f.code=6/\Aw a)/\iW a.a/\Au a/\nK a.a b
def X8(a:ZPw)(b:lN):Prop:=Hd ((a.p:Int)+1≠spn a.c)/\((2:Int)=2/\bW a.f.key/\bW a.f.value/\bW a.f.to/\dW/\(4:Int)=4/\bK a.f.epoch/\bW a.f.pos/\a.f.past=a.f.past/\(0:Int)=0/\a.f.had=a.f.had/\bW a.f.old.key/\bK a.f.old.id/\bK a.f.old.ver/\bK a.f.old.line/\bK a.f.old.cls/\fZ a.ln/\bK a.c/\tK a.p/\jK a.f)/\tJ a b
def X9(a:ZPw)(b:lN):Prop:=Hd ((a.p:Int)+1≠spn a.c)/\((2:Int)=2/\bW a.f.key/\bW a.f.value/\bW a.f.to/\dW/\(4:Int)=5/\bK a.f.epoch/\bW a.f.pos/\a.f.past=a.f.past/\(0:Int)=0/\a.f.had=a.f.had/\bW a.f.old.key/\bK a.f.old.id/\bK a.f.old.ver/\bK a.f.old.line/\bK a.f.old.cls/\fZ a.ln/\bK a.c/\(a.p:Int)+1=0/\jK a.f)/\tJ a b
def Ya(a:ZPw)(b:lN):Prop:=Hd ((a.p:Int)+1=spn a.c)/\((2:Int)=2/\bW a.f.key/\bW a.f.value/\bW a.f.to/\dW/\(5:Int)=4/\bK a.f.epoch/\bW a.f.pos/\a.f.past=a.f.past/\(0:Int)=0/\a.f.had=a.f.had/\bW a.f.old.key/\bK a.f.old.id/\bK a.f.old.ver/\bK a.f.old.line/\bK a.f.old.cls/\fZ a.ln/\bK a.c/\0=(a.p:Int)+1/\jK a.f)/\tJ a b
def F6(a:ZPw):Prop:=bW a.f.key/\bW a.f.value/\bW a.f.to/\dW/\(5:Int)=5/\bK a.f.epoch/\bW a.f.pos/\a.f.past=a.f.past/\(0:Int)=0/\a.f.had=a.f.had/\bW a.f.old.key/\bK a.f.old.id/\bK a.f.old.ver/\bK a.f.old.line/\bK a.f.old.cls/\fZ a.ln/\bK a.c/\(0:Int)=0/\jK a.f
def Yb(a:ZPw)(b:lN):Prop:= ∀y:Unit,True->I64 ((a.p:Int)+1)/\True/\I64 ((a.p:Int)+1)/\cP (BEq.beq ((a.p:Int)+1) (spn a.c)) ((∃y_1:Unit,X9 a b)\/ ∃y_1:Unit,Hd ((a.p:Int)+1=spn a.c)/\((2:Int)=2/\F6 a)/\tJ a b) ((∃y_1:Unit,X8 a b)\/ ∃y_1:Unit,Ya a b)
def Nk(a:ZPr)(b:DevM):Prop:=(∃y_2:Unit,Hd ((1:Int)≠spn a.b.cls)/\False)\/ ∃y_2:Unit,Hd (1=spn a.b.cls)/\((1:Int)=1/\bW a.f.key/\bW a.f.value/\bW a.f.to/\dW/\(6:Int)=6/\bK a.f.epoch/\bW a.f.pos/\a.f.past=a.f.past/\(0:Int)=0/\true=true/\bW a.b.key/\bK a.b.id/\bK a.b.ver/\fZ a.ln/\bK a.b.cls/\bK a.f.line/\bK a.f.cls/\(1:Int)=1/\dW/\(0:Int)=0/\dW/\a.f.code=6/\Aw a)/\iW a.a/\nK a.a b
def Az(a:ZPt)(b:ZPp):Prop:=a.x.old.key=b.f.old.key/\a.x.old.id=b.f.old.id/\a.x.old.ver=b.f.old.ver/\a.x.old.line=b.f.old.line/\a.x.old.cls=b.f.old.cls/\(a.ln:Int)=(b.ln:Int)/\a.x.cls=b.f.cls/\True
def Yc(a:ZDm)(b:ZPr)(c:DevM):Prop:= ∀y_1:Unit,True->cP (BEq.beq a.id b.b.id) (cP (BEq.beq a.ver b.b.ver) (cP (Bool.not (BEq.beq (ByteArray.toList a.key) (ByteArray.toList b.b.key))) (Nj b c) ((∃y_2:Unit,F5 b/\False)\/ ∃y_2:Unit,Hd ((b.p:Int)+1=spn b.b.cls)/\((1:Int)=1/\bW b.f.key/\bW b.f.value/\bW b.f.to/\dW/\(6:Int)=6/\bK b.f.epoch/\bW b.f.pos/\b.f.past=b.f.past/\(0:Int)=0/\true=true/\bW b.b.key/\bK b.b.id/\bK b.b.ver/\fZ b.ln/\bK b.b.cls/\bK b.f.line/\bK b.f.cls/\tK b.p/\dW/\(0:Int)=0/\dW/\bK b.f.code/\true=true/\b.b.value=a.value/\jk b.f.aep)/\iW b.a/\Au b/\nK b.a c)) (Nj b c)) (Nj b c)
def Yd(a:ZSto)(b:ZCk)(c:Lks):Prop:=iW a/\qI/\ownM a.d.os=ownM a.d.os/\ownM a.p.os=ownM a.p.os/\ownM a.r.os=ownM a.r.os/\ownM a.ck.os=ownM b.os/\ownM a.b.os=ownM a.b.os/\tabA a.L=tabA c/\BU a
def Ye(a:ZPp)(b:Int):Prop:=bW a.f.key/\bW a.f.value/\bW a.f.to/\dW/\(1:Int)=1/\a.a.c.now=b/\emp=ByteArray.mk #[]/\false=false/\(0:Int)=0/\false=false/\ByteArray.mk #[]=ByteArray.mk #[]/\(0:Int)=0/\(0:Int)=0/\(0:Int)=0/\(0:Int)=0/\fZ a.ln/\bK a.f.cls/\bK a.f.piece/\jK a.f
def Nl(a:ZSto)(b:ZPp):Prop:= ∀y:Unit,True->True/\ ∃x_2:ZCk,Hd (x_2.ph<=4/\x_2.c.ok)/\(0=0/\True)/\(ownM x_2.os=ownM a.ck.os/\True)/\ ∀y_1:Unit,True-> ∃y_2:Unit,True/\((2:Int)=2/\Ye b x_2.c.now)/\Yd b.a x_2 a.L
def lH(a:Nat):Prop:=AV.lit (Value.int .i64 (a:Int))=AV.lit (Value.int .i64 (a:Int))
def tN(a:ZPp):Prop:=AV.lit (Value.int .u64 a.f.epoch)=AV.lit (Value.int .u64 a.f.epoch)/\lH a.t/\AV.ptr 0 0=AV.ptr 0 0/\True
def Np(a:ZFp):Prop:=bW a.key/\bW a.value/\bW a.to/\dW/\(7:Int)=7/\bK a.epoch/\bW a.pos/\a.past=a.past/\(0:Int)=0/\a.had=a.had/\bW a.old.key/\bK a.old.id/\bK a.old.ver/\bK a.old.line/\bK a.old.cls/\bK a.line/\bK a.cls/\bK a.piece/\jK a
def Yf(a:ZPr)(b:DevM):Prop:= ∃y_1:Unit,Hd ((a.p:Int)+1=spn a.b.cls)/\((1:Int)=1/\bW a.f.key/\bW a.f.value/\bW a.f.to/\dW/\(6:Int)=2/\bK a.f.epoch/\bW a.f.pos/\a.f.past=a.f.past/\(0:Int)=0/\true=true/\bW a.b.key/\bK a.b.id/\bK a.b.ver/\fZ a.ln/\bK a.b.cls/\bK a.f.line/\bK a.f.cls/\tK a.p/\False/\(0:Int)=0/\dW/\bK a.f.code/\Aw a)/\iW a.a/\Au a/\nK a.a b
def ajE(a:ZFp):Prop:=bW a.key/\bW a.value/\bW a.to/\dW/\(6:Int)=6/\bK a.epoch/\bW a.pos/\a.past=a.past/\(0:Int)=0/\true=true/\bW a.old.key/\bK a.old.id/\bK a.old.ver/\bK a.old.line/\bK a.old.cls/\(-(1:Int))=(-(1:Int))/\bK a.cls/\bK a.piece/\dW/\(0:Int)=0/\dW/\bK a.code/\true=true/\bW a.ans/\jk a.epoch
def Nq(a:lN)(b:DevM)(c:Int):Prop:=ownM a.d.os=ownM b.os/\(a.b.N=64/\ ∀q:Nat,q<a.b.N->[Value.int .u8 (a.b.g q)]=[Value.int .u8 (ZBlk.jS (ZBlk.mk c (0:Int) (0:Int) (0:Int) (0:Int) (ByteArray.mk #[]) (ByteArray.mk #[])) (λ(x_3:Nat)=>(0:Int)) (Int.toNat (cpc c)) q)])/\True
def Yg(a:ZPw)(b:Nat):Prop:=(Nat.beq (List.length [Value.int .u8 (dZ (ByteArray.extract (a.f.key++a.f.value) (Int.toNat (DI (imax (28+((a.p:Int)-1)*63) (0:Int)) ((ByteArray.size (a.f.key++a.f.value):Nat):Int))) (ByteArray.size (a.f.key++a.f.value))) b)]) 1&&List.all [Value.int .u8 (dZ (ByteArray.extract (a.f.key++a.f.value) (Int.toNat (DI (imax (28+((a.p:Int)-1)*63) (0:Int)) ((ByteArray.size (a.f.key++a.f.value):Nat):Int))) (ByteArray.size (a.f.key++a.f.value))) b)] Value.oneCell')=true
def ajF(a:ZPw):Prop:=bW a.f.key/\bW a.f.value/\bW a.f.to/\dW/\(4:Int)=4/\bK a.f.epoch/\bW a.f.pos/\a.f.past=a.f.past/\(0:Int)=0/\a.f.had=a.f.had/\bW a.f.old.key/\bK a.f.old.id/\bK a.f.old.ver/\bK a.f.old.line/\bK a.f.old.cls/\fZ a.ln/\bK a.c/\1=(0:Int)+1/\jK a.f
def ajG(a:ZPw):Prop:=bW a.f.key/\bW a.f.value/\bW a.f.to/\dW/\(5:Int)=4/\bK a.f.epoch/\bW a.f.pos/\a.f.past=a.f.past/\(0:Int)=0/\a.f.had=a.f.had/\bW a.f.old.key/\bK a.f.old.id/\bK a.f.old.ver/\bK a.f.old.line/\bK a.f.old.cls/\fZ a.ln/\bK a.c/\0=(0:Int)+1/\jK a.f
def tV(a:ZPt)(b:ZPp):Prop:=0=0/\(a.t:Int)=(b.t:Int)/\a.e=b.f.epoch/\(0=0/\1=1/\1=1)/\True
def ajH(a:ZPw):Prop:=bW a.f.key/\bW a.f.value/\bW a.f.to/\dW/\(4:Int)=5/\bK a.f.epoch/\bW a.f.pos/\a.f.past=a.f.past/\(0:Int)=0/\a.f.had=a.f.had/\bW a.f.old.key/\bK a.f.old.id/\bK a.f.old.ver/\bK a.f.old.line/\bK a.f.old.cls/\fZ a.ln/\bK a.c/\(1:Int)=0/\jK a.f
def F7(a:ZDm):Prop:=Hd (a.b.may/\a.key.size<1099511627776/\a.value.size<1099511627776/\ ∀k:Nat,k<64*a.b.dK->a.g k=a.b.enc k)
def AA(a:lN):Prop:=Hd (a.d.ok/\a.k<a.d.n/\a.b.ok/\a.a+a.b.n<=64)
def Nr:Prop:=True/\True/\True/\0=0/\True/\0=0/\True/\True/\True/\True/\True/\True
def F8(a:lN):Prop:=(a.a:Int)=0/\(a.b.q=0/\a.b.n=64)/\True
def Ns(a:ZPt)(b:ZPp):Prop:=a.x.key=b.f.key/\a.x.value=b.f.value/\true=true/\Az a b
def Nu(a:lN)(b:Nat):Prop:=0=0/\(a.k:Int)=(b:Int)/\F8 a
def tX:Prop:=(0:Int)<=5/\(0:Int)<=1
def Nv(a:ZDm)(b:Qq):Prop:=(64*a.b.dK=64/\ ∀q:Nat,q<64*a.b.dK->[Value.int .u8 (a.g q)]=[Value.int .u8 (b.d.b (b.k*193+(0+(q-0))))])/\True
def Nw(a:ZPt)(b:ZPp):Prop:=((2:Int)=2/\a.x.key=b.f.key/\a.x.value=b.f.value/\false=false/\Az a b)/\True
def ajI(x:ZPw):Prop:=
 ((0:Int)<=4/\(0:Int)<=2)/\ ∃x_1:Int,Hd (0<=x_1/\x_1<=3)/\(x_1=x.c/\True)/\True/\ ∀y:Unit,True-> ∃x_2:lN,AA x_2/\Nu x_2 x.ln/\Nq x_2 x.a.d x_1/\ ∀y_1:Unit,True->I64 (1:Int)/\True/\I64 ((0:Int)+1)/\cP (BEq.beq (1:Int) (spn x.c)) ((∃y_2:Unit,Hd ((1:Int)≠spn x.c)/\((2:Int)=2/\ajH x)/\tJ x x_2)\/ ∃y_2:Unit,Hd (1=spn x.c)/\((2:Int)=2/\F6 x)/\tJ x x_2) ((∃y_2:Unit,Hd ((1:Int)≠spn x.c)/\((2:Int)=2/\ajF x)/\tJ x x_2)\/ ∃y_2:Unit,Hd (1=spn x.c)/\((2:Int)=2/\ajG x)/\tJ x x_2)
theorem ajJ(x:ZPw):ajI x=wpF Tryz.prog arI tt (noA x) 200 6 34 ((FY 2).args x) (hO 11 (flatP 1 ((FY 2).l x))) (λv h'=>endsPK 1 x v h' (FY 2).outs):=by kernel_rfl
def asC(x:ZPw):Prop:=
 ((0:Int)<=4/\(0:Int)<=2)/\cP (BEq.beq (x.p:Int) (0:Int)) (∃x_1:Int,Hd (0<=x_1/\x_1<=3)/\(x_1=x.c/\True)/\True/\ ∀y:Unit,True-> ∃x_2:lN,AA x_2/\Nu x_2 x.ln/\Nq x_2 x.a.d x_1/\ ∀y_1:Unit,True->I64 ((x.p:Int)+1)/\True/\I64 ((x.p:Int)+1)/\cP (BEq.beq ((x.p:Int)+1) (spn x.c)) ((∃y_2:Unit,X9 x x_2)\/ ∃y_2:Unit,Hd ((x.p:Int)+1=spn x.c)/\((2:Int)=2/\F6 x)/\tJ x x_2) ((∃y_2:Unit,X8 x x_2)\/ ∃y_2:Unit,Ya x x_2)) (((0:Int)<=64/\(0:Int)<=0/\(0:Int)<=281474976710592/\(0:Int)<=4611686018427387839)/\((0:Int)<=0/\(0:Int)<=63)/\0<64/\((x.f.key.size+x.f.value.size:Nat):Int)<=9223372036854775807/\I64 ((x.p:Int)-1)/\I64 (((x.p:Int)-1)*63)/\I64 (28+((x.p:Int)-1)*63)/\(0:Int)<=1/\(1<=64/\64<=64/\64<=64)/\0<=DI (imax (28+((x.p:Int)-1)*63) (0:Int)) ((ByteArray.size (x.f.key++x.f.value):Nat):Int)/\(Int.toNat (DI (imax (28+((x.p:Int)-1)*63) (0:Int)) ((ByteArray.size (x.f.key++x.f.value):Nat):Int))<=ByteArray.size (x.f.key++x.f.value)/\ByteArray.size (x.f.key++x.f.value)<=ByteArray.size (x.f.key++x.f.value)/\ByteArray.size (x.f.key++x.f.value)<=ByteArray.size (x.f.key++x.f.value))/\64<=64/\
 cP (Nat.ble (ByteArray.size (ByteArray.extract (x.f.key++x.f.value) (Int.toNat (DI (imax (28+((x.p:Int)-1)*63) (0:Int)) ((ByteArray.size (x.f.key++x.f.value):Nat):Int))) (ByteArray.size (x.f.key++x.f.value)))) 63) ((∀k:Nat,k<ByteArray.size (ByteArray.extract (x.f.key++x.f.value) (Int.toNat (DI (imax (28+((x.p:Int)-1)*63) (0:Int)) ((ByteArray.size (x.f.key++x.f.value):Nat):Int))) (ByteArray.size (x.f.key++x.f.value)))->Yg x k)/\True/\I64 ((x.ln:Int)+(x.p:Int))/\ ∃x_1:lN,AA x_1/\(0=0/\(x_1.k:Int)=(x.ln:Int)+(x.p:Int)/\F8 x_1)/\(ownM x_1.d.os=ownM x.a.d.os/\(x_1.b.N=64/\ ∀q:Nat,q<x_1.b.N->[Value.int .u8 (x_1.b.g q)]=Cs.eff (λ(p:Nat)=>cond (Nat.ble 1 p&&Nat.blt p (1+ByteArray.size (ByteArray.extract (x.f.key++x.f.value) (Int.toNat (DI (imax (28+((x.p:Int)-1)*63) (0:Int)) ((ByteArray.size (x.f.key++x.f.value):Nat):Int))) (ByteArray.size (x.f.key++x.f.value))))) [Value.int .u8 (dZ (ByteArray.extract (x.f.key++x.f.value) (Int.toNat (DI (imax (28+((x.p:Int)-1)*63) (0:Int)) ((ByteArray.size (x.f.key++x.f.value):Nat):Int))) (ByteArray.size (x.f.key++x.f.value))) (p-1))] (Cs.eff (λ(x_2:Nat)=>[Value.int .u8 0]) [(0,[Value.int .u8 2])] p)) [] q)/\True)/\Yb x x_1) ((∀k:Nat,k<63->Yg x k)/\True/\I64 ((x.ln:Int)+(x.p:Int))/\ ∃x_1:lN,AA x_1/\(0=0/\(x_1.k:Int)=(x.ln:Int)+(x.p:Int)/\F8 x_1)/\(ownM x_1.d.os=ownM x.a.d.os/\(x_1.b.N=64/\
 ∀q:Nat,q<x_1.b.N->[Value.int .u8 (x_1.b.g q)]=Cs.eff (λ(p:Nat)=>cond (Nat.ble 1 p&&Nat.blt p 64) [Value.int .u8 (dZ (ByteArray.extract (x.f.key++x.f.value) (Int.toNat (DI (imax (28+((x.p:Int)-1)*63) (0:Int)) ((ByteArray.size (x.f.key++x.f.value):Nat):Int))) (ByteArray.size (x.f.key++x.f.value))) (p-1))] (Cs.eff (λ(x_2:Nat)=>[Value.int .u8 0]) [(0,[Value.int .u8 2])] p)) [] q)/\True)/\Yb x x_1))
theorem aor(x:ZPw):asC x=wpF Tryz.prog arI tt (noA x) 200 6 34 ((FZ).args x) (hO 11 (flatP 1 ((FZ).l x))) (λv h'=>endsPK 1 x v h' (FZ).outs):=by kernel_rfl
def ajK(x:ZPr):Prop:=
 ((0:Int)<=2/\(0:Int)<=4)/\I64 ((x.ln:Int)+0)/\(AV.lit (Value.int .i64 0)=AV.lit (Value.int .i64 0)/\lH x.ln/\True)/\ ∃x_1:Qq,Hd (x_1.d.ok/\x_1.k<x_1.d.n)/\(0=0/\(x_1.k:Int)=(x.ln:Int)+0/\True)/\(ownM x_1.d.os=ownM x.a.d.os/\True)/\ ∀y:Unit,True->True/\64<=64/\(2*(0+64)+1000)*1<=281474976710656/\I64 (1:Int)/\(AV.lit (Value.int .i64 1)=AV.lit (Value.int .i64 1)/\True)/\cP (Bool.not (BEq.beq (1:Int) (spn x.b.cls))) ((∃y_1:Unit,Hd ((1:Int)≠spn x.b.cls)/\((1:Int)=1/\bW x.f.key/\bW x.f.value/\bW x.f.to/\dW/\(2:Int)=2/\bK x.f.epoch/\bW x.f.pos/\x.f.past=x.f.past/\(0:Int)=0/\true=true/\bW x.b.key/\bK x.b.id/\bK x.b.ver/\fZ x.ln/\bK x.b.cls/\bK x.f.line/\bK x.f.cls/\(1:Int)=1/\(0=0/\64=64)/\lG x.f)/\iW x.a/\(64=64/\ ∀q:Nat,q<64->[Value.int .u8 (x.b.enc q)]=[Value.int .u8 (x_1.d.b (x_1.k*193+(0+(q-0))))])/\nK x.a x_1.d)\/ ∃y_1:Unit,Hd (1=spn x.b.cls)/\((1:Int)=1/\bW x.f.key/\bW x.f.value/\bW x.f.to/\dW/\(6:Int)=2/\bK x.f.epoch/\bW x.f.pos/\x.f.past=x.f.past/\(0:Int)=0/\true=true/\bW x.b.key/\bK x.b.id/\bK x.b.ver/\fZ x.ln/\bK x.b.cls/\bK x.f.line/\bK x.f.cls/\(1:Int)=1/\False/\(0:Int)=0/\dW/\bK x.f.code/\Aw x)/\iW x.a/\nK x.a x_1.d) (∃x_2:ZDm,F7 x_2/\((0=0/\64*x_2.b.dK=64)/\True)/\Nv x_2 x_1/\
 ∀y_1:Unit,True->cP (BEq.beq x_2.id x.b.id) (cP (BEq.beq x_2.ver x.b.ver) (cP (Bool.not (BEq.beq (ByteArray.toList x_2.key) (ByteArray.toList x.b.key))) (Nk x x_1.d) ((∃y_2:Unit,Hd ((1:Int)≠spn x.b.cls)/\False)\/ ∃y_2:Unit,Hd (1=spn x.b.cls)/\((1:Int)=1/\bW x.f.key/\bW x.f.value/\bW x.f.to/\dW/\(6:Int)=6/\bK x.f.epoch/\bW x.f.pos/\x.f.past=x.f.past/\(0:Int)=0/\true=true/\bW x.b.key/\bK x.b.id/\bK x.b.ver/\fZ x.ln/\bK x.b.cls/\bK x.f.line/\bK x.f.cls/\(1:Int)=1/\dW/\(0:Int)=0/\dW/\bK x.f.code/\true=true/\x.b.value=x_2.value/\jk x.f.aep)/\iW x.a/\nK x.a x_1.d)) (Nk x x_1.d)) (Nk x x_1.d))
theorem ajL(x:ZPr):ajK x=wpF Tryz.prog asB tt (noA x) 200 6 34 ((TF).args x) (hO 11 (flatP 1 ((TF).l x))) (λv h'=>endsPK 1 x v h' (TF).outs):=by kernel_rfl
def ajM(x:ZPr):Prop:=
 0+64*x.p<=64*x.p/\cP (Nat.beq (64*x.p) 0) (((0:Int)<=2/\(0:Int)<=4)/\I64 ((x.ln:Int)+(x.p:Int))/\(lH x.p/\lH x.ln/\True)/\ ∃x_1:Qq,Hd (x_1.d.ok/\x_1.k<x_1.d.n)/\(0=0/\(x_1.k:Int)=(x.ln:Int)+(x.p:Int)/\True)/\(ownM x_1.d.os=ownM x.a.d.os/\True)/\ ∀y:Unit,True->True/\64<=64/\(2*(0+64)+1000)*1<=281474976710656/\I64 ((x.p:Int)+1)/\(AV.lit (Value.int .i64 ((x.p:Int)+1))=AV.lit (Value.int .i64 ((x.p:Int)+1))/\True)/\cP (Bool.not (BEq.beq ((x.p:Int)+1) (spn x.b.cls))) ((∃y_1:Unit,F5 x/\((1:Int)=1/\bW x.f.key/\bW x.f.value/\bW x.f.to/\dW/\(2:Int)=2/\bK x.f.epoch/\bW x.f.pos/\x.f.past=x.f.past/\(0:Int)=0/\true=true/\bW x.b.key/\bK x.b.id/\bK x.b.ver/\fZ x.ln/\bK x.b.cls/\bK x.f.line/\bK x.f.cls/\tK x.p/\(0=0/\64*(x.p+1)=64)/\lG x.f)/\iW x.a/\Au x/\(64*(x.p+1)=64/\ ∀q:Nat,q<64*(x.p+1)->[Value.int .u8 (x.b.enc q)]=[Value.int .u8 (x_1.d.b (x_1.k*193+(0+(q-0))))])/\nK x.a x_1.d)\/Yf x x_1.d) (∃x_2:ZDm,F7 x_2/\((0=0/\64*x_2.b.dK=64)/\True)/\Nv x_2 x_1/\Yc x_2 x x_1.d)) ((2*(0+64*x.p)+1000)*1<=281474976710656/\((0:Int)<=2/\(0:Int)<=4)/\I64 ((x.ln:Int)+(x.p:Int))/\(lH x.p/\lH x.ln/\True)/\ ∃x_1:Qq,Hd (x_1.d.ok/\x_1.k<x_1.d.n)/\(0=0/\(x_1.k:Int)=(x.ln:Int)+(x.p:Int)/\True)/\(ownM x_1.d.os=ownM x.a.d.os/\True)/\ ∀y:Unit,True->True/\0+64*x.p=0+64*x.p/\64<=64/\
 (∀k:Nat,k<64->(Nat.beq (List.length [Value.int .u8 (x_1.d.b (x_1.k*193+(0+k)))]) 1&&List.all [Value.int .u8 (x_1.d.b (x_1.k*193+(0+k)))] Value.oneCell')=true)/\(2*(0+64*x.p+64)+1000)*1<=281474976710656/\I64 ((x.p:Int)+1)/\(AV.lit (Value.int .i64 ((x.p:Int)+1))=AV.lit (Value.int .i64 ((x.p:Int)+1))/\True)/\cP (Bool.not (BEq.beq ((x.p:Int)+1) (spn x.b.cls))) ((∃y_1:Unit,F5 x/\((1:Int)=1/\bW x.f.key/\bW x.f.value/\bW x.f.to/\dW/\(2:Int)=2/\bK x.f.epoch/\bW x.f.pos/\x.f.past=x.f.past/\(0:Int)=0/\true=true/\bW x.b.key/\bK x.b.id/\bK x.b.ver/\fZ x.ln/\bK x.b.cls/\bK x.f.line/\bK x.f.cls/\tK x.p/\(0=0/\64*(x.p+1)=0+64*x.p+64)/\lG x.f)/\iW x.a/\Au x/\(64*(x.p+1)=0+64*x.p+64/\ ∀q:Nat,q<64*(x.p+1)->[Value.int .u8 (x.b.enc q)]=Cs.eff (λ(q_1:Nat)=>cond (Nat.blt q_1 (0+64*x.p)) [Value.int .u8 (x.b.enc (0+(q_1-0)))] [Value.int .u8 (x_1.d.b (x_1.k*193+(0+(q_1-(0+64*x.p)))))]) [] q)/\nK x.a x_1.d)\/Yf x x_1.d) (∃x_2:ZDm,F7 x_2/\((0=0/\64*x_2.b.dK=0+64*x.p+64)/\True)/\((64*x_2.b.dK=0+64*x.p+64/\ ∀q:Nat,q<64*x_2.b.dK->[Value.int .u8 (x_2.g q)]=Cs.eff (λ(q_1:Nat)=>cond (Nat.blt q_1 (0+64*x.p)) [Value.int .u8 (x.b.enc (0+(q_1-0)))] [Value.int .u8 (x_1.d.b (x_1.k*193+(0+(q_1-(0+64*x.p)))))]) [] q)/\True)/\Yc x_2 x x_1.d))
theorem ajN(x:ZPr):ajM x=wpF Tryz.prog asB tt (noA x) 200 6 34 ((abo).args x) (hO 12 (flatP 2 ((abo).l x))) (λv h'=>endsPK 2 x v h' (abo).outs):=by kernel_rfl
def Yh(x:ZPp):Prop:=
 tX/\tN x/\ ∃x_1:ZPt,Hd (x_1.ok (2:Int) false)/\tV x_1 x/\(ownM x_1.a.os=ownM x.a.os/\Nw x_1 x)/\ ∀y:Unit,True->True/\((0:Int)<=0/\(0:Int)<=0)/\0<1/\True/\True/\True/\True/\ ∃y_1:Unit,True/\((2:Int)=2/\bW x.f.key/\bW x.f.value/\bW x.f.to/\dW/\(6:Int)=6/\bK x.f.epoch/\bW x.f.pos/\x.f.past=x.f.past/\(0:Int)=0/\false=false/\bW x.f.old.key/\bK x.f.old.id/\bK x.f.old.ver/\bK x.f.old.line/\bK x.f.old.cls/\(-(1:Int))=(-(1:Int))/\bK x.f.cls/\bK x.f.piece/\dW/\(0:Int)=0/\dW/\bK x.f.code/\false=false/\bW x.f.ans/\jk x.f.epoch)/\ownM (ZSto.os (ZCg.res (ZPt.cg (x.pt (2:Int))) (2:Int) false))=ownM (ZSto.os (x_1.cg.res (2:Int) false))/\True
theorem aek(x:ZPp):Yh x=wpF Tryz.prog (aop 2 false) tt (noA x) 200 6 34 ((Nc 2 false).args x) (hO 1 ((Nc 2 false).os x)) (λv h'=>eG 1 x v h' (Nc 2 false).outs):=by kernel_rfl
def Yi(x:ZPp):Prop:=
 tX/\tN x/\ ∃x_1:ZPt,Hd (x_1.bad false)/\tV x_1 x/\(Nr/\ownM x_1.a.ck.os=ownM x.a.ck.os/\tabA x_1.a.L=tabA x.a.L/\Nw x_1 x)/\Nl x_1.a x
theorem ael(x:ZPp):Yi x=wpF Tryz.prog (aoq 2 false) tt (noA x) 200 6 34 ((Nh 2 false).args x) (hO 11 (flatP 1 ((Nh 2 false).l x))) (λv h'=>endsPK 1 x v h' (Nh 2 false).outs):=by kernel_rfl
def Yj(x:ZPp):Prop:=
 tX/\tN x/\ ∃x_1:ZPt,Hd (x_1.ok (2:Int) true)/\tV x_1 x/\(ownM x_1.a.os=ownM x.a.os/\((2:Int)=2/\Ns x_1 x)/\True)/\ ∀y:Unit,True->True/\((0:Int)<=0/\(0:Int)<=0)/\0<1/\True/\True/\True/\True/\ ∃y_1:Unit,True/\((2:Int)=2/\ajE x.f)/\ownM (ZSto.os (ZCg.res (ZPt.cg (x.pt (2:Int))) (2:Int) true))=ownM (ZSto.os (x_1.cg.res (2:Int) true))/\True
theorem aem(x:ZPp):Yj x=wpF Tryz.prog (aop 2 true) tt (noA x) 200 6 34 ((Nc 2 true).args x) (hO 1 ((Nc 2 true).os x)) (λv h'=>eG 1 x v h' (Nc 2 true).outs):=by kernel_rfl
def Yk(x:ZPp):Prop:=
 tX/\tN x/\ ∃x_1:ZPt,Hd (x_1.bad true)/\tV x_1 x/\(Nr/\ownM x_1.a.ck.os=ownM x.a.ck.os/\tabA x_1.a.L=tabA x.a.L/\((2:Int)=2/\Ns x_1 x)/\True)/\Nl x_1.a x
theorem aen(x:ZPp):Yk x=wpF Tryz.prog (aoq 2 true) tt (noA x) 200 6 34 ((Nh 2 true).args x) (hO 11 (flatP 1 ((Nh 2 true).l x))) (λv h'=>endsPK 1 x v h' (Nh 2 true).outs):=by kernel_rfl
def ajO(x:ZPs):Prop:=
 ∃y:Unit,True/\((1:Int)=1/\Np x.f)/\ownM x.a.os=ownM x.a.os/\True
theorem ajP(x:ZPs):ajO x=wpF Tryz.prog Fh tt (noA x) 200 6 34 ((y5 1).args x) (hO 1 ((y5 1).os x)) (λv h'=>eG 1 x v h' (y5 1).outs):=by kernel_rfl
def ajQ(x:ZPs):Prop:=
 ∃y:Unit,True/\((2:Int)=2/\Np x.f)/\ownM x.a.os=ownM x.a.os/\True
theorem ajR(x:ZPs):ajQ x=wpF Tryz.prog Fh tt (noA x) 200 6 34 ((y5 2).args x) (hO 1 ((y5 2).os x)) (λv h'=>eG 1 x v h' (y5 2).outs):=by kernel_rfl
def eY:Prop:=Value.slice none 0 0=Value.slice none 0 0
def cZ(a:ByteArray):Prop:=a=a
def tY(a:ZFp):Prop:=eY/\(0:Int)=0/\eY/\a.code=a.code/\a.found=a.found/\cZ a.ans/\eY/\eY/\a.aep=a.aep/\True
def Ny(a:ZFp):Prop:=a.line=a.line/\a.cls=a.cls/\ite ((2:Int)=1) (0:Int) a.piece=a.piece/\tY a
def Nz(a:ZLnk):Prop:=AV.agg [AV.lit (Value.string a.key),AV.lit (Value.int .u64 a.id),AV.lit (Value.int .u64 a.ver),AV.lit (Value.int .i64 a.line),AV.lit (Value.int .i64 a.cls)]=AV.agg [AV.lit (Value.string a.key),AV.lit (Value.int .u64 a.id),AV.lit (Value.int .u64 a.ver),AV.lit (Value.int .i64 a.line),AV.lit (Value.int .i64 a.cls)]/\True
def tZ(a:ZFp):Prop:=a.line=a.line/\a.cls=a.cls/\a.piece=a.piece/\tY a
def F9(a:ZFp):Prop:=a.epoch=a.epoch/\cZ a.pos/\a.past=a.past/\(0:Int)=0/\false=false/\ByteArray.mk #[]=ByteArray.mk #[]/\(0:Int)=0/\(0:Int)=0/\(0:Int)=0/\(0:Int)=0/\tZ a
def Gf(a:ZFp)(b:ByteArray):Prop:=a.epoch=a.epoch/\b=a.pos/\true=a.past/\(0:Int)=0/\a.had=false/\a.old.key=ByteArray.mk #[]/\a.old.id=0/\a.old.ver=0/\a.old.line=0/\a.old.cls=0/\tZ a
def Yl(a:ZFp)(b:ZLnk):Prop:=a.epoch=a.epoch/\cZ a.pos/\a.past=a.past/\(0:Int)=0/\true=false/\b.key=ByteArray.mk #[]/\b.id=0/\b.ver=0/\b.line=0/\b.cls=0/\Ny a
def fC(a:Lks)(b:Lks):Prop:=(True/\True/\True/\True/\True/\0=0/\True/\True/\True/\True/\True/\True)/\tabA a=tabA b/\True
def NC(a:ZPs)(b:Lks):Prop:=cP (decide (a.f.line<0)) ((∃y_2:ZLnk,Hd (a.goes y_2)/\((2:Int)=2/\cZ a.f.key/\cZ a.f.value/\cZ a.f.to/\eY/\(1:Int)=3/\Gf a.f y_2.key)/\fC a.a.L b)\/(∃y_2:ZLnk,Hd (a.hit y_2)/\((2:Int)=2/\cZ a.f.key/\cZ a.f.value/\cZ a.f.to/\eY/\nx3 a.f (2:Int) true=3/\Yl a.f y_2)/\fC a.a.L b)\/ ∃y_2:Unit,Hd a.miss/\((2:Int)=2/\cZ a.f.key/\cZ a.f.value/\cZ a.f.to/\eY/\nx3 a.f (2:Int) false=3/\F9 a.f)/\fC a.a.L b) ((∃y_2:ZLnk,Hd (a.goes y_2)/\((2:Int)=2/\cZ a.f.key/\cZ a.f.value/\cZ a.f.to/\eY/\(1:Int)=5/\Gf a.f y_2.key)/\fC a.a.L b)\/(∃y_2:ZLnk,Hd (a.hit y_2)/\((2:Int)=2/\cZ a.f.key/\cZ a.f.value/\cZ a.f.to/\eY/\nx3 a.f (2:Int) true=5/\Yl a.f y_2)/\fC a.a.L b)\/ ∃y_2:Unit,Hd a.miss/\((2:Int)=2/\cZ a.f.key/\cZ a.f.value/\cZ a.f.to/\eY/\nx3 a.f (2:Int) false=5/\F9 a.f)/\fC a.a.L b)
def ND(a:ZFp)(b:ByteArray):Prop:=a.epoch=a.epoch/\a.pos=b/\a.past=true/\(0:Int)=0/\false=a.had/\ByteArray.mk #[]=a.old.key/\0=a.old.id/\0=a.old.ver/\0=a.old.line/\0=a.old.cls/\tZ a
def Ym(a:ZFp)(b:ByteArray)(c:ZLnk):Prop:=a.epoch=a.epoch/\b=a.pos/\true=a.past/\(0:Int)=0/\a.had=true/\a.old.key=c.key/\a.old.id=c.id/\a.old.ver=c.ver/\a.old.line=c.line/\a.old.cls=c.cls/\tZ a
def Yn(a:ZFp)(b:ZLnk)(c:ZLnk):Prop:=a.epoch=a.epoch/\cZ a.pos/\a.past=a.past/\(0:Int)=0/\true=true/\b.key=c.key/\b.id=c.id/\b.ver=c.ver/\b.line=c.line/\b.cls=c.cls/\Ny a
def Yo(a:ZFp)(b:ZLnk):Prop:=a.epoch=a.epoch/\cZ a.pos/\a.past=a.past/\(0:Int)=0/\false=true/\ByteArray.mk #[]=b.key/\0=b.id/\0=b.ver/\0=b.line/\0=b.cls/\tZ a
def NG(a:ZFp)(b:ByteArray)(c:ByteArray):Prop:=cZ a.key/\cZ a.value/\cZ a.to/\eY/\(1:Int)=1/\a.epoch=a.epoch/\b=c/\true=true/\(0:Int)=0/\a.had=a.had/\cZ a.old.key/\a.old.id=a.old.id/\a.old.ver=a.old.ver/\a.old.line=a.old.line/\a.old.cls=a.old.cls/\tZ a
def ajS(a:ZLnk)(b:ZPs)(c:Lks):Prop:=True/\True/\cP (@Op.bytesLess (ByteArray.toList a.key) (ByteArray.toList b.f.key)) ((∃y_2:ZLnk,Hd (b.goes y_2)/\((2:Int)=2/\NG b.f y_2.key a.key)/\fC b.a.L c)\/(∃y_2:ZLnk,Hd (b.hit y_2)/\((2:Int)=2/\cZ b.f.key/\cZ b.f.value/\cZ b.f.to/\eY/\nx3 b.f (2:Int) true=1/\b.f.epoch=b.f.epoch/\b.f.pos=a.key/\b.f.past=true/\(0:Int)=0/\true=b.f.had/\y_2.key=b.f.old.key/\y_2.id=b.f.old.id/\y_2.ver=b.f.old.ver/\y_2.line=b.f.old.line/\y_2.cls=b.f.old.cls/\Ny b.f)/\fC b.a.L c)\/ ∃y_2:Unit,Hd b.miss/\((2:Int)=2/\cZ b.f.key/\cZ b.f.value/\cZ b.f.to/\eY/\nx3 b.f (2:Int) false=1/\ND b.f a.key)/\fC b.a.L c) (cP (BEq.beq (ByteArray.toList a.key) (ByteArray.toList b.f.key)) (Nz a/\True/\cP (decide (b.f.line<0)) ((∃y_2:ZLnk,Hd (b.goes y_2)/\((2:Int)=2/\cZ b.f.key/\cZ b.f.value/\cZ b.f.to/\eY/\(1:Int)=3/\Ym b.f y_2.key a)/\fC b.a.L c)\/(∃y_2:ZLnk,Hd (b.hit y_2)/\((2:Int)=2/\cZ b.f.key/\cZ b.f.value/\cZ b.f.to/\eY/\nx3 b.f (2:Int) true=3/\Yn b.f y_2 a)/\fC b.a.L c)\/ ∃y_2:Unit,Hd b.miss/\((2:Int)=2/\cZ b.f.key/\cZ b.f.value/\cZ b.f.to/\eY/\nx3 b.f (2:Int) false=3/\Yo b.f a)/\fC b.a.L c) ((∃y_2:ZLnk,Hd (b.goes y_2)/\((2:Int)=2/\cZ b.f.key/\cZ b.f.value/\cZ b.f.to/\eY/\(1:Int)=5/\Ym b.f y_2.key a)/\fC b.a.L c)\/(∃y_2:ZLnk,Hd (b.hit y_2)/\((2:Int)=2/\cZ b.f.key/\cZ b.f.value/\cZ b.f.to/\eY/\nx3 b.f (2:Int) true=5/\Yn b.f y_2 a)/\fC b.a.L c)\/ ∃y_2:Unit,Hd b.miss/\((2:Int)=2/\
 cZ b.f.key/\cZ b.f.value/\cZ b.f.to/\eY/\nx3 b.f (2:Int) false=5/\Yo b.f a)/\fC b.a.L c)) (NC b c))
def AB(a:ZNk)(b:ByteArray)(c:ZFp):Prop:=0=0/\((bkt a.s:Nat):Int)=((bkt b:Nat):Int)/\a.pos=c.pos/\a.past=c.past/\True
def uf(a:ByteArray):Prop:=AV.lit (Value.string a)=AV.lit (Value.string a)
def wI(a:ByteArray):Prop:=uf a/\True
def qJ(a:Bool):Prop:=AV.lit (Value.bool a)=AV.lit (Value.bool a)
def AL(a:ZNk)(b:ZLnk):Prop:=Hd (nextL a.L (bkt a.s) a.pos a.past=some b)
def AO(a:ZNk):Prop:=Hd (nextL a.L (bkt a.s) a.pos a.past= @Option.none ZLnk)
def oV(a:ByteArray):Prop:=Hd (a.size<1099511627776)
def ajT(a:ZPs)(b:ByteArray):Prop:=(qJ a.f.past/\wI a.f.pos)/\ ∃x_2:ZNk,oV x_2.pos/\AB x_2 b a.f/\(tabA x_2.L=tabA a.a.L/\True)/\(∀y_1:Unit,AO x_2->True/\True/\NC a x_2.L)/\ ∀y_1:ZLnk,AL x_2 y_1->ajS y_1 a x_2.L
def Yp(a:ZFp):Prop:=a.line=a.line/\a.cls=a.cls/\ite ((1:Int)=1) (0:Int) a.piece=a.piece/\tY a
def NH(a:ZPs)(b:Lks):Prop:=(∃y_2:ZLnk,Hd (a.goes y_2)/\((1:Int)=1/\cZ a.f.key/\cZ a.f.value/\cZ a.f.to/\eY/\(1:Int)=6/\Gf a.f y_2.key)/\fC a.a.L b)\/(∃y_2:ZLnk,Hd (a.hit y_2)/\((1:Int)=1/\cZ a.f.key/\cZ a.f.value/\cZ a.f.to/\eY/\nx3 a.f (1:Int) true=6/\a.f.epoch=a.f.epoch/\cZ a.f.pos/\a.f.past=a.f.past/\(0:Int)=0/\true=false/\y_2.key=ByteArray.mk #[]/\y_2.id=0/\y_2.ver=0/\y_2.line=0/\y_2.cls=0/\Yp a.f)/\fC a.a.L b)\/ ∃y_2:Unit,Hd a.miss/\((1:Int)=1/\cZ a.f.key/\cZ a.f.value/\cZ a.f.to/\eY/\nx3 a.f (1:Int) false=6/\F9 a.f)/\fC a.a.L b
def ajU(a:ZLnk)(b:ZPs)(c:Lks):Prop:=True/\True/\cP (@Op.bytesLess (ByteArray.toList a.key) (ByteArray.toList b.f.key)) ((∃y_2:ZLnk,Hd (b.goes y_2)/\((1:Int)=1/\NG b.f y_2.key a.key)/\fC b.a.L c)\/(∃y_2:ZLnk,Hd (b.hit y_2)/\((1:Int)=1/\cZ b.f.key/\cZ b.f.value/\cZ b.f.to/\eY/\nx3 b.f (1:Int) true=1/\b.f.epoch=b.f.epoch/\b.f.pos=a.key/\b.f.past=true/\(0:Int)=0/\true=b.f.had/\y_2.key=b.f.old.key/\y_2.id=b.f.old.id/\y_2.ver=b.f.old.ver/\y_2.line=b.f.old.line/\y_2.cls=b.f.old.cls/\Yp b.f)/\fC b.a.L c)\/ ∃y_2:Unit,Hd b.miss/\((1:Int)=1/\cZ b.f.key/\cZ b.f.value/\cZ b.f.to/\eY/\nx3 b.f (1:Int) false=1/\ND b.f a.key)/\fC b.a.L c) (cP (BEq.beq (ByteArray.toList a.key) (ByteArray.toList b.f.key)) (Nz a/\True/\((∃y_2:ZLnk,Hd (b.goes y_2)/\((1:Int)=1/\cZ b.f.key/\cZ b.f.value/\cZ b.f.to/\eY/\(1:Int)=2/\b.f.epoch=b.f.epoch/\y_2.key=b.f.pos/\true=b.f.past/\(0:Int)=0/\b.f.had=true/\b.f.old.key=a.key/\b.f.old.id=a.id/\b.f.old.ver=a.ver/\b.f.old.line=a.line/\b.f.old.cls=a.cls/\b.f.line=b.f.line/\b.f.cls=b.f.cls/\b.f.piece=0/\tY b.f)/\fC b.a.L c)\/(∃y_2:ZLnk,Hd (b.hit y_2)/\((1:Int)=1/\cZ b.f.key/\cZ b.f.value/\cZ b.f.to/\eY/\nx3 b.f (1:Int) true=2/\b.f.epoch=b.f.epoch/\cZ b.f.pos/\b.f.past=b.f.past/\(0:Int)=0/\true=true/\y_2.key=a.key/\y_2.id=a.id/\y_2.ver=a.ver/\y_2.line=a.line/\y_2.cls=a.cls/\b.f.line=b.f.line/\b.f.cls=b.f.cls/\ite ((1:Int)=1) (0:Int) b.f.piece=0/\tY b.f)/\fC b.a.L c)\/ ∃y_2:Unit,Hd b.miss/\((1:Int)=1/\cZ b.f.key/\cZ b.f.value/\
 cZ b.f.to/\eY/\nx3 b.f (1:Int) false=2/\b.f.epoch=b.f.epoch/\cZ b.f.pos/\b.f.past=b.f.past/\(0:Int)=0/\false=true/\ByteArray.mk #[]=a.key/\0=a.id/\0=a.ver/\0=a.line/\0=a.cls/\b.f.line=b.f.line/\b.f.cls=b.f.cls/\b.f.piece=0/\tY b.f)/\fC b.a.L c)) (NH b c))
def Yq(a:ZPs)(b:ByteArray):Prop:=(qJ a.f.past/\wI a.f.pos)/\ ∃x_2:ZNk,oV x_2.pos/\AB x_2 b a.f/\(tabA x_2.L=tabA a.a.L/\True)/\(∀y_1:Unit,AO x_2->True/\True/\NH a x_2.L)/\ ∀y_1:ZLnk,AL x_2 y_1->ajU y_1 a x_2.L
def AP(a:ZFp):Prop:=qJ a.past/\uf a.pos/\wI a.key
def Yr(a:ZPs):Prop:=AP a.f/\ ∃x_1:ByteArray,oV x_1/\(x_1=a.f.key/\True)/\True/\ ∀y:Unit,True->Yq a x_1
def Yt(a:ZPs):Prop:=AP a.f/\ ∃x_1:ByteArray,oV x_1/\(x_1=a.f.key/\True)/\True/\ ∀y:Unit,True->ajT a x_1
def ajV(x:ZPs):Prop:=
 ((0:Int)<=1/\(0:Int)<=5)/\(AP x.f/\(∃x_1:ByteArray,oV x_1/\(x_1=x.f.key/\True)/\True/\ ∀y:Unit,True->(qJ x.f.past/\wI x.f.pos)/\(∃x_2:ZNk,oV x_2.pos/\AB x_2 x_1 x.f/\(tabA x_2.L=tabA x.a.L/\True)/\(∀y_1:Unit,AO x_2->True/\True/\True/\NH x x_2.L)/\ ∀y_1:ZLnk,AL x_2 y_1->True/\ajU y_1 x x_2.L)/\Yq x x_1)/\Yr x)/\(qJ x.f.past/\uf x.f.pos/\uf x.f.key/\AV.ptr 0 0=AV.ptr 0 0/\True)/\Yr x
theorem ajW(x:ZPs):ajV x=wpF Tryz.prog asA tt (noA x) 200 6 34 ((vJ 1).args x) (hO 2 ((vJ 1).os x)) (λv h'=>eG 2 x v h' (vJ 1).outs):=by kernel_rfl
def ajX(x:ZPs):Prop:=
 ((0:Int)<=1/\(0:Int)<=5)/\(AP x.f/\(∃x_1:ByteArray,oV x_1/\(x_1=x.f.key/\True)/\True/\ ∀y:Unit,True->(qJ x.f.past/\wI x.f.pos)/\(∃x_2:ZNk,oV x_2.pos/\AB x_2 x_1 x.f/\(tabA x_2.L=tabA x.a.L/\True)/\(∀y_1:Unit,AO x_2->True/\True/\True/\NC x x_2.L)/\ ∀y_1:ZLnk,AL x_2 y_1->True/\ajS y_1 x x_2.L)/\ajT x x_1)/\Yt x)/\(qJ x.f.past/\uf x.f.pos/\uf x.f.key/\AV.ptr 0 0=AV.ptr 0 0/\True)/\Yt x
theorem ajY(x:ZPs):ajX x=wpF Tryz.prog asA tt (noA x) 200 6 34 ((vJ 2).args x) (hO 2 ((vJ 2).os x)) (λv h'=>eG 2 x v h' (vJ 2).outs):=by kernel_rfl

end Go.Proofs.YtenfleoejgjklaaGreat
end
