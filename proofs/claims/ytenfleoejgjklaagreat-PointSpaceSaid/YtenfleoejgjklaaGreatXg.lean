import Derived.Test.YtenfleoejgjklaaGreatXa
import Derived.Test.YtenfleoejgjklaaGreatXb
import Derived.Test.YtenfleoejgjklaaGreatXc
import Derived.Test.YtenfleoejgjklaaGreatXd
import Derived.Test.YtenfleoejgjklaaGreatXe
import Derived.Test.YtenfleoejgjklaaGreatXf
import Derived.KernelRfl
import Derived.Shelf.SlIter.Nil
import Derived.Ground.GgzProg
import Derived.Shelf.SortM.Plain
import Derived.Shelf.SortM.SortNone
import Derived.Ground.SlgmProg
import Derived.Sort.Walk0
import Derived.Shelf.SlSortCmp.WholeK
import Derived.Shelf.Small.Strs
import Derived.Ground.SlsfProg
import Derived.Ground.NamesProg
set_option linter.unusedVariables false
set_option linter.unusedSimpArgs false
set_option linter.unnecessarySimpa false
section
namespace Go.Proofs.YtenfleoejgjklaaGreat
open Go SE
theorem AX:ar2:=⟨trivial,trivial,trivial,trivial,trivial,trivial,trivial,trivial,trivial⟩
theorem kK{t:iU}:VN t t:=⟨AX,rfl,rfl,rfl,rfl,rfl,rfl,rfl,rfl,trivial⟩
theorem qZ(t:iU)(b k:Nat)(m:ZMs):(wo t b m k).ms=(bif Nat.beq b k then m.ms else(t k).ms):=by
 unfold wo;rw[dA];by_cases h:k=b
 ·subst h;simp
 ·rw[if_neg h,decide_eq_false (λe=>h e.symm)];rfl
theorem EL{t:iU}{b:Nat}{m:ZMs}{M:MS}(h:M=m.ms):Gx (wo t b m) t b M:=by
 subst h;exact⟨AX,qZ ..,qZ ..,qZ ..,qZ ..,qZ ..,qZ ..,qZ ..,qZ ..,trivial⟩
theorem kL{l:ZLnk}:VO l l:=⟨rfl,rfl,rfl,rfl,rfl,trivial⟩
theorem acN{b:Nat}(hb:b<8)(x:ZTkB)(hs:x.s.size<1099511627776)(e:bkt x.s=b):atA b x:=
 ⟨x.s,aZ.2 ⟨hs,e⟩,⟨rfl,trivial⟩,trivial,λ_ _=>⟨trivial,⟨by omega,by omega⟩,(),trivial,trivial,kK⟩⟩
theorem acO{b:Nat}(x:ZTq×iU)(h:lM x.1.L x.2)(hs:x.1.s.size<1099511627776)(e:bkt x.1.s=b):atB b x:=
 ⟨⟨x.2,x.1.s⟩,aZ.2 ⟨hs,e⟩,⟨rfl,rfl,trivial⟩,kK,λ_ _=>⟨λj hj hk=> .inr ⟨((x.2 b).lk j,x.2),⟨aZ.2 (h.found e hj hk),aZ.2 h⟩,⟨kL,rfl,trivial⟩,kK⟩,λhn=> .inl ⟨((),x.2),⟨aZ.2 (h.none e λj hj hk=>hn j hj hk),aZ.2 h⟩,⟨kL,rfl,trivial⟩,kK⟩⟩⟩
theorem VP{b:Nat}(x:ZTq×iU)(h:lM x.1.L x.2)(hs:x.1.s.size<1099511627776)(e:bkt x.1.s=b):aoB b x:=
 ⟨⟨x.2,x.1.s⟩,aZ.2 ⟨hs,e⟩,⟨rfl,rfl,trivial⟩,kK,λ_ _=>⟨λj hj hk=>⟨λi hi hk'=> .inr ⟨((x.2 b).lk j,wo x.2 b ((x.2 b).del i)),⟨aZ.2 (h.found e hj hk),aZ.2 (h.del e hi hk')⟩,⟨kL,rfl,trivial⟩,EL (atn _ _)⟩,λhn=>(hn j hj hk).elim⟩,
  λhn=>⟨λi hi hk=>(hn i hi hk).elim,λ_=> .inl ⟨((),x.2),⟨aZ.2 (h.none e λj hj hk=>hn j hj hk),aZ.2 h⟩,⟨kL,rfl,trivial⟩,kK⟩⟩⟩⟩
theorem acP{b:Nat}(x:Gw×iU)(h:lM x.1.L x.2)(hs:x.1.l.key.size<1099511627776)(hl:(jg x.1.L x.1.l).length<=258)(e:bkt x.1.l.key=b):atD b x:=
 ⟨⟨x.2,x.1.l.key⟩,aZ.2 ⟨hs,e⟩,⟨rfl,rfl,trivial⟩,kK,λ_ _=>⟨λj hj hk=>⟨λi hi hk'=>⟨((),wo x.2 b ((x.2 b).put i x.1.l)),⟨trivial,aZ.2 (h.put e hi hk' hl hs)⟩,by rw[h.found e hj hk];rfl,EL (atl _ _ _)⟩,λhn=>(hn j hj hk).elim⟩,
  λhn=>⟨λi hi hk=>(hn i hi hk).elim,λ_=>⟨((),wo x.2 b ((x.2 b).add x.1.l)),⟨trivial,aZ.2 (h.add e (λj hj hk=>hn j hj hk) hl hs)⟩,by rw[h.none e λj hj hk=>hn j hj hk];rfl,EL (atm _ _)⟩⟩⟩⟩
theorem atG{b:Nat}(hb:b<8):bZ Tryz.prog 277 (ofC b):=dM dD mixed (tbl:=aty b) (.cons (bM (acK b)) .nil) noA 200 5 (λ_=>rfl) (λ_=>rfl) λx hx=>Eq.mp (amw b hb x) (acN hb x (aZ.1 hx).1 (aZ.1 hx).2)
def byB(f:FuncId):WTr:=λargs h K=> ∃b,b<8/\wpF Tryz.prog (ahZ b) tt (noA ()) 200 5 f args h K
theorem ah9{f:FuncId}(args:List AV)(h:Heap)(K:AV->Heap->Prop)(hq:byB f args h K):Sp Tryz.prog f args h K:=by
 obtain⟨b,hb,hq⟩:=hq;exact qN dD mixed (tbl:=ahZ b) (.cons (bM (atG hb)) .nil) (noA ()) 200 5 f args h K hq
theorem VQ:bZ Tryz.prog 245 ar1.C:=EH ⟨Tryz.f245,by kernel_rfl,by kernel_rfl,by kernel_rfl⟩ (List.forall_mem_cons.2 ⟨λ_ _=>rfl,List.forall_mem_cons.2 ⟨λ_ _=>rfl,λ_ h=>(List.not_mem_nil h).elim⟩⟩) (pG (T:=byB 245) ah9 9 (λ_=>⟨rfl,rfl,rfl,rfl⟩) λx hx=>⟨bkt x.1.s,qB _,Eq.mp (amx _ (qB _) x) (acO x (aZ.1 hx.2) (aZ.1 hx.1) rfl)⟩)
theorem amG:bZ Tryz.prog 252 amv.C:=EH ⟨Tryz.f252,by kernel_rfl,by kernel_rfl,by kernel_rfl⟩ (List.forall_mem_cons.2 ⟨λ_ _=>rfl,List.forall_mem_cons.2 ⟨λ_ _=>rfl,λ_ h=>(List.not_mem_nil h).elim⟩⟩) (pG (T:=byB 252) ah9 9 (λ_=>⟨rfl,rfl,rfl,rfl⟩) λx hx=>⟨bkt x.1.s,qB _,Eq.mp (ah0 _ (qB _) x) (VP x (aZ.1 hx.2) (aZ.1 hx.1) rfl)⟩)
theorem ara:bZ Tryz.prog 250 atz.C:=EH ⟨Tryz.f250,by kernel_rfl,by kernel_rfl,by kernel_rfl⟩ (List.forall_mem_cons.2 ⟨λ_ _=>rfl,λ_ h=>(List.not_mem_nil h).elim⟩) (pG (T:=byB 250) ah9 9 (λ_=>⟨rfl,rfl,rfl,rfl⟩) λx hx=>⟨bkt x.1.l.key,qB _,Eq.mp (amy _ (qB _) x) (acP x (aZ.1 hx.2) (aZ.1 hx.1).1 (aZ.1 hx.1).2 rfl)⟩)
theorem aia(b:Nat):bZ Tryz.prog 279 (aoz b):=je λs hs=>by
 obtain⟨h1,h2⟩:=aZ.1 hs;refine⟨_,amr,rfl,s,aZ.2 h1,rfl,rfl,λv h' hh=> ?_⟩;have key:v=i64 b/\h'=hO 0 []:=by
  have hh:(∃y:Unit,Hd (lvl s=1)/\v=i64 1/\h'=hO 0 [])\/(∃y:Unit,Hd (lvl s=2)/\v=i64 2/\h'=hO 0 [])\/(∃y:Unit,Hd (lvl s=3)/\v=i64 3/\h'=hO 0 [])\/(∃y:Unit,Hd (lvl s=4)/\v=i64 4/\h'=hO 0 [])\/False:=by
   with_unfolding_all exact hh
  rcases hh with ⟨_,e,e2,e3⟩|⟨_,e,e2,e3⟩|⟨_,e,e2,e3⟩|⟨_,e,e2,e3⟩|hh
  ·rw[<-h2,aZ.1 e];exact⟨e2,e3⟩
  ·rw[<-h2,aZ.1 e];exact⟨e2,e3⟩
  ·rw[<-h2,aZ.1 e];exact⟨e2,e3⟩
  ·rw[<-h2,aZ.1 e];exact⟨e2,e3⟩
  ·exact hh.elim
 exact Eq.mpr (dU (X:=ByteArray) s v h' _ _) (.inl ⟨(),trivial,key.1,key.2⟩)
theorem aal(b:Nat):dX Tryz.prog (aq5 b):= .cons (bM (aia b)) (.cons (bM att) (.cons (bM aq2) (.cons (bM aq4) .nil)))
theorem aib{b:Nat}(h1:1<=b)(h4:b<=4):bZ Tryz.prog 251 (aai b).ctr:=cO dD mixed (aal b) 5 noA 200 6 (λ_=>⟨rfl,rfl,rfl,rfl⟩) λx hx=>Eq.mp (amC b h1 h4 x) (acL h1 h4 (aZ.1 hx).2.2 (aZ.1 hx).1 (aZ.1 hx).2.1)
noncomputable def setO:aq9:={X:=Gw,args:=λx=>[.ptr 0 0,x.l.av],L:=λx=>x.L,pre:=λx=>Hd (x.l.key.size<1099511627776/\(jg x.L x.l).length<=300),outs:=[
 {Y:=Unit,post:=λ_ _=>True,ret:=λx _=>boo (gJ x.L x.l.key).isSome,L:=λx _=>jg x.L x.l,m:=1,ex:=λ_ _=>[]}]}
theorem IC.set{L:Lks}{o y:ZOd}(h:IC L o){l:ZLnk}(hl:(jg L l).length<=300)(hy: ∀k,k<4->(y.V k=if k<lvl l.key then jg (o.V k) l else o.V k)/\(y.z k=true->y.V k=[])):IC (jg L l) y:=
 ⟨uw h.srt,hl,λk hk=>⟨by rw[(hy k hk).1,ah4 h.srt,(h.lev k hk).1],(hy k hk).2⟩⟩
theorem arb:bZ Tryz.prog 251 setO.C:=ah8 ⟨Tryz.f251,by kernel_rfl,by kernel_rfl,by kernel_rfl⟩ (List.forall_mem_cons.2 ⟨λ_ _=>rfl,λ_ h=>(List.not_mem_nil h).elim⟩) (je λx hx=>by
 obtain⟨hp,hH⟩:=hx;obtain⟨p1,p2⟩:=aZ.1 hp;have hH:=aZ.1 hH;obtain⟨l1,l4⟩:=aox x.1.l.key;refine⟨_,aib l1 l4,rfl,⟨x.2,x.1.l⟩,aZ.2 ⟨p1,rfl,hH.good⟩,rfl,rfl,λv h' hh=> ?_⟩;obtain⟨y,h1,h2,h3⟩:=ku hh;have h1:=aZ.1 h1;refine Eq.mpr (dU (X:=Gw×ZOd) x v h' _ _) (.inl ⟨((),y),⟨trivial,aZ.2 (hH.set p2 h1)⟩,h2.trans ?_,h3⟩);show boo (gJ (x.2.V (lvl x.1.l.key-1)) x.1.l.key).isSome=boo (gJ x.1.L x.1.l.key).isSome;rw[(hH.lev _ (by omega)).1,ah5 (by omega)]
 rfl)
def amH(x:ZOk)(b:Nat)(had:Bool)(P1 P2:Nat->ZOd->Prop):Prop:= ∃y:ZOd,Hd (∀k,k<4->(y.V k=if k<b then fQ (x.o.V k) x.s else x.o.V k)/\(y.z k=true->y.V k=[]))/\((List.range b).any λk=>(gJ (x.o.V k) x.s).isSome)=had/\(P1 0 y/\P1 1 y/\P1 2 y/\P1 3 y/\True)/\(P2 0 y/\P2 1 y/\P2 2 y/\P2 3 y/\True)
noncomputable def KF(x:ZOk)(b:Nat):Nat->Nat->Bool->(Nat->ZOd->Prop)->(Nat->ZOd->Prop)->Prop
 |0,_,had,P1,P2=>amH x b had P1 P2
 |r+1,k,had,P1,P2=>wKo k/\ ∃q:ZTq,Hd (srt q.L/\q.L.length<1099511627776)/\((0=0/\q.L.length=(x.o.V k).length)/\q.s=x.s/\True)/\((q.L.length=(x.o.V k).length/\ ∀j:Nat,j<q.L.length->(q.L.getD j iO).cs=(nthL (x.o.V k) j).cs)/\True)/\ ∀_:Unit,True->cP (gJ q.L q.s).isSome
   (wKo k/\I64 (((uD q.L q.s:Nat):Int)+1)/\ ∃v:ZDz,Hd (v.i<v.L.length/\v.L.length<=300)/\((v.z=x.o.z k/\v.L.length=(x.o.V k).length)/\(v.i:Int)=((uD q.L q.s:Nat):Int)/\(v.i:Int)+1=((uD q.L q.s:Nat):Int)+1/\True)/\((v.z=x.o.z k/\v.L.length=(x.o.V k).length/\ ∀j:Nat,j<v.L.length->(nthL v.L j).cs=(nthL (x.o.V k) j).cs)/\True)/\ ∀_:Unit,True->True/\wKo k/\True/\I64 ((k:Int)+1)/\
    KF x b r (k+1) true (amA P1 k (lvI1 k (v.L.length-1))) (amA P2 k (lvI2 k (v.L.length-1) (Iw (nthL v.L) v.i))))
   (I64 ((k:Int)+1)/\KF x b r (k+1) had P1 P2)
noncomputable def aoC(b:Nat)(x:ZOk):Prop:= ∃s:ByteArray,Hd (s.size<1099511627776/\lvl s=b)/\(s=x.s/\True)/\True/\ ∀_:Unit,True->KF x b b 0 false (lvP1 x.o) (lvP2 x.o)
theorem aic: ∀b,1<=b->b<=4-> ∀x,aoC b x=wpF Tryz.prog (aq5 b) tt (noA x) 200 6 253 ((KD b).args x) (hO 5 (flatP 1 ((KD b).l x))) (λv h'=>endsPK 1 x v h' (KD b).outs)
 |1,_,_=>λx=>by kernel_rfl
 |2,_,_=>λx=>by kernel_rfl
 |3,_,_=>λx=>by kernel_rfl
 |4,_,_=>λx=>by kernel_rfl
 |0,h,_=>absurd h (by omega)
 |b+5,_,h=>absurd h (by omega)
def EM(x:ZOk)(b:Nat):ZOd:=⟨λk=>bif Nat.blt k b&&(gJ (x.o.V k) x.s).isSome then false else x.o.z k,λk=>if k<b then fQ (x.o.V k) x.s else x.o.V k⟩
theorem ru{x:ZOk}{b:Nat}(h4:b<=4)(hg:x.o.good): ∀(r k:Nat) (had:Bool) (P1 P2:Nat->ZOd->Prop),k+r=b->((List.range k).any λk=>(gJ (x.o.V k) x.s).isSome)=had->
  (∀j,j<k->P1 j (EM x b)/\P2 j (EM x b))->(∀j,k<=j->P1 j=lvP1 x.o j/\P2 j=lvP2 x.o j)->KF x b r k had P1 P2
 |0,k,had,P1,P2,e,hh,hP,hQ=>by
  obtain rfl:k=b:=by omega
  have all: ∀j,P1 j (EM x k)/\P2 j (EM x k):=λj=>by
   by_cases hj:j<k
   ·exact hP j hj
   ·obtain⟨q1,q2⟩:=hQ j (by omega)
    have g1:(EM x k).z j=x.o.z j:=by show(bif Nat.blt j k&&_ then false else x.o.z j)=_;rw[jf hj];rfl
    have g2:(EM x k).V j=x.o.V j:=if_neg hj;rw[q1,q2];exact⟨⟨g1,by rw[g2]⟩,g1,by rw[g2],λq _=>by rw[g2]⟩
  refine⟨EM x k,aZ.2 λj hj=>⟨rfl,λhz=> ?_⟩,hh,⟨(all 0).1,(all 1).1,(all 2).1,(all 3).1,trivial⟩,(all 0).2,(all 1).2,(all 2).2,(all 3).2,trivial⟩;have hz:(bif Nat.blt j k&&(gJ (x.o.V j) x.s).isSome then false else x.o.z j)=true:=hz;have hz2:x.o.z j=true:=by
   cases hb:(Nat.blt j k&&(gJ (x.o.V j) x.s).isSome)
   ·rw[hb]at hz;exact hz
   ·rw[hb]at hz;cases hz
  have e:=(hg j hj).2.2 hz2;show(if j<k then fQ (x.o.V j) x.s else x.o.V j)=[];rw[e];split<;>rfl
 |r+1,k,had,P1,P2,e,hh,hP,hQ=>by
  have hk:k<b:=by omega
  obtain⟨s1,s2,s3⟩:=hg k (by omega);have y2:(EM x b).V k=fQ (x.o.V k) x.s:=if_pos hk;obtain⟨q1,q2⟩:=hQ k (aY _);have hany:((List.range (k+1)).any λk=>(gJ (x.o.V k) x.s).isSome)=(had||(gJ (x.o.V k) x.s).isSome):=by
   rw[List.range_succ,List.any_append,hh];simp
  refine⟨aq6 (by omega),⟨x.o.V k,x.s⟩,aZ.2 ⟨s1,by show(x.o.V k).length<1099511627776;omega⟩,⟨⟨rfl,rfl⟩,rfl,trivial⟩,⟨⟨rfl,λ_ _=>rfl⟩,trivial⟩,λ_ _=>bf (λhf=> ?_) λhf=> ?_⟩
  ·obtain⟨f1,f2,f3⟩:=EJ s1 hf
   have f1:uD (x.o.V k) x.s<(x.o.V k).length:=f1;have y1:(EM x b).z k=false:=by
    show(bif Nat.blt k b&&(gJ (x.o.V k) x.s).isSome then false else x.o.z k)=false;rw[bg.2 hk,show(gJ (x.o.V k) x.s).isSome=true from hf];rfl
   refine⟨aq6 (by omega),by show I64 (((uD (x.o.V k) x.s:Nat):Int)+1);unfold I64;omega,⟨x.o.z k,x.o.V k,uD (x.o.V k) x.s⟩,aZ.2 ⟨f1,s2⟩,⟨⟨rfl,rfl⟩,rfl,rfl,trivial⟩,⟨⟨rfl,rfl,λ_ _=>rfl⟩,trivial⟩,λ_ _=>⟨trivial,aq6 (by omega),trivial,by unfold I64;omega,ru h4 hg r (k+1) _ _ _ (by omega) (by rw[hany,show(gJ (x.o.V k) x.s).isSome=true from hf];simp) (λj hj=> ?_) λj hj=> ?_⟩⟩
   ·by_cases hjk:j=k
    ·subst hjk
     rw[EK,EK];refine⟨⟨y1,by rw[y2];exact f2⟩,y1,by rw[y2];exact f2,λq hq=> ?_⟩;rw[y2,f3 q]
    ·rw[oL hjk,oL hjk];exact hP j (by omega)
   ·rw[oL (by omega),oL (by omega)];exact hQ j (by omega)
  ·have y1:(EM x b).z k=x.o.z k:=by
    show(bif Nat.blt k b&&(gJ (x.o.V k) x.s).isSome then false else x.o.z k)=x.o.z k;rw[show(gJ (x.o.V k) x.s).isSome=false from hf,Bool.and_false];rfl
   have y3:(EM x b).V k=x.o.V k:=y2.trans (zq hf);refine⟨by unfold I64;omega,ru h4 hg r (k+1) _ _ _ (by omega) (by rw[hany,show(gJ (x.o.V k) x.s).isSome=false from hf];simp) (λj hj=> ?_) λj hj=>hQ j (by omega)⟩;by_cases hjk:j=k
   ·subst hjk
    rw[q1,q2];exact⟨⟨y1,by rw[y3]⟩,y1,by rw[y3],λq _=>by rw[y3]⟩
   ·exact hP j (by omega)
theorem VR{x:ZOk}{b:Nat}(h4:b<=4)(hg:x.o.good)(hs:x.s.size<1099511627776)(hl:lvl x.s=b):aoC b x:=
 ⟨x.s,aZ.2 ⟨hs,hl⟩,⟨rfl,trivial⟩,trivial,λ_ _=>ru h4 hg b 0 false _ _ (by omega) rfl (λj hj=>absurd hj (Nat.not_lt_zero j)) λj _=>⟨rfl,rfl⟩⟩
theorem acQ{b:Nat}(h1:1<=b)(h4:b<=4):bZ Tryz.prog 253 (KD b).ctr:=cO dD mixed (aal b) 5 noA 200 6 (λ_=>⟨rfl,rfl,rfl,rfl⟩) λx hx=>Eq.mp (aic b h1 h4 x) (VR h4 (aZ.1 hx).2.2 (aZ.1 hx).1 (aZ.1 hx).2.1)
noncomputable def atH:aq9:={X:=ZTq,args:=λx=>[.ptr 0 0,.lit (.string x.s)],L:=λx=>x.L,pre:=λx=>Hd (x.s.size<1099511627776),outs:=[
 {Y:=Unit,post:=λ_ _=>True,ret:=λx _=>boo (gJ x.L x.s).isSome,L:=λx _=>fQ x.L x.s,m:=1,ex:=λ_ _=>[]}]}
theorem IC.drop{L:Lks}{o y:ZOd}(h:IC L o){s:ByteArray}(hy: ∀k,k<4->(y.V k=if k<lvl s then fQ (o.V k) s else o.V k)/\(y.z k=true->y.V k=[])):IC (fQ L s) y:=
 ⟨QS h.srt,Nat.le_trans (List.length_filter_le _ _) h.size,λk hk=>⟨by rw[(hy k hk).1,amE,(h.lev k hk).1],(hy k hk).2⟩⟩
theorem amI:bZ Tryz.prog 253 atH.C:=ah8 ⟨Tryz.f253,by kernel_rfl,by kernel_rfl,by kernel_rfl⟩ (List.forall_mem_cons.2 ⟨λ_ _=>rfl,λ_ h=>(List.not_mem_nil h).elim⟩) (je λx hx=>by
 obtain⟨hp,hH⟩:=hx;have p1:=aZ.1 hp;have hH:=aZ.1 hH;obtain⟨l1,l4⟩:=aox x.1.s;refine⟨_,acQ l1 l4,rfl,⟨x.2,x.1.s⟩,aZ.2 ⟨p1,rfl,hH.good⟩,rfl,rfl,λv h' hh=> ?_⟩;obtain⟨y,h1,h2,h3⟩:=ku hh;have h1:=aZ.1 h1;refine Eq.mpr (dU (X:=ZTq×ZOd) x v h' _ _) (.inl ⟨((),y),⟨trivial,aZ.2 (hH.drop h1)⟩,h2.trans ?_,h3⟩);have lk: ∀k,k<lvl x.1.s->gJ (x.2.V k) x.1.s=gJ x.1.L x.1.s:=λk hk=>by rw[(hH.lev k (by omega)).1,ah5 hk];rfl
 show boo ((List.range (lvl x.1.s)).any λk=>(gJ (x.2.V k) x.1.s).isSome)=boo (gJ x.1.L x.1.s).isSome;congr 1;rw[Bool.eq_iff_iff,List.any_eq_true];constructor
 ·rintro ⟨k,hk,h⟩
  rw[lk k (List.mem_range.1 hk)]at h;exact h
 ·intro h
  exact⟨0,List.mem_range.2 (by omega),by rw[lk 0 (by omega)];exact h⟩)
noncomputable section
def amJ:jw:={X:=Unit,args:=λ_=>[],k:=0,l:=λ_=>[],pre:=λ_=>True,outs:=[
 {Y:=iU,post:=λ_ y=>Hd (lM [] y),ret:=λ_ _=> .ptr 0 0,m:=1,l:=λ_ y=>[.m (QO y)]}]}
def amK:jw:={X:=Unit,args:=λ_=>[],k:=0,l:=λ_=>[],pre:=λ_=>True,outs:=[
 {Y:=ZOd,post:=λ_ y=>Hd (IC [] y),ret:=λ_ _=> .ptr 0 0,m:=1,l:=λ_ y=>[.m (KC y)]}]}
end
def VT(x:Unit):Prop:=
 ((0:Int)<=0/\(0:Int)<=7)/\I64 (1:Int)/\((0:Int)<=1/\(0:Int)<=6)/\I64 (2:Int)/\((0:Int)<=2/\(0:Int)<=5)/\I64 (3:Int)/\((0:Int)<=3/\(0:Int)<=4)/\I64 (4:Int)/\((0:Int)<=4/\(0:Int)<=3)/\I64 (5:Int)/\((0:Int)<=5/\(0:Int)<=2)/\I64 (6:Int)/\((0:Int)<=6/\(0:Int)<=1)/\I64 (7:Int)/\((0:Int)<=7/\(0:Int)<=0)/\I64 (8:Int)/\ ∃y: ∀a:Nat,ZMs,Hd (lM (@List.nil ZLnk) y)/\0=0/\(True/\True/\True/\True/\True/\True/\True/\True/\True)/\(ZMs.n (y 0)=0/\ZMs.clk (y 0)=0)/\(ZMs.n (y 1)=0/\ZMs.clk (y 1)=0)/\(ZMs.n (y 2)=0/\ZMs.clk (y 2)=0)/\(ZMs.n (y 3)=0/\ZMs.clk (y 3)=0)/\(ZMs.n (y 4)=0/\ZMs.clk (y 4)=0)/\(ZMs.n (y 5)=0/\ZMs.clk (y 5)=0)/\(ZMs.n (y 6)=0/\ZMs.clk (y 6)=0)/\(ZMs.n (y 7)=0/\ZMs.clk (y 7)=0)/\True
theorem acR(x:Unit):VT x=wpF Tryz.prog [] tt (noA x) 200 6 85 (amJ.args x) (hO 0 (flatP 0 (amJ.l x))) (λv h'=>endsPK 0 x v h' amJ.outs):=by kernel_rfl
def VU(x:Unit):Prop:=
 ∃y:ZOd,Hd (@IC (@List.nil ZLnk) y)/\0=0/\((y.z 0=true/\List.length (y.V 0)=0)/\(y.z 1=true/\List.length (y.V 1)=0)/\(y.z 2=true/\List.length (y.V 2)=0)/\(y.z 3=true/\List.length (y.V 3)=0)/\True)/\(y.z 0=true/\List.length (y.V 0)=0/\ ∀q:Nat,q<List.length (y.V 0)->[Value.string (ZLnk.key (nthL (y.V 0) q)),Value.int .u64 (ZLnk.id (nthL (y.V 0) q)),Value.int .u64 (ZLnk.ver (nthL (y.V 0) q)),Value.int .i64 (ZLnk.line (nthL (y.V 0) q)),Value.int .i64 (ZLnk.cls (nthL (y.V 0) q))]= @List.nil Value)/\(y.z 1=true/\List.length (y.V 1)=0/\ ∀q:Nat,q<List.length (y.V 1)->[Value.string (ZLnk.key (nthL (y.V 1) q)),Value.int .u64 (ZLnk.id (nthL (y.V 1) q)),Value.int .u64 (ZLnk.ver (nthL (y.V 1) q)),Value.int .i64 (ZLnk.line (nthL (y.V 1) q)),Value.int .i64 (ZLnk.cls (nthL (y.V 1) q))]= @List.nil Value)/\(y.z 2=true/\List.length (y.V 2)=0/\ ∀q:Nat,q<List.length (y.V 2)->[Value.string (ZLnk.key (nthL (y.V 2) q)),Value.int .u64 (ZLnk.id (nthL (y.V 2) q)),Value.int .u64 (ZLnk.ver (nthL (y.V 2) q)),Value.int .i64 (ZLnk.line (nthL (y.V 2) q)),Value.int .i64 (ZLnk.cls (nthL (y.V 2) q))]= @List.nil Value)/\(y.z 3=true/\List.length (y.V 3)=0/\ ∀q:Nat,q<List.length (y.V 3)->[Value.string (ZLnk.key (nthL (y.V 3) q)),Value.int .u64 (ZLnk.id (nthL (y.V 3) q)),Value.int .u64 (ZLnk.ver (nthL (y.V 3) q)),Value.int .i64 (ZLnk.line (nthL (y.V 3) q)),Value.int .i64 (ZLnk.cls (nthL (y.V 3) q))]= @List.nil Value)/\True
theorem acS(x:Unit):VU x=wpF Tryz.prog [] tt (noA x) 200 6 86 (amK.args x) (hO 0 (flatP 0 (amK.l x))) (λv h'=>endsPK 0 x v h' amK.outs):=by kernel_rfl
def aoD:iU:=λ_=>⟨0,λ_=>iO,λ_=>0,0⟩
theorem amL:lM [] aoD:=
 ⟨List.Pairwise.nil,by decide,λl h=>absurd h List.not_mem_nil,λ_ _ j hj=>absurd hj (Nat.not_lt_zero j),λl h=>absurd h List.not_mem_nil,λ_ _ i _ hi=>absurd hi (Nat.not_lt_zero i),λ_ _ j hj=>absurd hj (Nat.not_lt_zero j),λ_ _ i _ hi=>absurd hi (Nat.not_lt_zero i)⟩
def aie:ZOd:=⟨λ_=>true,λ_=>[]⟩
theorem amM:IC [] aie:=⟨List.Pairwise.nil,by decide,λ_ _=>⟨rfl,λ_=>rfl⟩⟩
theorem Q5(x:Unit):VT x:=by
 unfold VT;have i: ∀z:Int,0<=z->z<=100->I64 z:=λz a b=>by unfold I64;omega
 refine⟨by decide,i _ (by decide) (by decide),by decide,i _ (by decide) (by decide),by decide,i _ (by decide) (by decide),by decide,i _ (by decide) (by decide),by decide,i _ (by decide) (by decide),by decide,i _ (by decide) (by decide),by decide,i _ (by decide) (by decide),by decide,i _ (by decide) (by decide),aoD,aZ.2 amL,rfl,⟨trivial,trivial,trivial,trivial,trivial,trivial,trivial,trivial,trivial⟩,⟨rfl,rfl⟩,⟨rfl,rfl⟩,⟨rfl,rfl⟩,⟨rfl,rfl⟩,⟨rfl,rfl⟩,⟨rfl,rfl⟩,⟨rfl,rfl⟩,⟨rfl,rfl⟩,trivial⟩
theorem Q7(x:Unit):VU x:=by
 unfold VU;have z: ∀q:Nat,q<List.length (aie.V 0)->False:=λq hq=>Nat.not_lt_zero q hq
 refine⟨aie,aZ.2 amM,rfl,⟨⟨rfl,rfl⟩,⟨rfl,rfl⟩,⟨rfl,rfl⟩,⟨rfl,rfl⟩,trivial⟩,⟨rfl,rfl,λq hq=>(z q hq).elim⟩,⟨rfl,rfl,λq hq=>(z q hq).elim⟩,⟨rfl,rfl,λq hq=>(z q hq).elim⟩,⟨rfl,rfl,λq hq=>(z q hq).elim⟩,trivial⟩
theorem amN:bZ Tryz.prog 85 amJ.ctr:=cO dD mixed .nil 0 noA 200 6 (λ_=>⟨rfl,rfl,rfl,rfl⟩) λx _=>Eq.mp (acR x) (Q5 x)
theorem amO:bZ Tryz.prog 86 amK.ctr:=cO dD mixed .nil 0 noA 200 6 (λ_=>⟨rfl,rfl,rfl,rfl⟩) λx _=>Eq.mp (acS x) (Q7 x)
noncomputable def newT:Ctr:=det Unit (λ_=>[]) 0 (λ_=>[]) (λ_=>True) (λ_=> .ptr 0 0) 1 (λ_=>[.abs (tabA [])])
noncomputable def newO:Ctr:=det Unit (λ_=>[]) 0 (λ_=>[]) (λ_=>True) (λ_=> .ptr 0 0) 1 (λ_=>[.abs (ordA [])])
theorem ard:bZ Tryz.prog 85 newT:=λx _=>⟨rfl,by
 refine Au (((amN () trivial).2).mono λv h' hh=> ?_);have hh:(∃y:iU,Hd (lM [] y)/\v= .ptr 0 0/\h'=hO 1 [.abs (ownM (QO y))])\/False:=by with_unfolding_all exact hh
 rcases hh with ⟨y,h1,rfl,rfl⟩|hh
 ·refine⟨.ptr 0 0,hO 1 [.abs (tabA [])],?_,by with_unfolding_all exact Or.inl ⟨(),trivial,rfl,rfl⟩⟩
  refine tZ (m:=1) rfl rfl (Nat.zero_le _) λi o o' hi hi'=> ?_
  match i,hi,hi' with
  |0,hi,hi'=>cases hi;cases hi';exactλ_ _ _ _ _ h=>aah (aZ.1 h1) h
 ·exact hh.elim⟩
theorem arf:bZ Tryz.prog 86 newO:=λx _=>⟨rfl,by
 refine Au (((amO () trivial).2).mono λv h' hh=> ?_);have hh:(∃y:ZOd,Hd (IC [] y)/\v= .ptr 0 0/\h'=hO 1 [.abs (ownM (KC y))])\/False:=by with_unfolding_all exact hh
 rcases hh with ⟨y,h1,rfl,rfl⟩|hh
 ·refine⟨.ptr 0 0,hO 1 [.abs (ordA [])],?_,by with_unfolding_all exact Or.inl ⟨(),trivial,rfl,rfl⟩⟩
  refine tZ (m:=1) rfl rfl (Nat.zero_le _) λi o o' hi hi'=> ?_
  match i,hi,hi' with
  |0,hi,hi'=>cases hi;cases hi';exactλ_ _ _ _ _ h=>aak (aZ.1 h1) h
 ·exact hh.elim⟩
noncomputable def bkL(L:Lks)(b:Nat):Lks:=L.filter λl=>decide (bkt l.key=b)
theorem Q8{L:Lks}(h:srt L):L.Nodup:=h.imp λ{a b} hk e=>by rw[e,nZ]at hk;cases hk
theorem lM.perm{L:Lks}{t:iU}(h:lM L t){b:Nat}(hb:b<8):((List.range (t b).n).map (t b).lk).Perm (bkL L b):=by
 refine(List.perm_ext_iff_of_nodup ?_ ((Q8 h.srt).filter _)).2 λx=> ?_
 ·refine List.pairwise_map.2 (List.nodup_range.imp_of_mem λ{i j} hi hj hne e=>hne ?_)
  exact h.inj b hb i j (List.mem_range.1 hi) (List.mem_range.1 hj) (by rw[e])
 ·rw[List.mem_map,List.mem_filter,decide_eq_true_iff]
  constructor
  ·rintro ⟨j,hj,rfl⟩
   exact h.mem b hb j (List.mem_range.1 hj)
  ·rintro ⟨hx,hxb⟩
   obtain⟨j,h1,h2⟩:=h.all x hx;rw[hxb]at h1 h2;exact⟨j,List.mem_range.2 h1,h2⟩
theorem lM.n{L:Lks}{t:iU}(h:lM L t){b:Nat}(hb:b<8):(t b).n=(bkL L b).length:=by
 have:=(h.perm hb).length_eq;rw[List.length_map,List.length_range]at this;exact this
structure ZLq where
 L:Lks
def w8(k:Nat):Prop:=(0:Int)<=(k:Int)/\(0:Int)<=(7:Int)-(k:Int)
end Go.Proofs.YtenfleoejgjklaaGreat
end
section
namespace Go.Proofs.YtenfleoejgjklaaGreat
open Go.RowKit Go.Maps Go.Sort Go.Shelf
def Tryz.keysA_ren:Go.Shelf.Ren:=⟨λ|7=>231|10=>266|n=>n,λ|23=>169|26=>9|3=>41|28=>342|0=>0|27=>341|33=>359|4=>4|n=>n,λ|n=>n⟩
theorem Tryz.keysA:Go.Proofs.SlLaysZ.n7 Tryz.prog Tryz.keysA_ren:={
 mixed:=by kernel_rfl
 f7:=⟨Tryz.f231.name,by decide,Tryz.func231.trans (congrArg some (by kernel_rfl))⟩
 f10:=⟨Tryz.f266.name,by decide,Tryz.func266.trans (congrArg some (by kernel_rfl))⟩
 t0:=Tryz.underlying0
 a0:=Tryz.isAgg0
 z0:=Tryz.sizeOf0
 v0:=Tryz.zeroValue0
 t4:=Tryz.underlying4
 a4:=Tryz.isAgg4
 z4:=Tryz.sizeOf4
 v4:=Tryz.zeroValue4
 t23:=Tryz.underlying169
 a23:=Tryz.isAgg169
 z23:=Tryz.sizeOf169
 v23:=Tryz.zeroValue169
 t26:=Tryz.underlying9
 a26:=Tryz.isAgg9
 z26:=Tryz.sizeOf9
 v26:=Tryz.zeroValue9
 t27:=Tryz.underlying341
 a27:=Tryz.isAgg341
 z27:=Tryz.sizeOf341
 v27:=Tryz.zeroValue341
 t28:=Tryz.underlying342
 a28:=Tryz.isAgg342
 z28:=Tryz.sizeOf342
 v28:=Tryz.zeroValue342
 t33:=Tryz.underlying359
 a33:=Tryz.isAgg359
 z33:=Tryz.sizeOf359
 v33:=Tryz.zeroValue359}
def Tryz.sortedA_ren:Go.Shelf.Ren:=⟨λ|6=>230|8=>264|9=>265|11=>287|13=>175|12=>288|23=>225|24=>226|14=>302|15=>303|16=>304|17=>305|18=>306|19=>307|20=>308|21=>309|22=>310|25=>312|26=>259|27=>260|28=>313|29=>314|30=>315|31=>317|n=>n,λ|26=>9|28=>342|24=>65|0=>0|3=>3|37=>114|48=>135|50=>31|4=>4|40=>330|39=>329|45=>334|5=>5|9=>9|51=>362|55=>365|57=>380|58=>381|33=>359|n=>n,λ|n=>n⟩
theorem Tryz.sortedA:Go.Proofs.SlLaysZ.n6 Tryz.prog Tryz.sortedA_ren:={
 mixed:=by kernel_rfl
 f6:=⟨Tryz.f230.name,by decide,Tryz.func230.trans (congrArg some (by kernel_rfl))⟩
 f8:=⟨Tryz.f264.name,by decide,Tryz.func264.trans (congrArg some (by kernel_rfl))⟩
 f11:=⟨Tryz.f287.name,by decide,Tryz.func287.trans (congrArg some (by kernel_rfl))⟩
 t0:=Tryz.underlying0
 a0:=Tryz.isAgg0
 z0:=Tryz.sizeOf0
 v0:=Tryz.zeroValue0
 t24:=Tryz.underlying65
 a24:=Tryz.isAgg65
 z24:=Tryz.sizeOf65
 v24:=Tryz.zeroValue65
 t26:=Tryz.underlying9
 a26:=Tryz.isAgg9
 z26:=Tryz.sizeOf9
 v26:=Tryz.zeroValue9
 t28:=Tryz.underlying342
 a28:=Tryz.isAgg342
 z28:=Tryz.sizeOf342
 v28:=Tryz.zeroValue342
 i26:=by kernel_rfl}
end Go.Proofs.YtenfleoejgjklaaGreat
end
section
namespace Go.Proofs.YtenfleoejgjklaaGreat
open Go Go.RowKit Go.Maps Go.Sort Go.Shelf
def Tryz.sortA_ren:Go.Shelf.Ren:=⟨λ|6=>265|8=>175|9=>288|19=>225|20=>226|21=>302|22=>303|23=>304|24=>305|25=>306|26=>307|27=>308|28=>309|29=>310|36=>312|31=>259|32=>260|37=>313|38=>314|39=>315|41=>317|n=>n,λ|27=>65|29=>9|3=>3|32=>114|26=>65|0=>0|44=>135|46=>31|4=>4|36=>330|35=>329|41=>334|5=>5|9=>9|53=>362|57=>365|63=>380|64=>381|n=>n,λ|n=>n⟩
theorem Tryz.sortA:Go.Proofs.SlLaysM.n6 Tryz.prog Tryz.sortA_ren:={
 mixed:=by kernel_rfl
 f6:=⟨Tryz.f265.name,by decide,Tryz.func265.trans (congrArg some (by kernel_rfl))⟩
 f8:=Tryz.func175.trans (congrArg some (by kernel_rfl))
 f9:=⟨Tryz.f288.name,by decide,Tryz.func288.trans (congrArg some (by kernel_rfl))⟩
 f19:=Tryz.func225.trans (congrArg some (by kernel_rfl))
 f20:=Tryz.func226.trans (congrArg some (by kernel_rfl))
 f21:=⟨Tryz.f302.name,by decide,Tryz.func302.trans (congrArg some (by kernel_rfl))⟩
 f22:=⟨Tryz.f303.name,by decide,Tryz.func303.trans (congrArg some (by kernel_rfl))⟩
 f23:=⟨Tryz.f304.name,by decide,Tryz.func304.trans (congrArg some (by kernel_rfl))⟩
 f24:=⟨Tryz.f305.name,by decide,Tryz.func305.trans (congrArg some (by kernel_rfl))⟩
 f25:=⟨Tryz.f306.name,by decide,Tryz.func306.trans (congrArg some (by kernel_rfl))⟩
 f26:=⟨Tryz.f307.name,by decide,Tryz.func307.trans (congrArg some (by kernel_rfl))⟩
 f27:=⟨Tryz.f308.name,by decide,Tryz.func308.trans (congrArg some (by kernel_rfl))⟩
 f28:=⟨Tryz.f309.name,by decide,Tryz.func309.trans (congrArg some (by kernel_rfl))⟩
 f29:=⟨Tryz.f310.name,by decide,Tryz.func310.trans (congrArg some (by kernel_rfl))⟩
 f31:=Tryz.func259.trans (congrArg some (by kernel_rfl))
 f32:=Tryz.func260.trans (congrArg some (by kernel_rfl))
 f36:=⟨Tryz.f312.name,by decide,Tryz.func312.trans (congrArg some (by kernel_rfl))⟩
 f37:=⟨Tryz.f313.name,by decide,Tryz.func313.trans (congrArg some (by kernel_rfl))⟩
 f38:=⟨Tryz.f314.name,by decide,Tryz.func314.trans (congrArg some (by kernel_rfl))⟩
 f39:=⟨Tryz.f315.name,by decide,Tryz.func315.trans (congrArg some (by kernel_rfl))⟩
 f41:=⟨Tryz.f317.name,by decide,Tryz.func317.trans (congrArg some (by kernel_rfl))⟩
 t0:=Tryz.underlying0
 a0:=Tryz.isAgg0
 z0:=Tryz.sizeOf0
 v0:=Tryz.zeroValue0
 t3:=Tryz.underlying3
 a3:=Tryz.isAgg3
 z3:=Tryz.sizeOf3
 v3:=Tryz.zeroValue3
 t4:=Tryz.underlying4
 a4:=Tryz.isAgg4
 z4:=Tryz.sizeOf4
 v4:=Tryz.zeroValue4
 t5:=Tryz.underlying5
 a5:=Tryz.isAgg5
 z5:=Tryz.sizeOf5
 v5:=Tryz.zeroValue5
 t9:=Tryz.underlying9
 a9:=Tryz.isAgg9
 z9:=Tryz.sizeOf9
 v9:=Tryz.zeroValue9
 t26:=Tryz.underlying65
 a26:=Tryz.isAgg65
 z26:=Tryz.sizeOf65
 v26:=Tryz.zeroValue65
 t27:=Tryz.underlying65
 a27:=Tryz.isAgg65
 z27:=Tryz.sizeOf65
 v27:=Tryz.zeroValue65
 t29:=Tryz.underlying9
 a29:=Tryz.isAgg9
 z29:=Tryz.sizeOf9
 v29:=Tryz.zeroValue9
 t32:=Tryz.underlying114
 a32:=Tryz.isAgg114
 z32:=Tryz.sizeOf114
 v32:=Tryz.zeroValue114
 t35:=Tryz.underlying329
 a35:=Tryz.isAgg329
 z35:=Tryz.sizeOf329
 v35:=Tryz.zeroValue329
 t36:=Tryz.underlying330
 a36:=Tryz.isAgg330
 z36:=Tryz.sizeOf330
 v36:=Tryz.zeroValue330
 t41:=Tryz.underlying334
 a41:=Tryz.isAgg334
 z41:=Tryz.sizeOf334
 v41:=Tryz.zeroValue334
 t44:=Tryz.underlying135
 a44:=Tryz.isAgg135
 z44:=Tryz.sizeOf135
 v44:=Tryz.zeroValue135
 t46:=Tryz.underlying31
 a46:=Tryz.isAgg31
 z46:=Tryz.sizeOf31
 v46:=Tryz.zeroValue31
 t53:=Tryz.underlying362
 a53:=Tryz.isAgg362
 z53:=Tryz.sizeOf362
 v53:=Tryz.zeroValue362
 t57:=Tryz.underlying365
 a57:=Tryz.isAgg365
 z57:=Tryz.sizeOf365
 v57:=Tryz.zeroValue365
 t63:=Tryz.underlying380
 a63:=Tryz.isAgg380
 z63:=Tryz.sizeOf380
 v63:=Tryz.zeroValue380
 t64:=Tryz.underlying381
 a64:=Tryz.isAgg381
 z64:=Tryz.sizeOf381
 v64:=Tryz.zeroValue381}
theorem sortsA(m:Nat):AnyZ.SortsIn Tryz.prog Tryz.sortedA_ren Fence.wide m:=
 ⟨λblk off cap ss W hH hblk hsz=>callsIn_wide.2 (AnyM.slices_Sort_string Tryz.sortA blk off cap ss W hH hblk hsz),
  λp cap W=>callsIn_wide.2 (AnyM.slices_Sort_string_none Tryz.sortA p cap W)⟩
end Go.Proofs.YtenfleoejgjklaaGreat
end
section
namespace Go.Proofs.YtenfleoejgjklaaGreat.SE
open Go
theorem aam{h:Heap}{ρ:Ren}{T:Nat->Prop}{w w':World}(hR:Rel h ρ T w)(hb:Go.RowKit.Below w.heap.size w w'){a:Loc}{S0:Nat->Prop}(hg: ∀b,S0 b->w.heap.size<=b/\b<w'.heap.size){o:dB}
  (ho: ∀ρ',dG ρ' w' T a S0 o): ∃ρ',ρ.le ρ'/\ρ' h.next=some a/\(∀i,i<h.next->ρ' i=ρ i)/\Rel (h.push o) ρ' T w'/\Keeps T w w':=by
 obtain⟨S,h1,h2,h3,h4,h5⟩:=hR;let ρ':Ren:=λi=>if i=h.next then some a else ρ i
 have hle:ρ.le ρ':=λi x hx=>by
  by_cases hi:i=h.next
  ·subst hi;rw[h4 _ (aY _)]at hx;cases hx
  ·simp only[ρ',if_neg hi];exact hx
 have hkeep:Keeps T w w':=⟨hb.size,hb.os,hb.tape,hb.output,λb hbT=>hb.block b (by
  rcases Nat.lt_or_ge b w.heap.size with h'|h'
  ·exact h'
  ·exact(hbT (h5 b h')).elim)⟩
 refine⟨ρ',hle,by simp[ρ'],λi hi=>by simp[ρ',Nat.ne_of_lt hi],⟨λi b=>if i=h.next then S0 b else S i b,λi o' hi=> ?_,λi j o1 o2 b hi hj hij hSi hSj=> ?_,λi o' b hi hS=> ?_,λi hi=> ?_,λb hb'=>h5 b (Nat.le_trans hb.size hb')⟩,hkeep⟩
 ·rw[Heap.fD]at hi
  by_cases hin:i=h.next
  ·subst hin
   simp only[if_pos]at hi;cases hi;exact⟨a,by simp[ρ'],by simpa using ho ρ'⟩
  ·simp only[if_neg hin]at hi ⊢
   obtain⟨x,hx,hh⟩:=h1 i o' hi;refine⟨x,hle _ _ hx,dG.mono hle (hh.stays λb hbS=>hb.block b ?_)⟩;rcases hbS with hbS|hbS
   ·exact(h3 i o' b hi hbS).2
   ·rcases Nat.lt_or_ge b w.heap.size with h'|h'
    ·exact h'
    ·exact(hbS (h5 b h')).elim
 ·rw[Heap.fD]at hi hj
  by_cases hi':i=h.next<;>by_cases hj':j=h.next
  ·exact hij (hi'.trans hj'.symm)
  ·simp only[if_pos hi',if_neg hj']at hSi hSj hj
   have:=(h3 j o2 b hj hSj).2;have:=hg b hSi;omega
  ·simp only[if_neg hi',if_pos hj']at hSi hSj hi
   have:=(h3 i o1 b hi hSi).2;have:=hg b hSj;omega
  ·simp only[if_neg hi',if_neg hj']at hSi hSj hi hj
   exact h2 i j o1 o2 b hi hj hij hSi hSj
 ·rw[Heap.fD]at hi
  by_cases hin:i=h.next
  ·simp only[if_pos hin]at hS
   exact⟨h5 _ (hg b hS).1,(hg b hS).2⟩
  ·simp only[if_neg hin]at hi hS
   obtain⟨g1,g2⟩:=h3 i o' b hi hS;exact⟨g1,Nat.lt_of_lt_of_le g2 hb.size⟩
 ·have hn:(h.push o).next=h.next+1:=by simp
  rw[hn]at hi;simp only[ρ',if_neg (by omega: ¬i=h.next)];exact h4 i (by omega)
end Go.Proofs.YtenfleoejgjklaaGreat.SE
end
section
namespace Go.Proofs.YtenfleoejgjklaaGreat
open Go SE
structure ZMs.good (m:ZMs):Prop where
 size:m.n<=258
 key: ∀j,j<m.n->(m.lk j).key.size<1099511627776
 inj: ∀i j,i<m.n->j<m.n->(m.lk i).key=(m.lk j).key->i=j
 born: ∀j,j<m.n->m.born j<m.clk
 bi: ∀i j,i<m.n->j<m.n->m.born i=m.born j->i=j
structure aif (m:ZMs) (ks:List ByteArray):Prop where
 srt:ks.Pairwise λa b=>kl a b=true
 len:ks.length=m.n
 mem: ∀s,s∈ks↔ ∃j,j<m.n/\(m.lk j).key=s
def EN(ks:List ByteArray)(i:Nat):ByteArray:=ks.getD i ⟨#[]⟩
def aii(z:Bool)(ks:List ByteArray):dB:= .gY z 9 (.row 1 ks.length (λi=>[.string (EN ks i)]) [])
noncomputable def aij:Ctr:={X:=ZMs,args:=λ_=>[.fn (.func 266) [] [.ptr 0 0]],k:=2,os:=λm=>[.cells 169 (.av [.mp 1]),.nN m.ms],pre:=λm=>Hd m.good,outs:=[
 {Y:=Bool×List ByteArray,post:=λm y=>Hd (aif m y.2/\(y.1=true->y.2=[])),ret:=λ_ y=> .slV y.1 2 1 y.2.length,m:=3,os:=λm y=>[.cells 169 (.av [.mp 1]),.nN m.ms,aii y.1 y.2]}]}
def rdN:Value->Option (DataW Unit×List MemPlace):=λ_=>some (.lit (.bool true),[])
theorem atJ(a b:List UInt8):kl ⟨a.toArray⟩ ⟨b.toArray⟩=decide (a<b):=by
 unfold kl;rw[iC,iC,Go.Proofs.bytesLess_eq]
theorem ownsS{w:World}{b:Nat}{m:ZMs}{arr:Array MapEntry}(hm:m.good)(hb:w.heap[b]? =some (.map arr m.clk))(hr:IU m.ms arr):
  ∃D0:DataW Unit,w.ownsMap Tryz.prog 9 rdN b m.n D0/\Maps.size D0=m.n/\(strKeys D0).Perm ((List.range m.n).map λj=>(m.lk j).key.data.toList):=by
 obtain⟨r1,r2⟩:=hr;have r1:arr.size=m.n:=r1;have ent: ∀j,j<m.n->arr[j]? =some {key:= .string (m.lk j).key,val:= .agg (m.lk j).cs.toArray,born:=m.born j}:=r2;have htl:arr.toList=(List.range m.n).map λj=>({key:= .string (m.lk j).key,val:= .agg (m.lk j).cs.toArray,born:=m.born j}:MapEntry):=by
  apply List.ext_getElem?;intro j;rw[Array.getElem?_toList,List.getElem?_map];rcases Nat.lt_or_ge j m.n with hj|hj
  ·rw[ent j hj,List.getElem?_range hj];rfl
  ·rw[Array.getElem?_eq_none (by omega),List.getElem?_eq_none (by simpa using hj)];rfl
 have hk: ∀j,j<m.n->Go.keyOf Tryz.prog 9 (.string (m.lk j).key)=some (.string (m.lk j).key.data.toList):=λj hj=>by
  have:=hm.key j hj;have hs:(m.lk j).key.size<=maxLen:=by unfold maxLen;omega
  simp[Go.keyOf,Tryz.underlying9,mapKey,hs]
 have hrd: ∀j,j<m.n->Go.WideElems.rd Tryz.prog 9 rdN {key:= .string (m.lk j).key,val:= .agg (m.lk j).cs.toArray,born:=m.born j}=some (.string (m.lk j).key.data.toList,.lit (.bool true)):=λj hj=>by simp[Go.WideElems.rd,hk j hj,rdN]
 have hmap:arr.toList.map (Go.WideElems.rg Tryz.prog 9 rdN)=(List.range m.n).map λj=>((.string (m.lk j).key.data.toList,.lit (.bool true)):Lit×DataW Unit):=by
  rw[htl,List.map_map];refine List.map_congr_left λj hj=> ?_
  rw[Function.comp_apply,Go.WideElems.rg,hrd j (List.mem_range.1 hj),Option.getD_some]
 have hz:=hm.size;refine⟨.map ((arr.toList.map (Go.WideElems.rg Tryz.prog 9 rdN)).foldr DataW.insert []),⟨arr,m.clk,hb,⟨by rw[r1];unfold maxLen;omega,⟨λx hx=> ?_,?_,?_⟩,λx hx=> ?_⟩,by rw[r1];exact aY _,rfl⟩,?_,?_⟩
 ·rw[htl]at hx
  obtain⟨j,hj,rfl⟩:=List.mem_map.1 hx;exact hm.born j (List.mem_range.1 hj)
 ·rw[htl,List.map_map]
  exact List.pairwise_map.2 (List.nodup_range.imp_of_mem λ{i j} hi hj hne e=>hne (hm.bi i j (List.mem_range.1 hi) (List.mem_range.1 hj) e))
 ·rw[htl,List.map_map]
  exact List.pairwise_map.2 (List.nodup_range.imp_of_mem λ{i j} hi hj hne e=>hne (hm.inj i j (List.mem_range.1 hi) (List.mem_range.1 hj) (by injection e)))
 ·rw[htl]at hx
  obtain⟨j,hj,rfl⟩:=List.mem_map.1 hx;exact⟨_,hrd j (List.mem_range.1 hj)⟩
 ·show((arr.toList.map (Go.WideElems.rg Tryz.prog 9 rdN)).foldr DataW.insert []).length=_
  rw[(Go.WideShapes.sorted_perm _).length_eq,hmap];simp
 ·show(((arr.toList.map (Go.WideElems.rg Tryz.prog 9 rdN)).foldr DataW.insert []).map λp=>strOf p.1).Perm _
  refine((Go.WideShapes.sorted_perm _).map _).trans ?_;rw[hmap,List.map_map];exact List.Perm.refl _
theorem arh{m:ZMs}(hm:m.good){ss:List (List UInt8)}(hp:ss.Perm ((List.range m.n).map λj=>(m.lk j).key.data.toList)):aif m ((ss.mergeSort (λx y=>decide (x<=y))).map λl=>(⟨l.toArray⟩:ByteArray)):=by
 have tr: ∀a b c:List UInt8,decide (a<=b)=true->decide (b<=c)=true->decide (a<=c)=true:=λa b c h1 h2=>by simp only[decide_eq_true_eq]at*;exact List.le_trans h1 h2
 have to: ∀a b:List UInt8,(decide (a<=b)||decide (b<=a))=true:=λa b=>by simp only[Bool.or_eq_true,decide_eq_true_eq];exact List.le_total a b
 have hq:(ss.mergeSort (λx y=>decide (x<=y))).Perm ((List.range m.n).map λj=>(m.lk j).key.data.toList):=(List.mergeSort_perm ss _).trans hp;have nd:((List.range m.n).map λj=>(m.lk j).key.data.toList).Nodup:=List.pairwise_map.2 (List.nodup_range.imp_of_mem λ{i j} hi hj hne e=>hne (hm.inj i j (List.mem_range.1 hi) (List.mem_range.1 hj) (ByteArray.ext (Array.toList_inj.1 e))));refine⟨List.pairwise_map.2 ?_,by rw[List.length_map,hq.length_eq];simp,λs=> ?_⟩
 ·have h1:=List.pairwise_mergeSort tr to ss
  have h2:=hq.symm.nodup nd;refine(List.pairwise_and_iff.2 ⟨h1,h2⟩).imp λ{a b} h=> ?_
  rw[atJ,decide_eq_true_eq];have h1:=aS h.1;by_cases h':a<b
  ·exact h'
  ·exact absurd (List.le_antisymm h1 (List.not_lt.1 h')) h.2
 ·rw[List.mem_map]
  constructor
  ·rintro ⟨l,hl,rfl⟩
   obtain⟨j,hj,rfl⟩:=List.mem_map.1 (hq.mem_iff.1 hl);exact⟨j,List.mem_range.1 hj,ByteArray.ext (by simp)⟩
  ·rintro ⟨j,hj,rfl⟩
   exact⟨_,hq.mem_iff.2 (List.mem_map.2 ⟨j,List.mem_range.2 hj,rfl⟩),ByteArray.ext (by simp)⟩
theorem VW{m:ZMs}(hm:m.good){w:World}{Bm b:Nat}{arr:Array MapEntry}(hB:w.cell? ⟨Bm,0,none⟩=some (.map (some b)))(hBl:Bm<w.heap.size)(hb:w.heap[b]? =some (.map arr m.clk))(hr:IU m.ms arr):
  Calls Tryz.prog 230 #[.func (.func 266) #[] #[.pointer (some ⟨Bm,0,none⟩)]] w λe w'=>
   ∃(v:Value) (ss:List (List UInt8)),e= .returned v/\ss.Perm ((List.range m.n).map λj=>(m.lk j).key.data.toList)/\
    w'.ownsRow w.heap.size 9 1 v ss.length ((ss.mergeSort (λx y=>decide (x<=y))).map encStr)/\(v= .slice none 0 0↔ss=[])/\Go.RowKit.Below w.heap.size w w':=by
 obtain⟨D0,d1,d2,d3⟩:=ownsS hm hb hr;have hz:=hm.size;have hseq:=AnyZ.keys_gives (ρ:=Tryz.keysA_ren) (H:=Unit) {Tryz.keysA with} Fence.wide 2 trivial rfl (by omega) Bm b m.n D0 w hBl hB d1;have h:=AnyZ.sorted_in Tryz.sortedA Fence.wide 5 trivial trivial trivial trivial rfl (by omega) (sortsA _) (enters_of Tryz.func265 (by kernel_rfl) rfl) 266 #[.pointer (some ⟨Bm,0,none⟩)] trivial (enters_of Tryz.func266 (by kernel_rfl) rfl) _ _ (by rw[d2];unfold maxLen;omega) (by rw[d2];omega) w hseq;refine(callsIn_wide.1 h).mono ?_
 rintro e w' ⟨v,ss,rfl,hp,hrow,hnil,hbel⟩
 exact⟨v,ss,rfl,hp.trans d3,hrow,hnil,hbel⟩
set_option maxRecDepth 20000 in
theorem aik:bZ Tryz.prog 230 aij:=λm hp=>by
 have hm:=aZ.1 hp;refine⟨rfl,⟨Tryz.f230,by kernel_rfl,by kernel_rfl,by kernel_rfl⟩,λρ T w vs hR hl=> ?_⟩;obtain⟨u1,us,hvs,hu1,hus⟩:=hl;obtain rfl:us=[]:=hus;obtain⟨fa,ca,rfl,hfa,hca⟩:=hu1;obtain⟨u,us,hca2,hu,hus⟩:=hca;obtain rfl:us=[]:=hus;obtain⟨a,ha,rfl⟩:=hu;have hfa:fa.toList=[]:=hfa;obtain rfl:fa= #[]:=by cases fa;simp_all
 obtain rfl:ca= #[.pointer (some ⟨a.blk,a.base+0,none⟩)]:=by cases ca;simp_all
 obtain rfl:vs= #[.func (.func 266) #[] #[.pointer (some ⟨a.blk,a.base+0,none⟩)]]:=by cases vs;simp_all
 have hR':=hR;obtain⟨S,h1,h2,h3,h4,h5⟩:=hR;obtain⟨a',ha',hO⟩:=h1 0 (.cells 169 (.av [.mp 1])) rfl;rw[ha]at ha';cases ha';obtain⟨hb0,hS,arr,ha1,ha2,ha3,ha4⟩:=hO;obtain⟨um,hm1,hm2⟩:=ha4 0 (.mp 1) rfl;obtain⟨aj,haj,rfl⟩:=hm2;obtain⟨aj',haj',hOj⟩:=h1 1 (.nN m.ms) rfl;rw[haj]at haj';cases haj';obtain⟨hSj,marr,hmb,hmr⟩:=hOj;have hBl:a.blk<w.heap.size:=(h3 0 _ _ rfl hS).2;have hcell:w.cell? ⟨a.blk,0,none⟩=some (.map (some aj.blk)):=by
  simp[World.cell?,ha1,hb0]at hm1 ⊢;simpa using hm1
 rw[hb0];refine(VW hm hcell hBl hmb hmr).mono ?_
 rintro e w' ⟨v,ss,rfl,hperm,⟨hlen,hrow⟩,hnil,hbel⟩
 have hk:=arh hm hperm;have hl:((ss.mergeSort (λx y=>decide (x<=y))).map λl=>(⟨l.toArray⟩:ByteArray)).length=ss.length:=by simp
 rcases hrow with ⟨rfl,h0⟩|⟨g,cap,cur,rfl,r1,r2,r3,r4,r5,r6⟩
 ·have hss:ss=[]:=List.eq_nil_of_length_eq_zero h0
  subst hss;obtain⟨ρ',l1,l2,l3,l4,l5⟩:=aam (a:=⟨0,0,0⟩) (S0:=λ_=>False) (o:=aii true []) hR' hbel (λb h=>h.elim) (λρ'=> .inl ⟨rfl,rfl⟩);refine⟨ρ',.slV true 2 1 0,_,hO 3 [.cells 169 (.av [.mp 1]),.nN m.ms,aii true []],l3,by show 2<=3;decide,?_,.inl ⟨rfl,rfl,rfl⟩,rfl,l5,eP ⟨(true,[]),aZ.2 ⟨by simpa using hk,λ_=>rfl⟩,rfl,rfl⟩⟩;exact l4
 ·have hgl:g<w'.heap.size:=(Array.getElem?_eq_some_iff.1 r2).1
  generalize hks:(ss.mergeSort (λx y=>decide (x<=y))).map (λl=>(⟨l.toArray⟩:ByteArray))=ks at hk hl;have hne:ss≠[]:=λe=>by have:=hnil.2 e;cases this
  have hcur: ∀i,i<ks.length->cur[i]? =some (.string (EN ks i)):=λi hi=>by
   have e1:(cur.toList.take (ss.length*1))[i]? =cur.toList[i]? :=List.getElem?_take_of_lt (by omega);rw[<-Array.getElem?_toList,<-e1,r6];subst hks;unfold EN;rw[List.length_map]at hi;rw[List.getElem?_map,List.getElem?_eq_getElem hi,List.getD_eq_getElem?_getD,List.getElem?_map,List.getElem?_eq_getElem hi];rfl
  obtain⟨ρ',l1,l2,l3,l4,l5⟩:=aam (a:=⟨g,0,cap⟩) (S0:=λb=>b=g) (o:=aii false ks) hR' hbel (λb h=>by subst h;exact⟨r1,hgl⟩) (λρ'=> .inr ⟨rfl,rfl,rfl,cur,r2,by show cur.size=cap;omega,by show ks.length*1<=cap;omega,λk x hk=>by
   unfold Cs.get at hk;cases hb:Nat.blt k (ks.length*1)with
   |false=>rw[hb]at hk;cases hk
   |true=>
    rw[hb]at hk;have hb:=bg.1 hb;have hi:k<ks.length:=by omega
    have e1:k/1=k:=Nat.div_one k;have e2:k%1=0:=Nat.mod_one k;rw[e1,e2]at hk;cases hk
    exact⟨_,by rw[aA];exact hcur k hi,rfl⟩⟩)
  rw[<-hl];refine⟨ρ',.slV false 2 1 ks.length,_,hO 3 [.cells 169 (.av [.mp 1]),.nN m.ms,aii false ks],l3,by show 2<=3;decide,?_,.inr ⟨rfl,⟨g,0,cap⟩,_,_,l2,rfl,?_,?_⟩,rfl,l5,eP ⟨(false,ks),aZ.2 ⟨hk,λh=>nomatch h⟩,rfl,rfl⟩⟩
  ·exact l4
  ·omega
  ·exactλ_=>⟨rfl,by show cap*1<=cap;omega⟩
structure ZNx where
 L:Lks
 pos:ByteArray
 past:Bool
noncomputable def amP(b:Nat):adU:={X:=ZNx,args:=λx=>[.ptr 0 0,i64 b,.lit (.string x.pos),boo x.past],L:=λx=>x.L,pre:=λx=>Hd (x.pos.size<1099511627776),outs:=[
 {Y:=Unit,post:=λx _=>Hd (nextL x.L b x.pos x.past=none),ret:=λ_ _=> .tup [iO.av,boo false],L:=λx _=>x.L,m:=1,ex:=λ_ _=>[]},
 {Y:=ZLnk,post:=λx y=>Hd (nextL x.L b x.pos x.past=some y),ret:=λ_ y=> .tup [y.av,boo true],L:=λx _=>x.L,m:=1,ex:=λ_ _=>[]}]}
def txtV:List Value->ByteArray
 |[.string s]=>s
 |_=>⟨#[]⟩
def aoE(x:ZNx×iU):FuncId->pX:=λf=>bif Nat.beq f 182 then(λb _ h=>bif Nat.beq b 0 then(match h.get 11 with
 |some (.gY _ _ (.row _ n g _))=>[{σ:=Nat,fr:=λi=>[(34,i64 i)],ob:=λ_=>[],inv:=λi=>Hd (i<=n/\ ∀j,j<i->x.1.past=true/\kl x.1.pos (txtV (g j))=false),meas:=λi=>n-i}]
 |_=>[])else [])elseλ_ _ _=>[]
noncomputable def atK:jd:=[(230,ctrT aij)]
def nEnd(b:Nat)(x:ZNx×iU)(m:ZMs)(l:ZLnk)(f:Bool):Prop:=(∃y:Unit×iU,(Hd (nextL x.1.L b x.1.pos x.1.past=none)/\Hd (lM x.1.L y.2))/\(VO iO l/\false=f/\True)/\Gx y.2 x.2 b m.ms)\/ ∃y:ZLnk×iU,(Hd (nextL x.1.L b x.1.pos x.1.past=some y.1)/\Hd (lM x.1.L y.2))/\(VO y.1 l/\true=f/\True)/\Gx y.2 x.2 b m.ms
def nInv(x:ZNx×iU)(y:Bool×List ByteArray)(s:Nat):Prop:=Hd (s<=y.2.length/\ ∀j,j<s->x.1.past=true/\kl x.1.pos (EN y.2 j)=false)
def ari(b:Nat)(x:ZNx×iU)(m:ZMs)(y:Bool×List ByteArray):Prop:=(y.1=y.1/\y.2.length=y.2.length/\ ∀q:Nat,q<y.2.length->[Value.string (EN y.2 q)]=[Value.string (EN y.2 q)])/\(True/\True)/\VO iO iO/\
 (bif Nat.beq b 7 then m.ms else(x.2 7).ms)=(bif Nat.beq b 7 then m.ms else(x.2 7).ms)/\(bif Nat.beq b 6 then m.ms else(x.2 6).ms)=(bif Nat.beq b 6 then m.ms else(x.2 6).ms)/\(bif Nat.beq b 5 then m.ms else(x.2 5).ms)=(bif Nat.beq b 5 then m.ms else(x.2 5).ms)/\(bif Nat.beq b 4 then m.ms else(x.2 4).ms)=(bif Nat.beq b 4 then m.ms else(x.2 4).ms)/\(bif Nat.beq b 3 then m.ms else(x.2 3).ms)=(bif Nat.beq b 3 then m.ms else(x.2 3).ms)/\(bif Nat.beq b 2 then m.ms else(x.2 2).ms)=(bif Nat.beq b 2 then m.ms else(x.2 2).ms)/\(bif Nat.beq b 1 then m.ms else(x.2 1).ms)=(bif Nat.beq b 1 then m.ms else(x.2 1).ms)/\(bif Nat.beq b 0 then m.ms else(x.2 0).ms)=(bif Nat.beq b 0 then m.ms else(x.2 0).ms)/\ar2/\True
def nHit(b:Nat)(x:ZNx×iU)(m:ZMs)(y:Bool×List ByteArray)(s:Nat):Prop:=aoA m (EN y.2 (0+s)) (λj=>nEnd b x m (m.lk j) true)/\kNo m (EN y.2 (0+s)) (nEnd b x m iO true)
def gtrB(a b:ByteArray):Bool:= !(Op.bytesLess a.toList b.toList||a.toList==b.toList)
def atM(b:Nat)(x:ZNx×iU):Prop:=((0:Int)<=b/\(0:Int)<=(7:Int)-b)/\ ∃m:ZMs,Hd m.good/\((Fn.func 266=Fn.func 266/\True/\0=0/\True)/\True)/\((True/\True)/\m.ms=(x.2 b).ms/\True)/\
 ∀y:Bool×List ByteArray,Hd (aif m y.2/\(y.1=true->y.2=[]))->(∃s:Nat,nInv x y s/\True/\((s:Int)=0/\True)/\ari b x m y)/\
  (∀s:Nat,nInv x y s->cP (decide ((s:Int)<((y.2.length:Nat):Int))) ((0<=(s:Int)/\(s:Int)<((y.2.length:Nat):Int))/\0+s<y.2.length/\cP (!x.1.past) (nHit b x m y s) (cP (gtrB (EN y.2 (0+s)) x.1.pos) (nHit b x m y s)
   (I64 ((s:Int)+1)/\ ∃s1:Nat,nInv x y s1/\y.2.length-s1<y.2.length-s/\((s1:Int)=(s:Int)+1/\True)/\ari b x m y))) (nEnd b x m iO false))/\True
theorem amQ: ∀b,b<8-> ∀x,atM b x=wpF Tryz.prog atK tt (aoE x) 200 6 182 ((amP b).E.args x) (hO 9 (flatP 1 ((amP b).E.l x))) (λv h'=>endsPK 1 x v h' (amP b).E.outs)
 |0,_=>λx=>by kernel_rfl
 |1,_=>λx=>by kernel_rfl
 |2,_=>λx=>by kernel_rfl
 |3,_=>λx=>by kernel_rfl
 |4,_=>λx=>by kernel_rfl
 |5,_=>λx=>by kernel_rfl
 |6,_=>λx=>by kernel_rfl
 |7,_=>λx=>by kernel_rfl
 |b+8,h=>absurd h (by omega)
theorem ail(a b:ByteArray):gtrB a b=kl b a:=by
 unfold gtrB kl;cases h1:Op.bytesLess a.toList b.toList with
 |true=>
  have:Op.bytesLess b.toList a.toList=false:=by
   cases h2:Op.bytesLess b.toList a.toList with
   |false=>rfl
   |true=>have:=Kt h1 h2;rw[Z7]at this;cases this
  rw[this];rfl
 |false=>
  cases h2:Op.bytesLess b.toList a.toList with
  |true=>
   have hne:(a.toList==b.toList)=false:=by
    rw[beq_eq_false_iff_ne];intro e;rw[e,Z7]at h2;cases h2
   rw[hne];rfl
  |false=>
   have:=ahK _ _ h1 h2;rw[this];simp
theorem acT{L:Lks}(hs:srt L){p:ZLnk->Bool}{l:ZLnk}(hl:l∈L)(hp:p l=true)(hn: ∀l'∈L,kl l'.key l.key=true->p l'=false):L.find? p=some l:=by
 induction L with
 |nil=>cases hl
 |cons x L ih=>
  obtain⟨h1,h2⟩:=List.pairwise_cons.1 hs;rcases List.mem_cons.1 hl with rfl|hl
  ·rw[List.find?_cons_of_pos hp]
  ·rw[List.find?_cons_of_neg (by rw[hn x List.mem_cons_self (h1 l hl)];decide)]
   exact ih h2 hl λl' hl'=>hn l' (List.mem_cons_of_mem _ hl')
theorem arj{ks:List ByteArray}{i:Nat}(h:i<ks.length):EN ks i∈ks:=by
 unfold EN;rw[List.getD_eq_getElem?_getD,List.getElem?_eq_getElem h];exact List.getElem_mem h
theorem ark{ks:List ByteArray}{s:ByteArray}(h:s∈ks): ∃i,i<ks.length/\EN ks i=s:=by
 obtain⟨i,hi,rfl⟩:=List.mem_iff_getElem.1 h;exact⟨i,hi,by unfold EN;rw[List.getD_eq_getElem?_getD,List.getElem?_eq_getElem hi];rfl⟩
theorem atN{ks:List ByteArray}(h:ks.Pairwise λa b=>kl a b=true){i j:Nat}(hi:i<ks.length)(hj:j<ks.length)(hk:kl (EN ks i) (EN ks j)=true):i<j:=by
 rcases Nat.lt_trichotomy i j with h'|h'|h'
 ·exact h'
 ·subst h';rw[nZ]at hk;cases hk
 ·have e: ∀q,q<ks.length->EN ks q=ks[q]! :=λq hq=>by unfold EN;rw[List.getD_eq_getElem?_getD,List.getElem!_eq_getElem?_getD];rfl
  have:=List.pairwise_iff_getElem.1 h j i hj hi h';have e1:EN ks i=ks[i]:=by unfold EN;rw[List.getD_eq_getElem?_getD,List.getElem?_eq_getElem hi];rfl
  have e2:EN ks j=ks[j]:=by unfold EN;rw[List.getD_eq_getElem?_getD,List.getElem?_eq_getElem hj];rfl
  rw[e1,e2]at hk;have:=jA this hk;rw[nZ]at this;cases this
theorem lM.good{L:Lks}{t:iU}(h:lM L t){b:Nat}(hb:b<8):(t b).good:=by
 refine⟨?_,λj hj=>h.key _ (h.mem b hb j hj).1,h.inj b hb,h.born b hb,h.bi b hb⟩;rw[h.n hb];exact Nat.le_trans (List.length_filter_le _ _) h.size
theorem Q9{t:iU}{b:Nat}(hb:b<8):Gx t t b (t b).ms:=by
 have e: ∀k,k<8->(t k).ms=(bif Nat.beq b k then(t b).ms else(t k).ms):=λk hk=>by
  rw[dA];by_cases h:b=k
  ·subst h;simp
  ·rw[decide_eq_false h];rfl
 exact⟨AX,e 0 (by decide),e 1 (by decide),e 2 (by decide),e 3 (by decide),e 4 (by decide),e 5 (by decide),e 6 (by decide),e 7 (by decide),trivial⟩
theorem acU{b:Nat}(hb:b<8)(x:ZNx×iU)(h:lM x.1.L x.2):atM b x:=by
 have hz:=(h.good hb).size;refine⟨⟨by omega,by omega⟩,x.2 b,aZ.2 (h.good hb),⟨⟨rfl,trivial,rfl,trivial⟩,trivial⟩,⟨⟨trivial,trivial⟩,rfl,trivial⟩,λy hy=> ?_⟩;obtain⟨⟨k1,k2,k3⟩,_⟩:=aZ.1 hy;have keep:ari b x (x.2 b) y:=⟨⟨rfl,rfl,λ_ _=>rfl⟩,⟨trivial,trivial⟩,kL,rfl,rfl,rfl,rfl,rfl,rfl,rfl,rfl,AX,trivial⟩;have key: ∀l∈x.1.L,bkt l.key=b-> ∃i,i<y.2.length/\EN y.2 i=l.key:=λl hl hlb=>by
  obtain⟨j,h1,h2⟩:=h.all l hl;rw[hlb]at h1 h2;exact ark ((k3 l.key).2 ⟨j,h1,by rw[h2]⟩)
 refine⟨⟨0,aZ.2 ⟨Nat.zero_le _,λj hj=>absurd hj (Nat.not_lt_zero j)⟩,trivial,⟨rfl,trivial⟩,keep⟩,λs hs=> ?_,trivial⟩;obtain⟨s1,s2⟩:=aZ.1 hs;refine bf (λhc=> ?_) λhc=> ?_
 ·have hlt:s<y.2.length:=by have:=aS hc;omega
  have hit:((!x.1.past)||kl x.1.pos (EN y.2 s))=true->nHit b x (x.2 b) y s:=λhp=>by
   unfold nHit;rw[aA];refine⟨λj hj hk=> .inr ⟨((x.2 b).lk j,x.2),⟨aZ.2 ?_,aZ.2 h⟩,⟨kL,rfl,trivial⟩,Q9 hb⟩,λhn=> ?_⟩
   ·obtain⟨m1,m2⟩:=h.mem b hb j hj
    refine acT h.srt m1 ?_ λl' hl' hk'=> ?_
    ·rw[decide_eq_true m2,hk,aH];exact hp
    ·by_cases hlb:bkt l'.key=b
     ·obtain⟨i,hi,he⟩:=key l' hl' hlb
      rw[hk,<-he]at hk';have:=atN k1 hi hlt hk';obtain⟨p1,p2⟩:=s2 i this;rw[<-he,p1,p2];simp
     ·rw[decide_eq_false hlb];rfl
   ·obtain⟨j,hj,hk⟩:=(k3 _).1 (arj hlt)
    exact(hn j hj hk).elim
  refine⟨⟨by omega,by omega⟩,by omega,bf (λhp=>hit (by rw[hp];rfl)) λhp=>bf (λhq=> ?_) λhq=> ?_⟩
  ·rw[ail,aA]at hq
   exact hit (by rw[hq];simp)
  ·rw[ail,aA]at hq
   refine⟨by unfold I64;omega,s+1,aZ.2 ⟨by omega,λj hj=> ?_⟩,by omega,⟨by omega,trivial⟩,keep⟩;by_cases e:j=s
   ·subst e;exact⟨by simpa using hp,hq⟩
   ·exact s2 j (by omega)
 ·have hge:y.2.length<=s:=by have:=aT hc;omega
  refine .inl ⟨((),x.2),⟨aZ.2 (List.find?_eq_none.2 λl hl=> ?_),aZ.2 h⟩,⟨kL,rfl,trivial⟩,Q9 hb⟩;by_cases hlb:bkt l.key=b
  ·obtain⟨i,hi,he⟩:=key l hl hlb
   obtain⟨p1,p2⟩:=s2 i (by omega);rw[<-he,p1,p2];simp
  ·rw[decide_eq_false hlb];simp
theorem amR:dX Tryz.prog atK:= .cons (bM aik) .nil
theorem ain{b:Nat}(hb:b<8):bZ Tryz.prog 182 (amP b).C:=EH ⟨Tryz.f182,by kernel_rfl,by kernel_rfl,by kernel_rfl⟩ (List.forall_mem_cons.2 ⟨λ_ _=>rfl,List.forall_mem_cons.2 ⟨λ_ _=>rfl,λ_ h=>(List.not_mem_nil h).elim⟩⟩) (cO dD mixed amR 9 aoE 200 6 (λ_=>⟨rfl,rfl,rfl,rfl⟩) λx hx=>Eq.mp (amQ b hb x) (acU hb x (aZ.1 hx.2)))
structure ZNk where
 L:Lks
 s:ByteArray
 pos:ByteArray
 past:Bool
noncomputable def nextK:adU:={X:=ZNk,args:=λx=>[.ptr 0 0,i64 (bkt x.s),.lit (.string x.pos),boo x.past],L:=λx=>x.L,pre:=λx=>Hd (x.pos.size<1099511627776),outs:=[
 {Y:=Unit,post:=λx _=>Hd (nextL x.L (bkt x.s) x.pos x.past=none),ret:=λ_ _=> .tup [iO.av,boo false],L:=λx _=>x.L,m:=1,ex:=λ_ _=>[]},
 {Y:=ZLnk,post:=λx y=>Hd (nextL x.L (bkt x.s) x.pos x.past=some y),ret:=λ_ y=> .tup [y.av,boo true],L:=λx _=>x.L,m:=1,ex:=λ_ _=>[]}]}
theorem amS:bZ Tryz.prog 182 nextK.C:=je λx hx=>⟨_,ain (qB x.s),rfl,⟨x.L,x.pos,x.past⟩,hx,rfl,rfl,λv h' hh=>by
 rcases pz hh with ⟨y,h0,e1,e2⟩|⟨y,h0,e1,e2⟩
 ·exact eP ⟨(),h0,e1,e2⟩
 ·exact AO ⟨y,h0,e1,e2⟩⟩
end Go.Proofs.YtenfleoejgjklaaGreat
end
section
namespace Go.Proofs.YtenfleoejgjklaaGreat
open Go Go.Shelf Go.RowKit Go.Lib Go.Sort
def Tryz.sortFA_ren:Go.Shelf.Ren:=⟨λ|6=>118|15=>175|14=>174|28=>225|29=>226|20=>217|21=>218|22=>219|23=>220|24=>221|25=>222|26=>223|27=>224|46=>258|47=>259|48=>260|49=>261|50=>262|57=>286|n=>n,λ|22=>123|24=>41|25=>240|3=>3|39=>114|0=>0|53=>135|55=>31|4=>4|46=>330|45=>329|50=>334|5=>5|9=>9|66=>362|70=>365|76=>380|77=>381|n=>n,λ|n=>n⟩
theorem Tryz.sortFA:Go.Proofs.SlLaysF0.n6 Tryz.prog Tryz.sortFA_ren:={
 mixed:=by kernel_rfl
 f6:=⟨Tryz.f118.name,by decide,Tryz.func118.trans (congrArg some (by kernel_rfl))⟩
 f14:=⟨Tryz.f174.name,by decide,Tryz.func174.trans (congrArg some (by kernel_rfl))⟩
 f15:=Tryz.func175.trans (congrArg some (by kernel_rfl))
 f20:=⟨Tryz.f217.name,by decide,Tryz.func217.trans (congrArg some (by kernel_rfl))⟩
 f21:=⟨Tryz.f218.name,by decide,Tryz.func218.trans (congrArg some (by kernel_rfl))⟩
 f22:=⟨Tryz.f219.name,by decide,Tryz.func219.trans (congrArg some (by kernel_rfl))⟩
 f23:=⟨Tryz.f220.name,by decide,Tryz.func220.trans (congrArg some (by kernel_rfl))⟩
 f24:=⟨Tryz.f221.name,by decide,Tryz.func221.trans (congrArg some (by kernel_rfl))⟩
 f25:=⟨Tryz.f222.name,by decide,Tryz.func222.trans (congrArg some (by kernel_rfl))⟩
 f26:=⟨Tryz.f223.name,by decide,Tryz.func223.trans (congrArg some (by kernel_rfl))⟩
 f27:=⟨Tryz.f224.name,by decide,Tryz.func224.trans (congrArg some (by kernel_rfl))⟩
 f28:=Tryz.func225.trans (congrArg some (by kernel_rfl))
 f29:=Tryz.func226.trans (congrArg some (by kernel_rfl))
 f46:=⟨Tryz.f258.name,by decide,Tryz.func258.trans (congrArg some (by kernel_rfl))⟩
 f47:=Tryz.func259.trans (congrArg some (by kernel_rfl))
 f48:=Tryz.func260.trans (congrArg some (by kernel_rfl))
 f49:=⟨Tryz.f261.name,by decide,Tryz.func261.trans (congrArg some (by kernel_rfl))⟩
 f50:=⟨Tryz.f262.name,by decide,Tryz.func262.trans (congrArg some (by kernel_rfl))⟩
 f57:=⟨Tryz.f286.name,by decide,Tryz.func286.trans (congrArg some (by kernel_rfl))⟩
 t0:=Tryz.underlying0
 a0:=Tryz.isAgg0
 z0:=Tryz.sizeOf0
 v0:=Tryz.zeroValue0
 t3:=Tryz.underlying3
 a3:=Tryz.isAgg3
 z3:=Tryz.sizeOf3
 v3:=Tryz.zeroValue3
 t4:=Tryz.underlying4
 a4:=Tryz.isAgg4
 z4:=Tryz.sizeOf4
 v4:=Tryz.zeroValue4
 t5:=Tryz.underlying5
 a5:=Tryz.isAgg5
 z5:=Tryz.sizeOf5
 v5:=Tryz.zeroValue5
 t9:=Tryz.underlying9
 a9:=Tryz.isAgg9
 z9:=Tryz.sizeOf9
 v9:=Tryz.zeroValue9
 t22:=Tryz.underlying123
 a22:=Tryz.isAgg123
 z22:=Tryz.sizeOf123
 v22:=Tryz.zeroValue123
 t25:=Tryz.underlying240
 a25:=Tryz.isAgg240
 z25:=Tryz.sizeOf240
 v25:=Tryz.zeroValue240
 t39:=Tryz.underlying114
 a39:=Tryz.isAgg114
 z39:=Tryz.sizeOf114
 v39:=Tryz.zeroValue114
 t45:=Tryz.underlying329
 a45:=Tryz.isAgg329
 z45:=Tryz.sizeOf329
 v45:=Tryz.zeroValue329
 t46:=Tryz.underlying330
 a46:=Tryz.isAgg330
 z46:=Tryz.sizeOf330
 v46:=Tryz.zeroValue330
 t50:=Tryz.underlying334
 a50:=Tryz.isAgg334
 z50:=Tryz.sizeOf334
 v50:=Tryz.zeroValue334
 t53:=Tryz.underlying135
 a53:=Tryz.isAgg135
 z53:=Tryz.sizeOf135
 v53:=Tryz.zeroValue135
 t55:=Tryz.underlying31
 a55:=Tryz.isAgg31
 z55:=Tryz.sizeOf31
 v55:=Tryz.zeroValue31
 t66:=Tryz.underlying362
 a66:=Tryz.isAgg362
 z66:=Tryz.sizeOf362
 v66:=Tryz.zeroValue362
 t70:=Tryz.underlying365
 a70:=Tryz.isAgg365
 z70:=Tryz.sizeOf365
 v70:=Tryz.zeroValue365
 t76:=Tryz.underlying380
 a76:=Tryz.isAgg380
 z76:=Tryz.sizeOf380
 v76:=Tryz.zeroValue380
 t77:=Tryz.underlying381
 a77:=Tryz.isAgg381
 z77:=Tryz.sizeOf381
 v77:=Tryz.zeroValue381}
def Tryz.cmpStrA_ren:Go.Shelf.Ren:=⟨λ|106=>120|213=>176|265=>227|n=>n,λ|9=>9|3=>3|n=>n,λ|n=>n⟩
theorem Tryz.cmpStrA:Go.Proofs.Lays.n106 Tryz.prog Tryz.cmpStrA_ren:={
 mixed:=by kernel_rfl
 f106:=Tryz.func120.trans (congrArg some (by kernel_rfl))
 f213:=Tryz.func176.trans (congrArg some (by kernel_rfl))
 f265:=Tryz.func227.trans (congrArg some (by kernel_rfl))
 t3:=Tryz.underlying3
 a3:=Tryz.isAgg3
 z3:=Tryz.sizeOf3
 v3:=Tryz.zeroValue3
 t9:=Tryz.underlying9
 a9:=Tryz.isAgg9
 z9:=Tryz.sizeOf9
 v9:=Tryz.zeroValue9}
instance:Inhabited ZLnk:=⟨iO⟩
def aki(l:ZLnk):List Value:=l.cs
def cfL(a b:ZLnk):Int:=Lib.compareBytes a.key.data.toList b.key.data.toList
set_option maxHeartbeats 1000000 in
theorem aio(x y:ZLnk)(W:World):Calls Tryz.prog 119 #[.agg (aki x).toArray,.agg (aki y).toArray] W λe w'=>e= .returned (.int .i64 (cfL x y))/\ ∃q os',w'=grow (W.drewN q) os':=by
 have hcon:=λa b W'=>Any.strings_Compare Tryz.cmpStrA a b W'
 change∀a b W',Calls Tryz.prog 120 _ _ _ at hcon;unfold cfL;generalize hr:(λa b:ByteArray=>Lib.compareBytes a.data.toList b.data.toList)=r;have hcon: ∀(a b:ByteArray) (W':World),Calls Tryz.prog 120 #[.string a,.string b] W' λe w'=>e= .returned (.int .i64 (r a b))/\w'=W':=by subst hr;exact hcon
 have hg:Lib.compareBytes x.key.data.toList y.key.data.toList=r x.key y.key:=by subst hr;rfl
 rw[hg];clear hg hr;obtain⟨xk,x1,x2,x3,x4⟩:=x;obtain⟨yk,y1,y2,y3,y4⟩:=y;simp only[aki,ZLnk.cs]
 go_enter Tryz.func119,Tryz.ntmps119
 go_wp2_with (go_at_call 120;refine(hcon _ _ _).mono ?_;rintro e w' ⟨rfl,rfl⟩)
 go_ret
 exact⟨rfl,0,_,by rw[alloc_eq_grow,alloc_eq_grow,grow_grow];rfl⟩
end Go.Proofs.YtenfleoejgjklaaGreat
end
section
namespace Go.Proofs.YtenfleoejgjklaaGreat
open Go SE
noncomputable def aan:Ctr:=det Unit (λ_=>[gV,.fn (.func 119) [] []]) 1 (λ_=>[.abs Bq]) (λ_=>True) (λ_=> .tup []) 1 (λ_=>[.abs Bq])
def VX(x:Unit):Prop:=
 ((0:Int)<=0/\(0:Int)<=255)/\I64 (0:Int)/\I64 (0:Int)/\I64 (0:Int)/\I64 (1:Int)/\ ∃y:Unit,True/\True/\Bq=Bq/\True
theorem acV(x:Unit):VX x=wpF Tryz.prog [] tt (noA x) 200 6 118 (aan.args x) (hO 1 (aan.os x)) (λv h'=>eF 1 x v h' aan.outs):=by kernel_rfl
end Go.Proofs.YtenfleoejgjklaaGreat
end
section
namespace Go.Proofs.YtenfleoejgjklaaGreat
open Go SE
open Go.Shelf Go.RowKit Go.Lib Go.Sort
theorem Rf(x:Unit):VX x:=by
 unfold VX;simp only[aZ,aV,aU,aA,aI,bQ,bF,aO,aK,ay,aX,aW,I64];omega
theorem amT:bZ Tryz.prog 118 aan:=dM dD mixed .nil noA 200 6 (λ_=>rfl) (λ_=>rfl) λx _=>Eq.mp (acV x) (Rf x)
theorem KG(x y:ZLnk):ltOf cfL x y=kl x.key y.key:=by
 unfold ltOf cfL kl;rw[iC,iC];have h:=(nV x.key.data.toList y.key.data.toList).1;cases hb:Op.bytesLess x.key.data.toList y.key.data.toList with
 |true=>exact decide_eq_true (h.2 hb)
 |false=>exact decide_eq_false λhc=>by rw[h.1 hc]at hb;cases hb
theorem swoL:SWO (ltOf cfL):={
 irrefl x:=by rw[KG];exact nZ _
 trans x y z h1 h2:=by rw[KG]at*;exact jA h1 h2
 ntrans x y z h1 h2:=by
  rw[KG]at*
  cases hz:kl x.key z.key with
  |false=>rfl
  |true=>
   cases hy:kl y.key x.key with
   |true=>rw[jA hy hz]at h2;cases h2
   |false=>rw[Z8 h1 hy]at hz;rw[hz]at h2;cases h2}
theorem amU{h:Heap}{ρ:SE.Ren}{T:Nat->Prop}{w w':World}(hR:Rel h ρ T w)(hs:w.heap.size<=w'.heap.size)(hw: ∀b,b<w.heap.size->w'.heap[b]? =w.heap[b]?):Rel h ρ T w':=by
 obtain⟨S,h1,h2,h3,h4,h5⟩:=hR;refine⟨S,λi o hi=> ?_,h2,λi o b hi hS=>⟨(h3 i o b hi hS).1,Nat.lt_of_lt_of_le (h3 i o b hi hS).2 hs⟩,h4,λb hb=>h5 b (Nat.le_trans hs hb)⟩;obtain⟨a,ha,ho⟩:=h1 i o hi;refine⟨a,ha,ho.stays λb hb=>hw b ?_⟩;rcases hb with hb|hb
 ·exact(h3 i o b hi hb).2
 ·rcases Nat.lt_or_ge b w.heap.size with h'|h'
  ·exact h'
  ·exact(hb (h5 b h')).elim
theorem amV{L M:Lks}(hs:srt L)(hp:M.Perm L)(hm:M.Pairwise λa b=>kl b.key a.key=false):M=L:=by
 refine List.Perm.eq_of_pairwise (le:=λa b=>kl b.key a.key=false) (λa b ha hb h1 h2=> ?_) hm (hs.imp λ{a b} h=>VE h) hp;exact Ku hs (hp.mem_iff.1 ha) hb (Z8 h2 h1)
theorem Rh(g:Nat->ZLnk){n k:Nat}(hk:k<n*5):(Cs.row 5 n (λq=>(g q).cs) []).get k=some (.lit ((g (k/5)).cs[k%5]!)):=by
 unfold Cs.get;rw[bg.2 hk,aP];have hl:(g (k/5)).cs.length=5:=rfl;have hm:k%5<5:=Nat.mod_lt _ (by decide);have he:Cs.eff (λq=>(g q).cs) [] (k/5)=(g (k/5)).cs:=rfl;rw[he,List.getElem?_eq_getElem (by rw[hl];exact hm),List.getElem!_eq_getElem?_getD,List.getElem?_eq_getElem (by rw[hl];exact hm)];rfl
structure ZSl where
 z:Bool
 M:Lks
 L:Lks
noncomputable def aoF:Ctr:=det ZSl (λx=>[.slV x.z 0 5 x.M.length,.fn (.func 119) [] []]) 1 (λx=>[vG x.z x.M]) (λx=>Hd (srt x.L/\x.M.Perm x.L/\x.M.length<=300)) (λ_=> .tup []) 1 (λx=>[vG x.z x.L])
theorem aip(M:Lks)(i:Nat)(h:i<M.length):(M.toArray)[i]! =nthL M i:=by
 unfold nthL;rw[getElem!_pos _ i (by simpa using h),List.getD_eq_getElem?_getD,List.getElem?_eq_getElem h];simp
set_option maxRecDepth 20000 in
theorem amW{M L:Lks}(hs:srt L)(hp:M.Perm L)(hlen:M.length<=300){w:World}{blk off cap:Nat}(hoff:M.length≠0->off=0){arr:Array Value}(hb:w.heap[blk]? =some (.cells arr 41 (0,0)))(hsz:M.length*5<=arr.size)(hc: ∀k,k<M.length*5->arr[k]? =some ((nthL M (k/5)).cs[k%5]!)):
  Calls Tryz.prog 118 #[.slice (some ⟨blk,off,none⟩) M.length cap,.func (.func 119) #[] #[]] w λe w'=>e= .returned (.tuple #[])/\
   (∃arr',w'.heap[blk]? =some (.cells arr' 41 (0,0))/\arr'.size=arr.size/\ ∀k,k<L.length*5->arr'[k]? =some ((nthL L (k/5)).cs[k%5]!))/\w.heap.size<=w'.heap.size/\(w'.os=w.os/\w'.tape=w.tape/\w'.output=w.output)/\ ∀b,b≠blk->b<w.heap.size->w'.heap[b]? =w.heap[b]? :=by
 have hbl:blk<w.heap.size:=(Array.getElem?_eq_some_iff.1 hb).1;have hdz:(M.toArray).size=M.length:=by simp
 have nth: ∀i,i<M.length->(M.toArray)[i]! =nthL M i:=λi hi=>aip M i hi
 have hH:HoldsK aki 5 w blk off M.toArray:=by
  intro t ht;rw[size_flatK,hdz]at ht;obtain rfl:=hoff (by omega);rw[get_flatK _ _ _ _ (by rw[hdz];exact ht),nth _ (by omega)];refine⟨?_,by simp[World.frozen?,hb]⟩;have:=hc t ht;simp only[World.cell?,hb,aA];simpa[aki]using this
 have h:=AnyQ.slices_SortFunc Tryz.sortFA 5 Tryz.isAgg41 Tryz.sizeOf41 aki (λ_=>rfl) (λx v hv=>by simp[aki,ZLnk.cs]at hv;rcases hv with rfl|rfl|rfl|rfl|rfl<;>rfl) cfL swoL 119 #[] blk off cap M.toArray w (enters_of Tryz.func119 (by kernel_rfl) rfl) (λ_ _ _ _ x y=>aio x y _) hH hbl (by rw[hdz];omega);rw[hdz]at h;refine Calls.mono h ?_
 rintro e w' ⟨rfl,d',n,os,⟨p1,p2,p3⟩,hso,rfl⟩
 have hd':d'.size=M.length:=by rw[p1,hdz]
 have hDL:d'.toList=L:=by
  refine amV hs ?_ ?_
  ·have e1:(d'.extract 0 M.length).toList=d'.toList:=by simp[<-hd']
   have e2:((M.toArray).extract 0 M.length).toList=M:=by simp
   rw[e1,e2]at p3;exact p3.trans hp
  ·refine List.pairwise_iff_getElem.2 λi j hi hj hij=> ?_
   have hi':i<d'.size:=by simpa using hi
   have hj':j<d'.size:=by simpa using hj
   have:=hso i j (Nat.zero_le _) hij (by omega);rw[KG,getElem!_pos _ i hi',getElem!_pos _ j hj']at this;simpa using this
 have hdA:d'=L.toArray:=by rw[<-hDL]
 have hLl:L.length=M.length:=hp.symm.length_eq;subst hdA;have e2:(sortWorldK aki 5 w blk off n L.toArray os).heap[blk]? =some (.cells (putCells id off (flatK aki 5 L.toArray) arr) 41 (0,0)):=by
  unfold sortWorldK putRowK;rw[heap_grow_old _ _ (by simpa using hbl)];simp[Sort.putRow,mapBlock,Sort.ahead,Array.getElem?_modify,hb,onCells]
 refine⟨rfl,⟨_,e2,by simp[putCells],λk hk=> ?_⟩,?_,⟨rfl,rfl,rfl⟩,λb hne hlt=> ?_⟩
 ·have hka:k<arr.size:=by omega
  obtain rfl:=hoff (by omega);have hfl:=get_flatK aki 5 L.toArray k (by simpa using hk);simp only[putCells,Array.getElem?_mapIdx,Nat.zero_le,aU,aA,aN,size_flatK];rw[Array.getElem?_eq_getElem hka];simp only[Option.map_some];rw[if_pos (by simpa using hk),hfl,aip L _ (by omega)];rfl
 ·unfold sortWorldK putRowK
  simp[grow,Sort.putRow,mapBlock,Sort.ahead]
 ·unfold sortWorldK putRowK
  rw[heap_grow_old _ _ (by simpa using hlt)];simp[Sort.putRow,mapBlock,Sort.ahead,Array.getElem?_modify,Ne.symm hne]
end Go.Proofs.YtenfleoejgjklaaGreat
end
section
namespace Go.Proofs.YtenfleoejgjklaaGreat
open Go SE
set_option maxRecDepth 20000 in
theorem amX:bZ Tryz.prog 118 aoF:=λx hx=>⟨rfl,by
 obtain⟨hs,hp,hlen⟩:=aZ.1 hx;have hcall:nT Tryz.prog 118:=⟨Tryz.f118,by kernel_rfl,by kernel_rfl,by kernel_rfl⟩;obtain⟨z,M,L⟩:=x;simp only at hs hp hlen;have hLl:L.length=M.length:=hp.symm.length_eq;refine ahW (k:=1) (os:=[]) rfl hcall (λhz hn=> ?_) λhz=> ?_
 ·have hM:M=[]:=List.eq_nil_of_length_eq_zero hn
  have hL:L=[]:=List.eq_nil_of_length_eq_zero (by rw[hLl];exact hn);have hz:z=true:=hz;subst hz hM hL;refine Au (((amT () trivial).2).mono λv h' hh=> ?_);have hh:(∃y:Unit,True/\v= .tup []/\h'=hO 1 [.abs Bq])\/False:=by with_unfolding_all exact hh
  rcases hh with ⟨_,_,rfl,rfl⟩|hh
  ·refine⟨.tup [],hO 1 [vG true []],?_,by with_unfolding_all exact Or.inl ⟨(),trivial,rfl,rfl⟩⟩
   refine tZ (m:=1) rfl rfl (aY _) λi o o' hi hi'=> ?_
   match i,hi,hi' with
   |0,hi,hi'=>cases hi;cases hi';exactλ_ _ _ _ _ _=> .inl ⟨rfl,rfl⟩
  ·exact hh.elim
 ·have hz:z=false:=hz
  subst hz;refine⟨hcall,λρ T w vs hR hl=> ?_⟩;obtain⟨u1,us,hvs,hu1,hl2⟩:=hl;obtain⟨u2,us2,rfl,hu2,hus⟩:=hl2;obtain rfl:us2=[]:=hus;obtain⟨a,p,c,ha,rfl,hnc,hpc⟩:=hu1;obtain⟨fa,ca,rfl,hfa,hca⟩:=hu2;have hfa:fa.toList=[]:=hfa;have hca:ca.toList=[]:=hca;obtain rfl:fa= #[]:=by cases fa;simp_all
  obtain rfl:ca= #[]:=by cases ca;simp_all
  obtain rfl:=vs2 hvs;obtain⟨S,h1,h2,h3,h4,h5⟩:=id hR;obtain⟨a',ha',hO⟩:=h1 0 _ rfl;rw[ha]at ha';cases ha';obtain⟨hb0,hS,arr,ha1,ha2,ha3,ha4⟩:=hO;have hbl:a.blk<w.heap.size:=(h3 0 _ _ rfl hS).2;have hTa:=(h3 0 _ _ rfl hS).1;have ha3:M.length*5<=a.lim:=ha3;have ha2:arr.size=a.lim:=ha2;have hnc:M.length<=c:=hnc;have hb0':a.base=0:=hb0;have hc: ∀k,k<M.length*5->arr[k]? =some ((nthL M (k/5)).cs[k%5]!):=λk hk=>by
   obtain⟨u,hu,hr⟩:=ha4 k _ (Rh (nthL M) hk);rw[aA]at hu;have hr:u=_:=hr;rw[hu,hr]
  refine(amW hs hp hlen (off:=p+0) (cap:=c) (λhne=>by obtain⟨e,_⟩:=hpc (by omega);have e:p=a.base:=e;omega) ha1 (by omega) hc).mono ?_
  rintro e w' ⟨rfl,⟨arr',g1,g2,g3⟩,g4,⟨g5,g6,g7⟩,g8⟩
  have hRel:Rel (hO 1 [vG false L]) ρ T w':=by
   let w1:World:={w with heap:=w.heap.setIfInBounds a.blk (.cells arr' 41 (0,0))}
   have r1:Rel ((hO 1 [.room 41 (.row 5 M.length (λq=>(nthL M q).cs) [])]).set 0 (vG false L)) ρ T w1:=hR.upd rfl ha (by simp[w1]) (λb hb=>by simp[w1,Array.getElem?_setIfInBounds,Ne.symm hb]) (λS hS=>hS.2.1) λS hS _=> .inr ⟨rfl,hb0,hS,arr',by simp[w1,hbl],by rw[g2];exact ha2,by show L.length*5<=a.lim;rw[hLl];exact ha3,λk v hk=>by
    rcases Nat.lt_or_ge k (L.length*5)with hk'|hk'
    ·rw[Rh (nthL L) hk']at hk
     cases hk;exact⟨_,by rw[aA];exact g3 k hk',rfl⟩
    ·unfold Cs.get at hk
     rw[show Nat.blt k (L.length*5)=false by rw[bT];exact decide_eq_false (by omega)]at hk
     cases hk⟩
   have r2:Rel (hO 1 [vG false L]) ρ T w1:=r1.less (by simp;exact aY _) λj y hj=>by rw[zo (by rfl)];exact hj
   refine amU r2 (by simpa[w1]using g4) λb hb=> ?_
   have hb:b<w.heap.size:=by simpa[w1]using hb
   by_cases e:b=a.blk
   ·subst e;rw[g1];simp[w1,hbl]
   ·rw[g8 b e hb];simp[w1,Array.getElem?_setIfInBounds,Ne.symm e]
  refine⟨ρ,.tup [],_,hO 1 [vG false L],λ_ _=>rfl,aY _,hRel,⟨#[],rfl,rfl⟩,rfl,⟨g4,g5,g6,g7,λb hb=> ?_⟩,by with_unfolding_all exact Or.inl ⟨(),trivial,rfl,rfl⟩⟩;rcases Nat.lt_or_ge b w.heap.size with h'|h'
  ·exact g8 b (λe=>hb (e▸hTa)) h'
  ·exact(hb (h5 b h')).elim⟩
noncomputable def allT:adU:={X:=ZLq,args:=λ_=>[.ptr 0 0],L:=λx=>x.L,pre:=λ_=>True,outs:=[
 {Y:=Bool,post:=λx z=>Hd (z=true->x.L=[]),ret:=λx z=> .slV z 1 5 x.L.length,L:=λx _=>x.L,m:=2,ex:=λx z=>[vG z x.L]}]}
def ZMs.all(m:ZMs):Lks:=(List.range m.n).map m.lk
def oh(t:iU):Nat->Lks
 |0=>[]
 |k+1=>oh t k++(t k).all
structure ZAl where
 z:Bool
 M:Lks
 seen:List Nat
def allI(t:iU)(k:Nat)(s:ZAl):Prop:=(s.z=true->s.M=[])/\ ∃ps:List Nat,ps.Nodup/\(∀p∈ps,p<(t k).n)/\s.seen=ps.map (t k).born/\s.M.Perm (oh t k++ps.map (t k).lk)
def uF:AV->Nat
 | .lit (.int _ (Int.ofNat n))=>n
 | .slV _ i _ _=>i
 | .ptr i _=>i
 |_=>100000
def gone9:List (Nat×Option dB):=[(9,none),(10,none),(11,none),(12,none),(13,none),(14,none),(15,none),(16,none),(17,none),(18,none),(19,none),(20,none),(21,none),(22,none),(23,none),(24,none),(25,none),(26,none),(27,none),(28,none),(29,none),(30,none)]
noncomputable def aoG(x:ZLq×iU):FuncId->pX:=λf=>bif Nat.beq f 68 then(λb fr h=>bif Nat.beq b 2 then [
 {σ:=ZAl,fr:=λs=>[(3,.slV s.z h.next 5 s.M.length)],ob:=λs=>(uF (SE.look fr 19),some (.iter (some (uF (SE.look fr 15)+1)) (x.2 (uF (SE.look fr 15))).clk s.seen (x.2 (uF (SE.look fr 15))).clk))::(h.next,some (vG s.z s.M))::gone9,nx:=1,inv:=λs=>Hd (allI x.2 (uF (SE.look fr 15)) s),meas:=λs=>(x.2 (uF (SE.look fr 15))).n-s.seen.length}]else [])elseλ_ _ _=>[]
noncomputable def aiq:jd:=[(118,ctrT aoF)]
def air(a b:Lks):Prop:= ∀q:Nat,q<a.length->(nthL a q).cs=(nthL b q).cs
def VY(x:ZLq×iU)(k:Nat):Prop:=(x.2 k).clk=(x.2 k).clk
def ms8d(x:ZLq×iU):Prop:=(x.2 7).ms=(x.2 7).ms/\(x.2 6).ms=(x.2 6).ms/\(x.2 5).ms=(x.2 5).ms/\(x.2 4).ms=(x.2 4).ms/\(x.2 3).ms=(x.2 3).ms/\(x.2 2).ms=(x.2 2).ms/\(x.2 1).ms=(x.2 1).ms/\(x.2 0).ms=(x.2 0).ms/\ar2/\True
def ms8u(y t:iU):Prop:=(y 0).ms=(t 0).ms/\(y 1).ms=(t 1).ms/\(y 2).ms=(t 2).ms/\(y 3).ms=(t 3).ms/\(y 4).ms=(t 4).ms/\(y 5).ms=(t 5).ms/\(y 6).ms=(t 6).ms/\(y 7).ms=(t 7).ms/\True
def atO(x:ZLq×iU)(k:Nat)(s:ZAl)(j j1:Nat):Prop:=s.z=s.z/\s.M.length=s.M.length/\List.all [List.take 5 ((x.2 k).lk j1).cs] (λl=>Nat.beq l.length 5&&l.all Value.oneCell')=true/\(2*(s.M.length+1)+1000)*48<=281474976710656/\
 ∃s1:ZAl,Hd (allI x.2 k s1)/\(x.2 k).n-s1.seen.length<(x.2 k).n-s.seen.length/\((s1.z=false/\s1.M.length=s.M.length+1)/\True)/\(s1.z=false/\s1.M.length=s.M.length+[List.take 5 ((x.2 k).lk j1).cs].length/\ ∀q:Nat,q<s1.M.length->(nthL s1.M q).cs=Cs.eff (λq=>(nthL s.M q).cs) [(s.M.length,List.take 5 ((x.2 k).lk j1).cs)] q)/\(VY x k/\s1.seen=s.seen++[(x.2 k).born j]/\VY x k)/\ms8d x
def ais(x:ZLq×iU)(k:Nat)(s:ZAl)(R:Prop):Prop:=(∀j:Nat,j<(x.2 k).n->(x.2 k).born j<(x.2 k).clk)/\VY x k/\VY x k/\
 (∀j:Nat,j<(x.2 k).n->((x.2 k).born j∈s.seen->False)->VY x k/\(∃j1:Nat,j1<(x.2 k).n/\(s.seen++[(x.2 k).born j]).getLast? =some ((x.2 k).born j1))/\ ∀j1:Nat,j1<(x.2 k).n->(s.seen++[(x.2 k).born j]).getLast? =some ((x.2 k).born j1)->atO x k s j j1)/\
 ((∀j:Nat,j<(x.2 k).n->(x.2 k).born j∈s.seen)->R)
def aoH(x:ZLq×iU)(s:ZAl):Prop:= ∃x1:ZSl,Hd (srt x1.L/\x1.M.Perm x1.L/\x1.M.length<=300)/\((x1.z=s.z/\x1.M.length=s.M.length)/\(Fn.func 119=Fn.func 119/\True/\True)/\True)/\((x1.z=s.z/\x1.M.length=s.M.length/\air x1.M s.M)/\True)/\
 ∀_:Unit,True-> ∃y1:Bool×iU,(Hd (y1.1=true->x.1.L=[])/\Hd (lM x.1.L y1.2))/\(y1.1=s.z/\x.1.L.length=s.M.length)/\ar2/\(y1.1=x1.z/\x.1.L.length=x1.L.length/\air x.1.L x1.L)/\ms8u y1.2 x.2
def ent0(s:ZAl):Prop:=s.z=true/\s.M.length=0/\ ∀q:Nat,q<s.M.length->(nthL s.M q).cs=[]
def entS(p s:ZAl):Prop:=s.z=p.z/\s.M.length=p.M.length/\air s.M p.M
def sizA(z:Bool)(n:Nat)(s:ZAl):Prop:=(s.z=z/\s.M.length=n)/\True
def arl(x:ZLq×iU):Nat->Nat->Bool->Nat->(ZAl->Prop)->Prop
 |0,_,_,_,_=>True
 |r+1,k,z,n,ent=>w8 k/\(∃s:ZAl,Hd (allI x.2 k s)/\True/\sizA z n s/\ent s/\(VY x k/\s.seen=[]/\VY x k)/\ms8d x)/\
  (∀s:ZAl,Hd (allI x.2 k s)->ais x k s (I64 ((k:Int)+1)/\(match r with
   |0=>aoH x s
   |r'+1=>arl x (r'+1) (k+1) s.z s.M.length (entS s))))/\True
theorem aro(x:ZLq×iU):arl x 8 0 true 0 ent0=wpF Tryz.prog aiq tt (aoG x) 200 6 68 (allT.E.args x) (hO 9 (flatP 1 (allT.E.l x))) (λv h'=>endsPK 1 x v h' allT.E.outs):=by kernel_rfl
theorem arp{m:ZMs}{l:ZLnk}:l∈m.all↔ ∃j,j<m.n/\m.lk j=l:=by
 unfold ZMs.all;rw[List.mem_map];exact⟨λ⟨j,hj,e⟩=>⟨j,List.mem_range.1 hj,e⟩,λ⟨j,hj,e⟩=>⟨j,List.mem_range.2 hj,e⟩⟩
section
variable{L:Lks}{t:iU}
theorem lM.front(h:lM L t): ∀k,k<=8->(oh t k).Nodup/\ ∀l,l∈oh t k↔l∈L/\bkt l.key<k
 |0,_=>⟨List.nodup_nil,λl=>⟨λhl=>absurd hl List.not_mem_nil,λhl=>absurd hl.2 (Nat.not_lt_zero _)⟩⟩
 |k+1,hk=>by
  obtain⟨h1,h2⟩:=h.front k (by omega);have hm: ∀l,l∈(t k).all↔l∈L/\bkt l.key=k:=λl=>by
   rw[arp];constructor
   ·rintro ⟨j,hj,rfl⟩;exact h.mem k (by omega) j hj
   ·rintro ⟨hl,hb⟩
    obtain⟨j,j1,j2⟩:=h.all l hl;rw[hb]at j1 j2;exact⟨j,j1,j2⟩
  refine⟨List.nodup_append.2 ⟨h1,List.pairwise_map.2 (List.nodup_range.imp_of_mem λ{i j} hi hj hne e=>hne (h.inj k (by omega) i j (List.mem_range.1 hi) (List.mem_range.1 hj) (by rw[e]))),λa ha b hb e=> ?_⟩,λl=> ?_⟩
  ·subst e
   have e1:=((h2 a).1 ha).2;have e2:=((hm a).1 hb).2;omega
  ·show l∈oh t k++(t k).all↔_
   rw[List.mem_append,h2,hm];constructor
   ·rintro (⟨a,b⟩|⟨a,b⟩)
    ·exact⟨a,by omega⟩
    ·exact⟨a,by omega⟩
   ·rintro ⟨a,b⟩
    rcases Nat.lt_or_ge (bkt l.key) k with h'|h'
    ·exact .inl ⟨a,h'⟩
    ·exact .inr ⟨a,by omega⟩
theorem lM.atP(h:lM L t):(oh t 8).Perm L:=by
 obtain⟨h1,h2⟩:=h.front 8 (aY _);exact(List.perm_ext_iff_of_nodup h1 (Q8 h.srt)).2 λl=>by
  rw[h2];exact⟨λh=>h.1,λh=>⟨h,qB _⟩⟩
theorem lM.arq(h:lM L t){k:Nat}(hk:k<=8):(oh t k).length<=258:=by
 obtain⟨h1,h2⟩:=h.front k hk;exact Nat.le_trans (List.Nodup.length_le_of_subset h1 λl hl=>((h2 l).1 hl).1) h.size
theorem amY{n:Nat}{ps:List Nat}(h1:ps.Nodup)(h2: ∀p∈ps,p<n):ps.length<=n:=by
 have:=List.Nodup.length_le_of_subset h1 (λp hp=>List.mem_range.2 (h2 p hp):ps ⊆ List.range n);simpa using this
theorem ait{n:Nat}{ps:List Nat}(h1:ps.Nodup)(h2: ∀p∈ps,p<n)(h3: ∀p,p<n->p∈ps):ps.Perm (List.range n):=
 (List.perm_ext_iff_of_nodup h1 List.nodup_range).2 λp=>⟨λh=>List.mem_range.2 (h2 p h),λh=>h3 p (List.mem_range.1 h)⟩
theorem amZ{M:Lks}{l:ZLnk}{q:Nat}(hq:q<(M++[l]).length):nthL (M++[l]) q=if q=M.length then l else nthL M q:=by
 unfold nthL;rw[List.length_append]at hq;have hq:q<M.length+1:=hq;rw[List.getD_eq_getElem?_getD,List.getD_eq_getElem?_getD];by_cases e:q=M.length
 ·subst e;rw[if_pos rfl,List.getElem?_append_right (aY _)];simp
 ·rw[if_neg e,List.getElem?_append_left (by omega)]
theorem AY{x:ZLq×iU}(h:lM x.1.L x.2){k:Nat}(hk:k<8){s:ZAl}(hs:allI x.2 k s){R:Prop}(hR:(s.z=true->s.M=[])->s.M.Perm (oh x.2 (k+1))->R):ais x k s R:=by
 obtain⟨hz,ps,p1,p2,p3,p4⟩:=hs;have hsl:s.seen.length=ps.length:=by rw[p3,List.length_map]
 have hML:s.M.length=(oh x.2 k).length+ps.length:=by rw[p4.length_eq,List.length_append,List.length_map]
 have notin: ∀j,j<(x.2 k).n->(x.2 k).born j ∉ s.seen->j ∉ ps:=λj hj hn hp=>hn (by rw[p3];exact List.mem_map_of_mem hp)
 refine⟨λj hj=>h.born k hk j hj,rfl,rfl,λj hj hn=>⟨rfl,⟨j,hj,by simp⟩,λj1 hj1 he=> ?_⟩,λhall=> ?_⟩
 ·have he:(x.2 k).born j=(x.2 k).born j1:=by simpa using he
  obtain rfl:=h.bi k hk j j1 hj hj1 he;have hjp:=notin j hj hn;have hlt:ps.length+1<=(x.2 k).n:=amY (ps:=j::ps) (List.nodup_cons.2 ⟨hjp,p1⟩) λp hp=>by
   rcases List.mem_cons.1 hp with rfl|hp
   ·exact hj
   ·exact p2 p hp
  have hfl:(oh x.2 (k+1)).length<=258:=h.arq (by omega);have hfe:(oh x.2 (k+1)).length=(oh x.2 k).length+(x.2 k).n:=by
   show(oh x.2 k++(x.2 k).all).length=_;rw[List.length_append];unfold ZMs.all;simp
  refine⟨rfl,rfl,rfl,by omega,⟨false,s.M++[(x.2 k).lk j],s.seen++[(x.2 k).born j]⟩,aZ.2 ⟨λh=>(by cases h),ps++[j],?_,?_,?_,?_⟩,?_,⟨⟨rfl,by simp⟩,trivial⟩,⟨rfl,by simp,λq hq=> ?_⟩,⟨rfl,rfl,rfl⟩,⟨rfl,rfl,rfl,rfl,rfl,rfl,rfl,rfl,AX,trivial⟩⟩
  ·exact List.nodup_append.2 ⟨p1,by simp,λa ha b hb e=>by simp at hb;subst hb;subst e;exact hjp ha⟩
  ·intro p hp
   rcases List.mem_append.1 hp with hp|hp
   ·exact p2 p hp
   ·simp at hp;subst hp;exact hj
  ·show s.seen++_=_;rw[p3,List.map_append];rfl
  ·show(s.M++[_]).Perm _
   rw[List.map_append,<-List.append_assoc];exact p4.append_right _
  ·show(x.2 k).n-(s.seen++[_]).length<_
   rw[List.length_append,hsl];simp only[List.length_cons,List.length_nil];omega
  ·show(nthL (s.M++[(x.2 k).lk j]) q).cs=bif Nat.beq q s.M.length then List.take 5 ((x.2 k).lk j).cs else(nthL s.M q).cs
   rw[amZ hq,dA];by_cases e:q=s.M.length
   ·rw[if_pos e,decide_eq_true e];rfl
   ·rw[if_neg e,decide_eq_false e];rfl
 ·have hp:ps.Perm (List.range (x.2 k).n):=ait p1 p2 λp hp=>by
   have:=hall p hp;rw[p3]at this;obtain⟨q,hq,he⟩:=List.mem_map.1 this;exact h.bi k hk q p (p2 q hq) hp he▸hq
  exact hR hz (p4.trans ((hp.map _).append_left _))
theorem VZ{x:ZLq×iU}(h:lM x.1.L x.2){s:ZAl}(hz:s.z=true->s.M=[])(hp:s.M.Perm x.1.L):aoH x s:=by
 have hsz:=h.size;have hl:=hp.length_eq
 exact⟨⟨s.z,s.M,x.1.L⟩,aZ.2 ⟨h.srt,hp,by show s.M.length<=300;omega⟩,⟨⟨rfl,rfl⟩,⟨rfl,trivial,trivial⟩,trivial⟩,⟨⟨rfl,rfl,λ_ _=>rfl⟩,trivial⟩,λ_ _=>⟨(s.z,x.2),⟨aZ.2 λe=>by
  have e:=hz e;rw[e]at hp
  exact hp.symm.eq_nil,aZ.2 h⟩,⟨rfl,hl.symm⟩,AX,⟨rfl,rfl,λ_ _=>rfl⟩,⟨rfl,rfl,rfl,rfl,rfl,rfl,rfl,rfl,trivial⟩⟩⟩
theorem acW{x:ZLq×iU}(h:lM x.1.L x.2)(r:Nat): ∀k z n ent,k+(r+1)=8->(∃s:ZAl,s.seen=[]/\allI x.2 k s/\s.z=z/\s.M.length=n/\ent s)->arl x (r+1) k z n ent:=by
 induction r with
 |zero=>
  rintro k z n ent hk ⟨s0,e1,e2,e3,e4,e5⟩
  refine⟨⟨by omega,by omega⟩,⟨s0,aZ.2 e2,trivial,⟨⟨e3,e4⟩,trivial⟩,e5,⟨rfl,e1,rfl⟩,⟨rfl,rfl,rfl,rfl,rfl,rfl,rfl,rfl,AX,trivial⟩⟩,λs hs=>AY h (by omega) (aZ.1 hs) λhz hp=>⟨by unfold I64;omega,?_⟩,trivial⟩;obtain rfl:k=7:=by omega
  exact VZ h hz (hp.trans h.atP)
 |succ r ih=>
  rintro k z n ent hk ⟨s0,e1,e2,e3,e4,e5⟩
  refine⟨⟨by omega,by omega⟩,⟨s0,aZ.2 e2,trivial,⟨⟨e3,e4⟩,trivial⟩,e5,⟨rfl,e1,rfl⟩,⟨rfl,rfl,rfl,rfl,rfl,rfl,rfl,rfl,AX,trivial⟩⟩,λs hs=>AY h (by omega) (aZ.1 hs) λhz hp=>⟨by unfold I64;omega,?_⟩,trivial⟩;exact ih (k+1) _ _ _ (by omega) ⟨⟨s.z,s.M,[]⟩,rfl,⟨hz,[],List.nodup_nil,λp hp=>absurd hp List.not_mem_nil,rfl,by simpa using hp⟩,rfl,rfl,rfl,rfl,λ_ _=>rfl⟩
end
theorem acX:dX Tryz.prog aiq:= .cons (bM amX) .nil
theorem aiu:bZ Tryz.prog 68 allT.C:=EH ⟨Tryz.f68,by kernel_rfl,by kernel_rfl,by kernel_rfl⟩ (List.forall_mem_cons.2 ⟨λ_ _=>rfl,λ_ h=>(List.not_mem_nil h).elim⟩) (cO dD mixed acX 9 aoG 200 6 (λ_=>⟨rfl,rfl,rfl,rfl⟩) λx hx=>Eq.mp (aro x) (acW (aZ.1 hx.2) 7 0 true 0 ent0 rfl ⟨⟨true,[],[]⟩,rfl,⟨λ_=>rfl,[],List.nodup_nil,λp hp=>absurd hp List.not_mem_nil,rfl,by simp[oh]⟩,rfl,rfl,rfl,rfl,λq hq=>absurd hq (Nat.not_lt_zero q)⟩))
def fM(a:iP):Prop:=a.now=a.now/\a.dur=a.dur/\a.Pz=a.Pz/\(0=0/\a.t=a.t/\a.t=a.t)/\True
def lN(a:iP):Prop:=258=258/\ ∀q:Nat,q<258->[Value.bool (a.L q)]=[Value.bool (a.L q)]
def AZ(a:uZ):Prop:=(a.c.t=a.c.t/\ ∀q:Nat,q<a.c.t->[Value.int .i64 (ite (q=a.t/\0<=a.l/\a.l<258) (a.c.o q+1) (a.c.o q))]=[Value.int .i64 (a.c.o q)])/\True
def A8(a:uZ):Prop:=258=258/\ ∀q:Nat,q<258->[Value.bool (Bool.or (a.c.N q) (decide (a.l=(q:Int))))]=[Value.bool (a.c.N q)]
def jX(a:iP):Prop:=(a.t=a.t/\ ∀q:Nat,q<a.t->[Value.int .i64 (a.o q)]=[Value.int .i64 (a.o q)])/\True
def gX(a:iP):Prop:=258=258/\ ∀q:Nat,q<258->[Value.bool (a.N q)]=[Value.bool (a.N q)]
def rC(a:uZ):Prop:=(a.c.t=a.c.t/\ ∀q:Nat,q<a.c.t->[Value.int .i64 (ite (q=a.t/\0<=a.l/\a.l<258) (a.c.o q+1) (a.c.o q))]=Cs.eff (λ(k:Nat)=>[Value.int .i64 (a.c.o k)]) [(0+a.t,[Value.int .i64 (a.c.o (0+a.t)+1)])] q)/\True
def rD(a:iP):Prop:=lN a/\(@Fn.func (107: @FuncId)= @Fn.func (107: @FuncId)/\(0=0/\True)/\True)/\True
def rE(a:iP):Prop:=lN a/\(@Fn.func (165: @FuncId)= @Fn.func (165: @FuncId)/\(0=0/\True)/\True)/\True
def rF(a:iP):Prop:=lN a/\(@Fn.func (212: @FuncId)= @Fn.func (212: @FuncId)/\(0=0/\True)/\True)/\True
def rG(a:iP):Prop:=lN a/\(@Fn.func (57: @FuncId)= @Fn.func (57: @FuncId)/\(0=0/\True)/\True)/\True
def rH(a:uZ):Prop:=258=258/\ ∀q:Nat,q<258->[Value.bool (Bool.or (a.c.N q) (decide (a.l=(q:Int))))]=Cs.eff (λ(k:Nat)=>[Value.bool (a.c.N k)]) [(Int.toNat a.l,[Value.bool true])] q
def rJ(a:iP):Prop:=(0=a.t*1/\ ∀q:Nat,q<a.t->[Value.int .i64 (a.o q)]=List.take 1 (List.drop (q*1) (@List.nil Value)))/\jX a
def rM(a:iP):Prop:=(a.t=0+a.t/\ ∀q:Nat,q<a.t->[Value.int .i64 (a.o q)]=[Value.int .i64 (a.o (0+(q-0)))])/\jX a
def nC(a:Int):Prop:=ite (0<=a/\a<258) (0:Int) (2:Int)=2
def kW(a:uZ):Prop:=0<=(a.t:Int)/\(a.t:Int)<(a.c.t:Int)
def rO(a:Int):Prop:=ite (0<=a/\a<258) (0:Int) (2:Int)=1
def rP(a:Int):Prop:=ite (0<=a/\a<258) (0:Int) (2:Int)=0
def rQ(a:Nat):Prop:=(2*(0+a)+1000)*8<=281474976710656
def V3(a:uZ):Prop:=(fM a.c/\A8 a/\rG a.c)/\AZ a
def KH(a:uZ):Prop:=(fM a.c/\A8 a/\rD a.c)/\AZ a
def KI(a:uZ):Prop:=(fM a.c/\A8 a/\rE a.c)/\AZ a
def KJ(a:uZ):Prop:=(fM a.c/\A8 a/\rF a.c)/\AZ a
def V4(a:uZ):Prop:= ∃y:Unit,True/\nC a.l/\V3 a
def V5(x:uZ):Prop:=
 cP (decide ((x.t:Int)>=(x.c.t:Int))) (∃y:Unit,True/\rO x.l/\V3 x) (cP (decide (x.l<0)) (V4 x) (cP (decide (x.l>=(258:Int))) (V4 x) (kW x/\0+x.t<x.c.t/\I64 (x.c.o (0+x.t)+1)/\kW x/\0+x.t<x.c.t/\(0<=x.l/\x.l<258)/\Int.toNat x.l<258/\ ∃y:Unit,True/\rP x.l/\(fM x.c/\rH x/\rG x.c)/\rC x)))
theorem acY(x:uZ):V5 x=wpF Tryz.prog pJ tt (noA x) 200 5 64 ((oI 1).args x) (hO 2 (flatP 1 ((oI 1).l x))) (λv h'=>endsPK 1 x v h' (oI 1).outs):=by kernel_rfl
def V6(x:iP):Prop:=
 ∃y:Unit,True/\x.now=x.now/\(fM x/\gX x/\rG x)/\jX x
theorem acZ(x:iP):V6 x=wpF Tryz.prog pJ tt (noA x) 200 5 45 ((oJ 1).args x) (hO 2 (flatP 1 ((oJ 1).l x))) (λv h'=>endsPK 1 x v h' (oJ 1).outs):=by kernel_rfl
def V7(x:iP):Prop:=
 0+x.t<=x.t/\cP (Nat.beq x.t 0) (∃y:Unit,True/\(x.t=0/\0=0/\0=0)/\(fM x/\gX x/\rG x)/\rJ x) (rQ x.t/\ ∃y:Unit,True/\(0=0/\x.t=0+x.t)/\(fM x/\gX x/\rG x)/\rM x)
theorem ac0(x:iP):V7 x=wpF Tryz.prog pJ tt (noA x) 200 5 204 ((oK 1).args x) (hO 2 (flatP 1 ((oK 1).l x))) (λv h'=>endsPK 1 x v h' (oK 1).outs):=by kernel_rfl
def V8(x:uZ):Prop:=
 cP (decide ((x.t:Int)>=(x.c.t:Int))) (∃y:Unit,True/\rO x.l/\KH x) (cP (decide (x.l<0)) (∃y:Unit,True/\nC x.l/\KH x) (cP (decide (x.l>=(258:Int))) (∃y:Unit,True/\nC x.l/\KH x) (kW x/\0+x.t<x.c.t/\I64 (x.c.o (0+x.t)+1)/\kW x/\0+x.t<x.c.t/\(0<=x.l/\x.l<258)/\Int.toNat x.l<258/\ ∃y:Unit,True/\rP x.l/\(fM x.c/\rH x/\rD x.c)/\rC x)))
theorem ac1(x:uZ):V8 x=wpF Tryz.prog pJ tt (noA x) 200 5 64 ((oI 2).args x) (hO 2 (flatP 1 ((oI 2).l x))) (λv h'=>endsPK 1 x v h' (oI 2).outs):=by kernel_rfl
def V9(x:iP):Prop:=
 ∃y:Unit,True/\x.now=x.now/\(fM x/\gX x/\rD x)/\jX x
theorem ac2(x:iP):V9 x=wpF Tryz.prog pJ tt (noA x) 200 5 45 ((oJ 2).args x) (hO 2 (flatP 1 ((oJ 2).l x))) (λv h'=>endsPK 1 x v h' (oJ 2).outs):=by kernel_rfl
def Wh(x:iP):Prop:=
 0+x.t<=x.t/\cP (Nat.beq x.t 0) (∃y:Unit,True/\(x.t=0/\0=0/\0=0)/\(fM x/\gX x/\rD x)/\rJ x) (rQ x.t/\ ∃y:Unit,True/\(0=0/\x.t=0+x.t)/\(fM x/\gX x/\rD x)/\rM x)
theorem ac3(x:iP):Wh x=wpF Tryz.prog pJ tt (noA x) 200 5 204 ((oK 2).args x) (hO 2 (flatP 1 ((oK 2).l x))) (λv h'=>endsPK 1 x v h' (oK 2).outs):=by kernel_rfl
def Wi(x:uZ):Prop:=
 cP (decide ((x.t:Int)>=(x.c.t:Int))) (∃y:Unit,True/\rO x.l/\KI x) (cP (decide (x.l<0)) (∃y:Unit,True/\nC x.l/\KI x) (cP (decide (x.l>=(258:Int))) (∃y:Unit,True/\nC x.l/\KI x) (kW x/\0+x.t<x.c.t/\I64 (x.c.o (0+x.t)+1)/\kW x/\0+x.t<x.c.t/\(0<=x.l/\x.l<258)/\Int.toNat x.l<258/\ ∃y:Unit,True/\rP x.l/\(fM x.c/\rH x/\rE x.c)/\rC x)))
theorem ac4(x:uZ):Wi x=wpF Tryz.prog pJ tt (noA x) 200 5 64 ((oI 3).args x) (hO 2 (flatP 1 ((oI 3).l x))) (λv h'=>endsPK 1 x v h' (oI 3).outs):=by kernel_rfl
def Wj(x:iP):Prop:=
 ∃y:Unit,True/\x.now=x.now/\(fM x/\gX x/\rE x)/\jX x
theorem ac5(x:iP):Wj x=wpF Tryz.prog pJ tt (noA x) 200 5 45 ((oJ 3).args x) (hO 2 (flatP 1 ((oJ 3).l x))) (λv h'=>endsPK 1 x v h' (oJ 3).outs):=by kernel_rfl
def Wn(x:iP):Prop:=
 0+x.t<=x.t/\cP (Nat.beq x.t 0) (∃y:Unit,True/\(x.t=0/\0=0/\0=0)/\(fM x/\gX x/\rE x)/\rJ x) (rQ x.t/\ ∃y:Unit,True/\(0=0/\x.t=0+x.t)/\(fM x/\gX x/\rE x)/\rM x)
theorem ac6(x:iP):Wn x=wpF Tryz.prog pJ tt (noA x) 200 5 204 ((oK 3).args x) (hO 2 (flatP 1 ((oK 3).l x))) (λv h'=>endsPK 1 x v h' (oK 3).outs):=by kernel_rfl
def Wp(x:uZ):Prop:=
 cP (decide ((x.t:Int)>=(x.c.t:Int))) (∃y:Unit,True/\rO x.l/\KJ x) (cP (decide (x.l<0)) (∃y:Unit,True/\nC x.l/\KJ x) (cP (decide (x.l>=(258:Int))) (∃y:Unit,True/\nC x.l/\KJ x) (kW x/\0+x.t<x.c.t/\I64 (x.c.o (0+x.t)+1)/\kW x/\0+x.t<x.c.t/\(0<=x.l/\x.l<258)/\Int.toNat x.l<258/\ ∃y:Unit,True/\rP x.l/\(fM x.c/\rH x/\rF x.c)/\rC x)))
theorem ac7(x:uZ):Wp x=wpF Tryz.prog pJ tt (noA x) 200 5 64 ((oI 4).args x) (hO 2 (flatP 1 ((oI 4).l x))) (λv h'=>endsPK 1 x v h' (oI 4).outs):=by kernel_rfl
def Wq(x:iP):Prop:=
 ∃y:Unit,True/\x.now=x.now/\(fM x/\gX x/\rF x)/\jX x
theorem ac8(x:iP):Wq x=wpF Tryz.prog pJ tt (noA x) 200 5 45 ((oJ 4).args x) (hO 2 (flatP 1 ((oJ 4).l x))) (λv h'=>endsPK 1 x v h' (oJ 4).outs):=by kernel_rfl
def Ws(x:iP):Prop:=
 0+x.t<=x.t/\cP (Nat.beq x.t 0) (∃y:Unit,True/\(x.t=0/\0=0/\0=0)/\(fM x/\gX x/\rF x)/\rJ x) (rQ x.t/\ ∃y:Unit,True/\(0=0/\x.t=0+x.t)/\(fM x/\gX x/\rF x)/\rM x)
theorem ac9(x:iP):Ws x=wpF Tryz.prog pJ tt (noA x) 200 5 204 ((oK 4).args x) (hO 2 (flatP 1 ((oK 4).l x))) (λv h'=>endsPK 1 x v h' (oK 4).outs):=by kernel_rfl
theorem Ri(x:uZ)(hx:x.c.ok/\x.t<x.c.t):V5 x:=by
 obtain⟨⟨h1,h2,h3,h4,h5,h6⟩,ht⟩:=hx;have hs:=h6 x.t;unfold small at hs;unfold V5;simp only[rO,V3,V4,kW,rP,fM,rH,rG,rC,lN,nC,A8,AZ];simp only[aZ,aV,aU,aA,aI,bQ,bF,aO,aK,ay,aX,aW,bU,bG,bH,bI,bV,bC,bJ,bn,eG,aH,aN,ah,ak,aB,aF,aC,aG];refine bf (λh=>absurd (aS h) (by omega)) λ_=>bf (λh=> ?_) λh=>bf (λh2=> ?_) λh2=> ?_
 ·have h:=aS h
  exact⟨by rw[if_neg (by omega)],λq hq=>by simp;intro;omega,λq hq=>by rw[if_neg (by omega)]⟩
 ·have h:=aS h2
  exact⟨by rw[if_neg (by omega)],λq hq=>by simp;intro;omega,λq hq=>by rw[if_neg (by omega)]⟩
 ·have h:=aT h
  have h2:=aT h2;have hl:0<=x.l/\x.l<258:=by omega
  refine⟨by omega,by omega,by unfold I64;omega,by omega,by omega,hl,by omega,by rw[if_pos hl],λq hq=> ?_,λq hq=> ?_⟩
  ·simp only[Cs.eff,bT,dw,dA,dI,<-Bool.decide_and]
   by_cases e:q=x.l.toNat
   ·rw[if_pos e,show decide (x.l=(q:Int))=true by simp;omega,Bool.or_true]
   ·rw[if_neg e,show decide (x.l=(q:Int))=false by simp;omega,Bool.or_false]
  ·simp only[Cs.eff,bT,dw,dA,dI,<-Bool.decide_and]
   by_cases e:q=x.t
   ·subst e;rw[if_pos ⟨rfl,hl⟩,if_pos rfl]
   ·rw[if_neg (by omega),if_neg e]
theorem Rj(x:iP)(hx:x.ok):V6 x:=by
 unfold V6;simp only[fM,gX,rG,jX,lN];simp only[aZ,aV,aU,aA,aI,bQ,bF,aO,aK,ay,aX,aW,bU,bG,bH,bI,bV,bC,bJ,bn,eG,aH,aN,ah,ak,aB,aF,aC,aG]
theorem Rk(x:iP)(hx:x.ok):V7 x:=by
 have:=hx.1;have:=hx.2.1;unfold V7;simp only[fM,gX,rG,rJ,rQ,rM,jX,lN];simp only[aZ,aV,aU,aA,aI,bQ,bF,aO,aK,ay,aX,aW,bU,bG,bH,bI,bV,bC,bJ,bn,eG,aH,aN,ah,ak,aB,aF,aC,aG];exact⟨by omega,bf (λh=>absurd (au h) (by omega)) λ_=>by omega⟩
theorem am0:bZ Tryz.prog 64 (oI 1).ctr:=cO dD mixed dQ 2 noA 200 5 (λ_=>⟨rfl,rfl,rfl,rfl⟩) λx hx=>Eq.mp (acY x) (Ri x (aZ.1 hx))
theorem am1:bZ Tryz.prog 45 (oJ 1).ctr:=cO dD mixed dQ 2 noA 200 5 (λ_=>⟨rfl,rfl,rfl,rfl⟩) λx hx=>Eq.mp (acZ x) (Rj x (aZ.1 hx))
theorem am2:bZ Tryz.prog 204 (oK 1).ctr:=cO dD mixed dQ 2 noA 200 5 (λ_=>⟨rfl,rfl,rfl,rfl⟩) λx hx=>Eq.mp (ac0 x) (Rk x (aZ.1 hx))
theorem Rl(x:uZ)(hx:x.c.ok/\x.t<x.c.t):V8 x:=by
 obtain⟨⟨h1,h2,h3,h4,h5,h6⟩,ht⟩:=hx;have hs:=h6 x.t;unfold small at hs;unfold V8;simp only[rO,KH,nC,kW,rP,fM,rH,rD,rC,lN,A8,AZ];simp only[aZ,aV,aU,aA,aI,bQ,bF,aO,aK,ay,aX,aW,bU,bG,bH,bI,bV,bC,bJ,bn,eG,aH,aN,ah,ak,aB,aF,aC,aG];refine bf (λh=>absurd (aS h) (by omega)) λ_=>bf (λh=> ?_) λh=>bf (λh2=> ?_) λh2=> ?_
 ·have h:=aS h
  exact⟨by rw[if_neg (by omega)],λq hq=>by simp;intro;omega,λq hq=>by rw[if_neg (by omega)]⟩
 ·have h:=aS h2
  exact⟨by rw[if_neg (by omega)],λq hq=>by simp;intro;omega,λq hq=>by rw[if_neg (by omega)]⟩
 ·have h:=aT h
  have h2:=aT h2;have hl:0<=x.l/\x.l<258:=by omega
  refine⟨by omega,by omega,by unfold I64;omega,by omega,by omega,hl,by omega,by rw[if_pos hl],λq hq=> ?_,λq hq=> ?_⟩
  ·simp only[Cs.eff,bT,dw,dA,dI,<-Bool.decide_and]
   by_cases e:q=x.l.toNat
   ·rw[if_pos e,show decide (x.l=(q:Int))=true by simp;omega,Bool.or_true]
   ·rw[if_neg e,show decide (x.l=(q:Int))=false by simp;omega,Bool.or_false]
  ·simp only[Cs.eff,bT,dw,dA,dI,<-Bool.decide_and]
   by_cases e:q=x.t
   ·subst e;rw[if_pos ⟨rfl,hl⟩,if_pos rfl]
   ·rw[if_neg (by omega),if_neg e]
theorem Rn(x:iP)(hx:x.ok):V9 x:=by
 unfold V9;simp only[fM,gX,rD,jX,lN];simp only[aZ,aV,aU,aA,aI,bQ,bF,aO,aK,ay,aX,aW,bU,bG,bH,bI,bV,bC,bJ,bn,eG,aH,aN,ah,ak,aB,aF,aC,aG]
theorem Ro(x:iP)(hx:x.ok):Wh x:=by
 have:=hx.1;have:=hx.2.1;unfold Wh;simp only[fM,gX,rD,rJ,rQ,rM,jX,lN];simp only[aZ,aV,aU,aA,aI,bQ,bF,aO,aK,ay,aX,aW,bU,bG,bH,bI,bV,bC,bJ,bn,eG,aH,aN,ah,ak,aB,aF,aC,aG];exact⟨by omega,bf (λh=>absurd (au h) (by omega)) λ_=>by omega⟩
theorem am3:bZ Tryz.prog 64 (oI 2).ctr:=cO dD mixed dQ 2 noA 200 5 (λ_=>⟨rfl,rfl,rfl,rfl⟩) λx hx=>Eq.mp (ac1 x) (Rl x (aZ.1 hx))
theorem am4:bZ Tryz.prog 45 (oJ 2).ctr:=cO dD mixed dQ 2 noA 200 5 (λ_=>⟨rfl,rfl,rfl,rfl⟩) λx hx=>Eq.mp (ac2 x) (Rn x (aZ.1 hx))
theorem am5:bZ Tryz.prog 204 (oK 2).ctr:=cO dD mixed dQ 2 noA 200 5 (λ_=>⟨rfl,rfl,rfl,rfl⟩) λx hx=>Eq.mp (ac3 x) (Ro x (aZ.1 hx))
theorem Rq(x:uZ)(hx:x.c.ok/\x.t<x.c.t):Wi x:=by
 obtain⟨⟨h1,h2,h3,h4,h5,h6⟩,ht⟩:=hx;have hs:=h6 x.t;unfold small at hs;unfold Wi;simp only[rO,KI,nC,kW,rP,fM,rH,rE,rC,lN,A8,AZ];simp only[aZ,aV,aU,aA,aI,bQ,bF,aO,aK,ay,aX,aW,bU,bG,bH,bI,bV,bC,bJ,bn,eG,aH,aN,ah,ak,aB,aF,aC,aG];refine bf (λh=>absurd (aS h) (by omega)) λ_=>bf (λh=> ?_) λh=>bf (λh2=> ?_) λh2=> ?_
 ·have h:=aS h
  exact⟨by rw[if_neg (by omega)],λq hq=>by simp;intro;omega,λq hq=>by rw[if_neg (by omega)]⟩
 ·have h:=aS h2
  exact⟨by rw[if_neg (by omega)],λq hq=>by simp;intro;omega,λq hq=>by rw[if_neg (by omega)]⟩
 ·have h:=aT h
  have h2:=aT h2;have hl:0<=x.l/\x.l<258:=by omega
  refine⟨by omega,by omega,by unfold I64;omega,by omega,by omega,hl,by omega,by rw[if_pos hl],λq hq=> ?_,λq hq=> ?_⟩
  ·simp only[Cs.eff,bT,dw,dA,dI,<-Bool.decide_and]
   by_cases e:q=x.l.toNat
   ·rw[if_pos e,show decide (x.l=(q:Int))=true by simp;omega,Bool.or_true]
   ·rw[if_neg e,show decide (x.l=(q:Int))=false by simp;omega,Bool.or_false]
  ·simp only[Cs.eff,bT,dw,dA,dI,<-Bool.decide_and]
   by_cases e:q=x.t
   ·subst e;rw[if_pos ⟨rfl,hl⟩,if_pos rfl]
   ·rw[if_neg (by omega),if_neg e]
theorem Rt(x:iP)(hx:x.ok):Wj x:=by
 unfold Wj;simp only[fM,gX,rE,jX,lN];simp only[aZ,aV,aU,aA,aI,bQ,bF,aO,aK,ay,aX,aW,bU,bG,bH,bI,bV,bC,bJ,bn,eG,aH,aN,ah,ak,aB,aF,aC,aG]
theorem Ru(x:iP)(hx:x.ok):Wn x:=by
 have:=hx.1;have:=hx.2.1;unfold Wn;simp only[fM,gX,rE,rJ,rQ,rM,jX,lN];simp only[aZ,aV,aU,aA,aI,bQ,bF,aO,aK,ay,aX,aW,bU,bG,bH,bI,bV,bC,bJ,bn,eG,aH,aN,ah,ak,aB,aF,aC,aG];exact⟨by omega,bf (λh=>absurd (au h) (by omega)) λ_=>by omega⟩
theorem am6:bZ Tryz.prog 64 (oI 3).ctr:=cO dD mixed dQ 2 noA 200 5 (λ_=>⟨rfl,rfl,rfl,rfl⟩) λx hx=>Eq.mp (ac4 x) (Rq x (aZ.1 hx))
theorem am7:bZ Tryz.prog 45 (oJ 3).ctr:=cO dD mixed dQ 2 noA 200 5 (λ_=>⟨rfl,rfl,rfl,rfl⟩) λx hx=>Eq.mp (ac5 x) (Rt x (aZ.1 hx))
theorem am8:bZ Tryz.prog 204 (oK 3).ctr:=cO dD mixed dQ 2 noA 200 5 (λ_=>⟨rfl,rfl,rfl,rfl⟩) λx hx=>Eq.mp (ac6 x) (Ru x (aZ.1 hx))
theorem Rw(x:uZ)(hx:x.c.ok/\x.t<x.c.t):Wp x:=by
 obtain⟨⟨h1,h2,h3,h4,h5,h6⟩,ht⟩:=hx;have hs:=h6 x.t;unfold small at hs;unfold Wp;simp only[rO,KJ,nC,kW,rP,fM,rH,rF,rC,lN,A8,AZ];simp only[aZ,aV,aU,aA,aI,bQ,bF,aO,aK,ay,aX,aW,bU,bG,bH,bI,bV,bC,bJ,bn,eG,aH,aN,ah,ak,aB,aF,aC,aG];refine bf (λh=>absurd (aS h) (by omega)) λ_=>bf (λh=> ?_) λh=>bf (λh2=> ?_) λh2=> ?_
 ·have h:=aS h
  exact⟨by rw[if_neg (by omega)],λq hq=>by simp;intro;omega,λq hq=>by rw[if_neg (by omega)]⟩
 ·have h:=aS h2
  exact⟨by rw[if_neg (by omega)],λq hq=>by simp;intro;omega,λq hq=>by rw[if_neg (by omega)]⟩
 ·have h:=aT h
  have h2:=aT h2;have hl:0<=x.l/\x.l<258:=by omega
  refine⟨by omega,by omega,by unfold I64;omega,by omega,by omega,hl,by omega,by rw[if_pos hl],λq hq=> ?_,λq hq=> ?_⟩
  ·simp only[Cs.eff,bT,dw,dA,dI,<-Bool.decide_and]
   by_cases e:q=x.l.toNat
   ·rw[if_pos e,show decide (x.l=(q:Int))=true by simp;omega,Bool.or_true]
   ·rw[if_neg e,show decide (x.l=(q:Int))=false by simp;omega,Bool.or_false]
  ·simp only[Cs.eff,bT,dw,dA,dI,<-Bool.decide_and]
   by_cases e:q=x.t
   ·subst e;rw[if_pos ⟨rfl,hl⟩,if_pos rfl]
   ·rw[if_neg (by omega),if_neg e]
theorem Rx(x:iP)(hx:x.ok):Wq x:=by
 unfold Wq;simp only[fM,gX,rF,jX,lN];simp only[aZ,aV,aU,aA,aI,bQ,bF,aO,aK,ay,aX,aW,bU,bG,bH,bI,bV,bC,bJ,bn,eG,aH,aN,ah,ak,aB,aF,aC,aG]
theorem Ry(x:iP)(hx:x.ok):Ws x:=by
 have:=hx.1;have:=hx.2.1;unfold Ws;simp only[fM,gX,rF,rJ,rQ,rM,jX,lN];simp only[aZ,aV,aU,aA,aI,bQ,bF,aO,aK,ay,aX,aW,bU,bG,bH,bI,bV,bC,bJ,bn,eG,aH,aN,ah,ak,aB,aF,aC,aG];exact⟨by omega,bf (λh=>absurd (au h) (by omega)) λ_=>by omega⟩
theorem am9:bZ Tryz.prog 64 (oI 4).ctr:=cO dD mixed dQ 2 noA 200 5 (λ_=>⟨rfl,rfl,rfl,rfl⟩) λx hx=>Eq.mp (ac7 x) (Rw x (aZ.1 hx))
theorem ana:bZ Tryz.prog 45 (oJ 4).ctr:=cO dD mixed dQ 2 noA 200 5 (λ_=>⟨rfl,rfl,rfl,rfl⟩) λx hx=>Eq.mp (ac8 x) (Rx x (aZ.1 hx))
theorem anb:bZ Tryz.prog 204 (oK 4).ctr:=cO dD mixed dQ 2 noA 200 5 (λ_=>⟨rfl,rfl,rfl,rfl⟩) λx hx=>Eq.mp (ac9 x) (Ry x (aZ.1 hx))
structure ZCk where
 c:iP
 ph:Nat
noncomputable def ZCk.os(k:ZCk):List dB:=k.c.os k.ph
structure akj where
 k:ZCk
 t:Nat
 l:Int
noncomputable def atQ:Ctr:=det akj (λx=>[.ptr 0 0,i64 x.t,i64 x.l]) 1 (λx=>[.abs (ownM x.k.os)]) (λx=>Hd (x.k.ph<=4/\x.k.c.ok/\x.t<x.k.c.t)) (λx=>i64 (if 0<=x.l/\x.l<258 then 0 else 2)) 1 (λx=>[.abs (ownM (ZCk.os ⟨x.k.c.note x.t x.l,x.k.ph⟩))])
noncomputable def aiv:Ctr:=det ZCk (λ_=>[.ptr 0 0]) 1 (λk=>[.abs (ownM k.os)]) (λk=>Hd (k.ph<=4/\k.c.ok)) (λk=>u64 k.c.now) 1 (λk=>[.abs (ownM k.os)])
noncomputable def ars:Ctr:=det ZCk (λ_=>[.ptr 0 0]) 1 (λk=>[.abs (ownM k.os)]) (λk=>Hd (k.ph<=4/\k.c.ok)) (λk=> .slW 1 0 1 k.c.t) 2 (λk=>[.abs (ownM k.os),.room 3 (.row 1 k.c.t (λq=>[.int .i64 (k.c.o q)]) [])])
theorem KL{p:Nat}(h:p<=4):p=0\/p=1\/p=2\/p=3\/p=4:=by omega
theorem ane{p:Nat}(h:p<=4):bZ Tryz.prog 64 (oI p).ctr:=by
 rcases KL h with rfl|rfl|rfl|rfl|rfl
 ·exact alD
 ·exact am0
 ·exact am3
 ·exact am6
 ·exact am9
theorem anf{p:Nat}(h:p<=4):bZ Tryz.prog 45 (oJ p).ctr:=by
 rcases KL h with rfl|rfl|rfl|rfl|rfl
 ·exact alE
 ·exact am1
 ·exact am4
 ·exact am7
 ·exact ana
theorem ang{p:Nat}(h:p<=4):bZ Tryz.prog 204 (oK p).ctr:=by
 rcases KL h with rfl|rfl|rfl|rfl|rfl
 ·exact alF
 ·exact am2
 ·exact am5
 ·exact am8
 ·exact anb
theorem anh:bZ Tryz.prog 64 atQ:=je λx hx=>by
 obtain⟨h1,h2⟩:=aZ.1 hx
 exact⟨_,ane h1,rfl,⟨x.k.c,x.t,x.l⟩,aZ.2 h2,rfl,rfl,λv h' hh=>by
  obtain⟨y,h0,e1,e2⟩:=ku hh
  exact eP ⟨y,h0,e1,e2⟩⟩
theorem uG:bZ Tryz.prog 45 aiv:=je λx hx=>by
 obtain⟨h1,h2⟩:=aZ.1 hx
 exact⟨_,anf h1,rfl,x.c,aZ.2 h2,rfl,rfl,λv h' hh=>by
  obtain⟨y,h0,e1,e2⟩:=ku hh
  exact eP ⟨y,h0,e1,e2⟩⟩
theorem KN:bZ Tryz.prog 204 ars:=je λx hx=>by
 obtain⟨h1,h2⟩:=aZ.1 hx
 exact⟨_,ang h1,rfl,x.c,aZ.2 h2,rfl,rfl,λv h' hh=>by
  obtain⟨y,h0,e1,e2⟩:=ku hh
  exact eP ⟨y,h0,e1,e2⟩⟩
structure ZSto where
 d:DevM
 p:ZPool
 r:ZRd
 c:iP
 ph:Nat
 b:iy
 l:ZLn
 L:Lks
 id:Int
 ver:Int
 n:Nat
 e:Nat->ZEff
namespace ZSto
def ck(a:ZSto):ZCk:=⟨a.c,a.ph⟩
noncomputable def os(a:ZSto):List dB:=[.cells 113 (.av [.ptr 1 0,.ptr 3 0,.ptr 4 0,.ptr 5 0,.ptr 6 0,.ptr 7 0,.ptr 8 0,.ptr 9 0,u64 a.id,u64 a.ver,.slV (Nat.beq a.n 0) 10 7 a.n]),
 .cells 145 (.av [.ptr 2 0,u32 1,.lit (.int .i32 0),u32 0]),.abs (ownM a.d.os),.abs (ownM a.p.os),.abs (ownM a.r.os),.abs (ownM a.ck.os),.abs (ownM a.b.os),.abs (tabA a.L),.abs (ordA a.L),.abs (ownM a.l.os),.gY (Nat.beq a.n 0) 95 (.row 7 a.n (λi=>(a.e i).cs) [])]
end ZSto
noncomputable def newSto(n t:Nat)(d:DevM):ZSto:=⟨d,eX ((n-2)/8) ((n-2)/8),alz t,afS t 0,0,ZP,alX,[],0,0,0,λ_=>⟨0,⟨#[]⟩,⟨#[]⟩,0,0,0,0⟩⟩
noncomputable def ada:jw:={X:=ZNew,args:=λx=>[i64 x.n,i64 x.t],k:=0,l:=λ_=>[],pre:=λx=>Hd (10<=x.n/\x.n<=258/\1<=x.t/\x.t<=4),outs:=[
 {Y:=DevM,post:=λx d=>Hd (d.ok/\d.n=x.n/\d.st=2/\d.fl=2/\d.fe=1),ret:=λ_ _=> .tup [.ptr 0 0,i64 0],m:=1,l:=λx d=>[.m (newSto x.n x.t d).os]}]}
noncomputable def atS:jd:=pJ++[(48,ctrT ahm.ctr),(79,ctrT ahn.ctr),(80,ctrT QC.ctr),(81,ctrT aho.ctr),(82,ctrT ahp.ctr),(85,ctrT newT),(86,ctrT newO),(84,ctrT ahq.ctr),(87,ctrT ahr.ctr),(148,aqB ate)]
def aiw(a:ZNew)(b:Nat)(c:DevM)(d:Prod Nat Int):Prop:=ownM (ZRd.os (alz a.t))=ownM (ZRd.os (alz b))/\ownM (ZCk.os (ZSto.ck (newSto a.n a.t c)))=ownM (iP.os (afS d.1 d.2) 0)/\ownM ZP.os=ownM ZP.os/\tabA (@List.nil ZLnk)=tabA (@List.nil ZLnk)/\ordA (@List.nil ZLnk)=ordA (@List.nil ZLnk)/\ownM alX.os=ownM alX.os/\(Nat.beq 0 0=true/\0=0/\ ∀q:Nat,q<0->[Value.int .i64 0,Value.string (ByteArray.mk #[]),Value.string (ByteArray.mk #[]),Value.int .u64 0,Value.int .u64 0,Value.int .u64 0,Value.int .i64 0]= @List.nil Value)/\True
def aix:Prop:=0=0/\0=0/\0=0/\0=0/\0=0/\0=0/\0=0/\0=0/\(0:Int)=0/\(0:Int)=0/\(Nat.beq 0 0=true/\0=0)/\True
def KO(a:DevM)(b:Nat):Prop:=Hd (a.ok/\a.n=b/\a.st=2/\a.fl=2/\a.fe=1)
def aiy(x:ZNew):Prop:=
 ∃x_1:Nat,Hd (1<=x_1/\x_1<=258)/\((x_1:Int)=(x.n:Int)/\True)/\True/\ ∀y:Unit,True-> ∃x_2:Nat,Hd (1<=x_2/\x_2<=4)/\((x_2:Int)=(x.t:Int)/\True)/\True/\ ∀y_1:Unit,True-> ∃x_3:DevM,Hd x_3.ok/\(0=0/\True)/\(ownM x_3.os=ownM (DevM.os (xJ x_1))/\True)/\ ∀y_2:Unit,True->cP (decide ((x_3.n:Int)<10)) (∃y_3:DevM,KO y_3 x.n/\(False/\(0:Int)=2/\True)/\False/\False/\False/\False/\False/\False/\False/\False/\False/\False/\False/\True) (∃x_4:Prod Nat Int,Hd (1<=x_4.1/\x_4.1<=4/\0<=x_4.2/\x_4.2<=1152921504606846976)/\((x_4.1:Int)=(x.t:Int)/\x_4.2=0/\True)/\True/\ ∀y_3:Unit,True-> ∃x_5:DevM,Hd x_5.ok/\(0=0/\True)/\(ownM x_5.os=ownM x_3.os/\True)/\ ∀y_4:Unit,True->cP (decide ((x_5.n:Int)<10)) (∃x_6:Nat,Hd (1<=x_6/\x_6<=32)/\((x_6:Int)=0/\True)/\True/\ ∀y_5:Unit,True-> ∃x_7:Unit,Hd True/\True/\True/\ ∀y_6:Unit,True-> ∃x_8:Unit,True/\True/\True/\ ∀y_7:Unit,True-> ∃x_9:Unit,True/\True/\True/\ ∀y_8:Unit,True-> ∃x_10:Unit,Hd True/\True/\True/\ ∀y_9:Unit,True-> ∃x_11:DevM,Hd (x_11.ok/\10<=x_11.n/\x_11.wide (10:Int))/\(0=0/\True)/\(ownM x_11.os=ownM x_5.os/\True)/\ ∀y_10:DevM,Hd (y_10.ok/\y_10.n=x_11.n/\y_10.st=x_11.st+2/\y_10.fl=x_11.fl+2/\y_10.fe=x_11.fe+1)-> ∃aru:DevM,KO aru x.n/\(0=0/\(0:Int)=0/\True)/\aix/\(0=0/\(1:Int)=1/\(0:Int)=0/\(0:Int)=0/\True)/\ownM aru.os=ownM y_10.os/\ownM (ZPool.os (eX ((x.n-2)/8) ((x.n-2)/8)))=ownM (ZPool.os (eX x_6 x_6))/\aiw x x_2 aru x_4) (I64 (CS (x_5.n:Int) (258:Int)-2)/\((8:Int)=0->False)/\
 I64 (Int.tdiv (CS (x_5.n:Int) (258:Int)-2) (8:Int))/\ ∃x_6:Nat,Hd (1<=x_6/\x_6<=32)/\((x_6:Int)=Int.tdiv (CS (x_5.n:Int) (258:Int)-2) (8:Int)/\True)/\True/\ ∀y_5:Unit,True-> ∃x_7:Unit,Hd True/\True/\True/\ ∀y_6:Unit,True-> ∃x_8:Unit,True/\True/\True/\ ∀y_7:Unit,True-> ∃x_9:Unit,True/\True/\True/\ ∀y_8:Unit,True-> ∃x_10:Unit,Hd True/\True/\True/\ ∀y_9:Unit,True-> ∃x_11:DevM,Hd (x_11.ok/\10<=x_11.n/\x_11.wide (10:Int))/\(0=0/\True)/\(ownM x_11.os=ownM x_5.os/\True)/\ ∀y_10:DevM,Hd (y_10.ok/\y_10.n=x_11.n/\y_10.st=x_11.st+2/\y_10.fl=x_11.fl+2/\y_10.fe=x_11.fe+1)-> ∃aru:DevM,KO aru x.n/\(0=0/\(0:Int)=0/\True)/\aix/\(0=0/\(1:Int)=1/\(0:Int)=0/\(0:Int)=0/\True)/\ownM aru.os=ownM y_10.os/\ownM (ZPool.os (eX ((x.n-2)/8) ((x.n-2)/8)))=ownM (ZPool.os (eX x_6 x_6))/\aiw x x_2 aru x_4))
theorem aiz(x:ZNew):aiy x=wpF Tryz.prog atS tt (noA x) 200 5 13 (ada.args x) (hO 0 (flatP 0 (ada.l x))) (λv h'=>endsPK 0 x v h' ada.outs):=by kernel_rfl
theorem Wu(x:ZNew)(hx:10<=x.n/\x.n<=258/\1<=x.t/\x.t<=4):aiy x:=by
 unfold aiy;simp only[KO,aix,aiw];simp only[aZ,aV,aU,aA,aI,bQ,bF,aO,aK,ay,aX,aW,bU,bG,bH,bI,bV,bC,bJ,bn,eG,aH,aN,ah,ak,aB,aF,aC,aG];have h1:=Vz x.n hx.2.1;have hm:CS (x.n:Int) 258=x.n:=by unfold CS;omega
 have hd:((x.n:Int)-2).tdiv 8=(((x.n-2)/8:Nat):Int):=by
  rw[show(x.n:Int)-2=((x.n-2:Nat):Int) by omega];exact(Int.ofNat_tdiv (x.n-2) 8).symm
 refine⟨x.n,⟨by omega,by omega⟩,rfl,x.t,⟨by omega,by omega⟩,rfl,xJ x.n,h1,rfl,bf (λh=>absurd (aS h) (by show¬((x.n:Int)<10);omega)) λ_=>⟨(x.t,0),⟨by show 1<=x.t;omega,by show x.t<=4;omega,Int.le_refl 0,show(0:Int)<=1152921504606846976 by decide⟩,⟨rfl,rfl⟩,xJ x.n,h1,rfl,bf (λh=>absurd (aS h) (by show¬((x.n:Int)<10);omega)) λ_=> ?_⟩⟩;show I64 (CS (x.n:Int) 258-2)/\_;rw[show CS ((xJ x.n).n:Int) 258=x.n from hm,hd];refine⟨by show I64 (CS (x.n:Int) 258-2);rw[hm];unfold I64;omega,by omega,by unfold I64;omega,(x.n-2)/8,by omega,rfl,xJ x.n,⟨h1,by show 10<=x.n;omega,⟨show(0:Int)+10<1099511627776 by decide,show(0:Int)+10<1099511627776 by decide,show(0:Int)+10<1099511627776 by decide⟩⟩,rfl,λy hy=>⟨y,⟨hy.1,hy.2.1,hy.2.2.1,hy.2.2.2.1,hy.2.2.2.2⟩,?_⟩⟩
 repeat' (first|exact rfl|exactλq hq=>absurd hq (Nat.not_lt_zero q)|refine And.intro ?_ ?_)
theorem ani:dX Tryz.prog atS:= .append dQ (.cons (bM alY) (.cons (bM alZ) (.cons (bM al2) (.cons (bM al0) (.cons (bM al1) (.cons (bM ard) (.cons (bM arf) (.cons (bM al3) (.cons (bM al4) (.cons (λ_ _ _ hq=>alR al6 _ _ _ hq) .nil))))))))))
theorem aiA:bZ Tryz.prog 13 ada.ctr:=cO dD mixed ani 0 noA 200 5 (λ_=>⟨rfl,rfl,rfl,rfl⟩) λx hx=>Eq.mp (aiz x) (Wu x (aZ.1 hx))
structure ZCh where
 kind:Int
 key:ByteArray
 value:ByteArray
 had:Bool
 old:ZLnk
 line:Int
 cls:Int
namespace ZCh
def av(x:ZCh):AV:= .agg [i64 x.kind,.lit (.string x.key),.lit (.string x.value),boo x.had,.lit (.string x.old.key),u64 x.old.id,u64 x.old.ver,i64 x.old.line,i64 x.old.cls,i64 x.line,i64 x.cls]
end ZCh
structure ZCg where
 a:ZSto
 t:Nat
 e:Int
 x:ZCh
 ln:Nat
 g:Int
namespace ZCg
def av(y:ZCg)(k:Int)(had:Bool):AV:=({y.x with kind:=k,had:=had,line:=y.ln}:ZCh).av
def gr(y:ZCg):Int:=if y.g=0 then y.a.ver+1 else y.g
def idP(y:ZCg)(had:Bool):Int:=bif had then y.x.old.id else y.a.id+1
def blk(y:ZCg)(k:Int)(had:Bool):ZBlk:=if k=2 then⟨y.x.cls,1,y.idP had,y.a.ver+1,y.e,y.x.key,y.x.value⟩else if k=4 then⟨y.x.cls,2,y.a.id+1,y.a.ver+1,y.e,⟨#[]⟩,y.x.value⟩else⟨0,3,y.x.old.id,y.a.ver+1,y.e,⟨#[]⟩,⟨#[]⟩⟩
def lnk(y:ZCg)(k:Int)(had:Bool):ZLnk:=⟨(y.blk k had).key,(y.blk k had).id,y.a.ver+1,y.ln,(y.blk k had).cls⟩
def eff(y:ZCg)(k:Int)(had:Bool):ZEff:=if k=2 then⟨1,y.x.key,y.x.value,y.idP had,y.a.ver+1,y.e,y.gr⟩else if k=3 then⟨2,y.x.key,⟨#[]⟩,y.x.old.id,y.a.ver+1,y.e,y.gr⟩else if k=4 then⟨3,⟨#[]⟩,y.x.value,y.a.id+1,y.a.ver+1,y.e,y.gr⟩else⟨4,⟨#[]⟩,⟨#[]⟩,y.x.old.id,y.a.ver+1,y.e,y.gr⟩
def ent(y:ZCg)(k:Int):gZ:=⟨y.x.old.line,y.x.old.cls,y.a.r.now,y.e,if k=2 then-1 else y.ln⟩
noncomputable def res(y:ZCg)(k:Int)(had:Bool):ZSto:={y.a with
 d:=y.a.d.store y.ln 0 64 (y.blk k had).enc
 c:=y.a.c.notes y.t y.ln (y.blk k had).dJ
 b:=if had=true/\k≠4 then y.a.b.put (y.ent k)else y.a.b
 l:=if k=4 then y.a.l.push (y.lnk k had)else if k=5 then y.a.l.pop else y.a.l
 L:=if k=2 then jg y.a.L (y.lnk k had)else if k=3 then fQ y.a.L y.x.key else y.a.L
 id:=if k=4\/k=2/\had=false then y.a.id+1 else y.a.id
 ver:=y.a.ver+1
 n:=y.a.n+1
 e:=λi=>if i=y.a.n then y.eff k had else y.a.e i}
def ok(y:ZCg)(k:Int)(had:Bool):Prop:=y.a.d.ok/\y.a.c.ok/\y.a.ph<=4/\y.t<y.a.c.t/\y.ln<y.a.d.n/\y.a.d.n<=258/\(y.blk k had).may/\y.x.key.size<1099511627776/\y.x.value.size<1099511627776/\0<=y.a.ver/\y.a.ver<1152921504606846976/\0<=y.a.id/\y.a.id<1152921504606846976/\0<=y.g/\y.g<1152921504606846977/\y.a.n<1099511627776/\
 (∀q,y.a.c.o q+8<1099511627776)/\(had=true->y.a.b.ok/\y.a.r.ok/\(y.ent k).may)/\(k=2->(jg y.a.L (y.lnk k had)).length<=258)/\(k=4\/k=5->y.a.l.ok)
end ZCg
noncomputable def anj(k:Int)(had:Bool):jw:=qC ZCg (λy=>[.ptr 0 0,i64 y.t,u64 y.e,y.av k had,u64 y.g]) 1 (λy=>[.m y.a.os]) (λy=>Hd (y.ok k had)) (λy=>u64 (y.a.ver+1)) 1 (λy=>[.m (y.res k had).os])
noncomputable def anCg(k:Int)(had:Bool)(y:ZCg):FuncId->pX:=λf=>bif Nat.beq f 210 then(λb _ _=>
 bif Nat.beq b 1007 then [{σ:=Unit,fr:=λ_=>[(4,u64 y.gr)],ob:=λ_=>[],inv:=λ_=>Hd True,meas:=λ_=>0}]else
 bif Nat.beq b 0 then [{σ:=Nat,fr:=λi=>[(67,i64 i)],ob:=λi=>[(5,some (.abs (ownM (ZCk.os ⟨y.a.c.notes y.t y.ln i,y.a.ph⟩))))],inv:=λi=>Hd (i<=(y.blk k had).dJ),meas:=λi=>(y.blk k had).dJ-i}]else [])elseλ_ _ _=>[]
noncomputable def aoI:adU:={X:=ZTq,args:=λx=>[.ptr 0 0,.lit (.string x.s)],L:=λx=>x.L,pre:=λx=>Hd (x.s.size<1099511627776),outs:=[
 {Y:=ZLnk×Bool,post:=λ_ _=>True,ret:=λ_ y=> .tup [y.1.av,boo y.2],L:=λx _=>fQ x.L x.s,m:=1,ex:=λ_ _=>[]}]}
theorem ank{L:Lks}{s:ByteArray}(h:gJ L s=none):fQ L s=L:=List.filter_eq_self.2 λl hl=>by
 have:=uq h l hl;rw[decide_eq_false this];rfl
theorem aiB:bZ Tryz.prog 252 aoI.C:=je λx hx=>⟨_,amG,rfl,x,hx,rfl,rfl,λv h' hh=>by
 rcases pz hh with ⟨y,h0,e1,e2⟩|⟨y,h0,e1,e2⟩
 ·have e2:h'=hO 1 [.abs (tabA x.L)]:=e2
  refine eP ⟨(iO,false),trivial,e1,?_⟩;show h'=hO 1 [.abs (tabA (fQ x.L x.s))];rw[ank (aZ.1 h0)];exact e2
 ·exact eP ⟨(y,true),trivial,e1,e2⟩⟩
noncomputable def arv:jd:=pJ++[(113,acs),(180,ctrT aoq),(62,ctrT Ib.ctr),(64,ctrT atQ),(250,ctrT atz.C),(251,ctrT setO.C),(252,ctrT aoI.C),(253,ctrT atH.C),(254,ctrT Qh.ctr),(255,ctrT Zz.ctr),(66,ctrT agH.ctr),(67,ctrT asZ.ctr)]
def vH(a:Nat):Prop:=Nat.beq a 0=Nat.beq a 0
def Ba(a:ZSto):Prop:=vH a.n/\a.n=a.n/\ ∀q:Nat,q<a.n->[Value.int .i64 (ZEff.kind (a.e q)),Value.string (ZEff.key (a.e q)),Value.string (ZEff.value (a.e q)),Value.int .u64 (ZEff.id (a.e q)),Value.int .u64 (ZEff.ver (a.e q)),Value.int .u64 (ZEff.epoch (a.e q)),Value.int .i64 (ZEff.group (a.e q))]=[Value.int .i64 (ZEff.kind (a.e q)),Value.string (ZEff.key (a.e q)),Value.string (ZEff.value (a.e q)),Value.int .u64 (ZEff.id (a.e q)),Value.int .u64 (ZEff.ver (a.e q)),Value.int .u64 (ZEff.epoch (a.e q)),Value.int .i64 (ZEff.group (a.e q))]
def aao(a:ZCg):Prop:=a.x.old.key=a.x.old.key/\a.x.old.id=a.x.old.id/\a.x.old.ver=a.x.old.ver/\a.x.old.line=a.x.old.line/\a.x.old.cls=a.x.old.cls/\(a.ln:Int)=(a.ln:Int)/\a.x.cls=a.x.cls/\True
def EO(a:Int):Prop:=IntKind.wrap .u64 (a+1)=IntKind.wrap .u64 (a+1)
def KP(a:Nat):Prop:=(2*(a+1)+1000)*72<=281474976710656
def Wv(a:Int):Prop:=AV.lit (Value.int .i64 a)=AV.lit (Value.int .i64 a)
def aiC(a:ZLnk):Prop:=Wv a.cls/\Wv a.line/\AV.ptr 6 0=AV.ptr 6 0/\True
def rU(a:ZPool):Prop:=ownM a.os=ownM a.os
def EP(a:Int):Prop:=a+1=IntKind.wrap .u64 (a+1)
def qh(a:Int)(b:Int):Prop:=a=IntKind.wrap .u64 (b+1)
def ER(a:ZLnk)(b:ZCg):Prop:=qh a.ver b.a.ver/\a.line=(b.ln:Int)/\a.cls=b.x.cls/\True
def KQ(a:Nat):Prop:=AV.slV (Nat.beq a 0) 10 7 a=AV.slV (Nat.beq a 0) 10 7 a/\True
def yD(a:Nat):Prop:=Nat.beq (a+1) 0=false
def KR(a:ZSto):Prop:=EP a.ver/\(yD a.n/\a.n+1=a.n+1)/\True
def zx:Prop:=0=0/\(1:Int)=1/\(0:Int)=0/\(0:Int)=0/\True
def Wx(a:ZCg)(b:lX)(c:Nat):Prop:=I64 a.gr/\ ∃x_2:Gw,Hd (x_2.l.key.size<1099511627776/\List.length (jg x_2.L x_2.l)<=258)/\(0=0/\(x_2.l.key=a.x.key/\x_2.l.id=a.x.old.id/\ER x_2.l a)/\True)/\(tabA x_2.L=tabA a.a.L/\True)/\ ∀y_3:Unit,True->True/\ ∃x_3:Gw,Hd (x_3.l.key.size<1099511627776/\List.length (jg x_3.L x_3.l)<=300)/\(0=0/\(x_3.l.key=a.x.key/\x_3.l.id=a.x.old.id/\ER x_3.l a)/\True)/\(ordA x_3.L=ordA a.a.L/\True)/\ ∀y_4:Unit,True->True/\ ∃x_4:ZRd,Hd x_4.ok/\(0=0/\True)/\(ownM x_4.os=ownM a.a.r.os/\True)/\ ∀y_5:Unit,True->aiC a.x.old/\ ∃x_5:Bz,Hd (x_5.b.ok/\x_5.x.may)/\(0=0/\(x_5.x.line=a.x.old.line/\x_5.x.cls=a.x.old.cls/\x_5.x.r=x_4.now/\x_5.x.d=a.e/\x_5.x.anti=(-(1:Int))/\True)/\True)/\(ownM x_5.b.os=ownM a.a.b.os/\True)/\ ∀y_6:Unit,True->True/\KQ a.a.n/\vH a.a.n/\a.a.n=a.a.n/\List.all [List.take 7 [Value.int .i64 1,Value.string a.x.key,Value.string a.x.value,Value.int .u64 a.x.old.id,Value.int .u64 (IntKind.wrap .u64 (a.a.ver+1)),Value.int .u64 a.e,Value.int .i64 a.gr]] (λ(l:List Value)=>Nat.beq (List.length l) 7&&List.all l Value.oneCell')=true/\KP a.a.n/\True/\True/\ ∃y_7:Unit,True/\EP a.a.ver/\(0=0/\0=0/\0=0/\0=0/\0=0/\0=0/\0=0/\0=0/\ite ((2:Int)=4\/(2:Int)=2/\true=false) (a.a.id+1) a.a.id=a.a.id/\KR a.a)/\zx/\ownM (DevM.os (a.a.d.store a.ln 0 64 (ZBlk.enc (a.blk (2:Int) true))))=ownM (DevM.os (b.d.store b.k b.a b.b.n (λ(q:Nat)=>b.b.g (b.b.q+q))))/\rU a.a.p/\ownM a.a.r.os=ownM x_4.os/\ownM (ZCk.os (ZSto.ck (a.res (2:Int) true)))=ownM (ZCk.os (ZCk.mk (a.a.c.notes a.t (a.ln:Int) c) a.a.ph))/\ownM (iy.os (ite (true=true/\
 (2:Int)≠(4:Int)) (a.a.b.put (a.ent (2:Int))) a.a.b))=ownM (iy.os (x_5.b.put x_5.x))/\tabA (ite ((2:Int)=2) (jg a.a.L (a.lnk (2:Int) true)) (ite ((2:Int)=3) (fQ a.a.L a.x.key) a.a.L))=tabA (jg x_2.L x_2.l)/\ordA (ite ((2:Int)=2) (jg a.a.L (a.lnk (2:Int) true)) (ite ((2:Int)=3) (fQ a.a.L a.x.key) a.a.L))=ordA (jg x_3.L x_3.l)/\ownM (ZLn.os (ite ((2:Int)=4) (a.a.l.push (a.lnk (2:Int) true)) (ite ((2:Int)=5) a.a.l.pop a.a.l)))=ownM a.a.l.os/\(yD a.a.n/\a.a.n+1=a.a.n+List.length [List.take 7 [Value.int .i64 1,Value.string a.x.key,Value.string a.x.value,Value.int .u64 a.x.old.id,Value.int .u64 (IntKind.wrap .u64 (a.a.ver+1)),Value.int .u64 a.e,Value.int .i64 a.gr]]/\ ∀q:Nat,q<a.a.n+1->[Value.int .i64 (ZEff.kind (ite (q=a.a.n) (a.eff (2:Int) true) (a.a.e q))),Value.string (ZEff.key (ite (q=a.a.n) (a.eff (2:Int) true) (a.a.e q))),Value.string (ZEff.value (ite (q=a.a.n) (a.eff (2:Int) true) (a.a.e q))),Value.int .u64 (ZEff.id (ite (q=a.a.n) (a.eff (2:Int) true) (a.a.e q))),Value.int .u64 (ZEff.ver (ite (q=a.a.n) (a.eff (2:Int) true) (a.a.e q))),Value.int .u64 (ZEff.epoch (ite (q=a.a.n) (a.eff (2:Int) true) (a.a.e q))),Value.int .i64 (ZEff.group (ite (q=a.a.n) (a.eff (2:Int) true) (a.a.e q)))]=Cs.eff (λ(i:Nat)=>ZEff.cs (a.a.e i)) [(a.a.n,List.take 7 [Value.int .i64 1,Value.string a.x.key,Value.string a.x.value,Value.int .u64 a.x.old.id,Value.int .u64 (IntKind.wrap .u64 (a.a.ver+1)),Value.int .u64 a.e,Value.int .i64 a.gr])] q)/\True
def KT(a:lX):Prop:=ownM (DevM.os (a.d.store a.k a.a a.b.n (λ(q:Nat)=>a.b.g (a.b.q+q))))=ownM (DevM.os (a.d.store a.k a.a a.b.n (λ(q:Nat)=>a.b.g (a.b.q+q))))
def Wy(a:ZSto):Prop:=zx/\(0=0/\0=0/\0=0/\0=0/\0=0/\0=0/\0=0/\0=0/\EO a.id/\EO a.ver/\(vH a.n/\a.n=a.n)/\True)/\True
def WA(a:ZSto)(b:lX):Prop:=ownM a.r.os=ownM a.r.os/\rU a.p/\KT b/\Wy a
def WB(a:ZSto):Prop:=zx/\(0=0/\0=0/\0=0/\0=0/\0=0/\0=0/\0=0/\0=0/\a.id=a.id/\EO a.ver/\(vH a.n/\a.n=a.n)/\True)/\True
def WC(a:ZLnk)(b:ZCg):Prop:=qh a.id b.a.id/\ER a b
def WE(a:ZCg)(b:lX)(c:Nat):Prop:=I64 a.gr/\ ∃x_2:Gw,Hd (x_2.l.key.size<1099511627776/\List.length (jg x_2.L x_2.l)<=258)/\(0=0/\(x_2.l.key=a.x.key/\WC x_2.l a)/\True)/\(tabA x_2.L=tabA a.a.L/\True)/\ ∀y_3:Unit,True->True/\ ∃x_3:Gw,Hd (x_3.l.key.size<1099511627776/\List.length (jg x_3.L x_3.l)<=300)/\(0=0/\(x_3.l.key=a.x.key/\WC x_3.l a)/\True)/\(ordA x_3.L=ordA a.a.L/\True)/\ ∀y_4:Unit,True->True/\KQ a.a.n/\vH a.a.n/\a.a.n=a.a.n/\List.all [List.take 7 [Value.int .i64 1,Value.string a.x.key,Value.string a.x.value,Value.int .u64 (IntKind.wrap .u64 (a.a.id+1)),Value.int .u64 (IntKind.wrap .u64 (a.a.ver+1)),Value.int .u64 a.e,Value.int .i64 a.gr]] (λ(l:List Value)=>Nat.beq (List.length l) 7&&List.all l Value.oneCell')=true/\KP a.a.n/\True/\True/\ ∃y_5:Unit,True/\EP a.a.ver/\(0=0/\0=0/\0=0/\0=0/\0=0/\0=0/\0=0/\0=0/\ite ((2:Int)=4\/(2:Int)=2/\false=false) (a.a.id+1) a.a.id=IntKind.wrap .u64 (a.a.id+1)/\KR a.a)/\zx/\ownM (DevM.os (a.a.d.store a.ln 0 64 (ZBlk.enc (a.blk (2:Int) false))))=ownM (DevM.os (b.d.store b.k b.a b.b.n (λ(q:Nat)=>b.b.g (b.b.q+q))))/\rU a.a.p/\ownM a.a.r.os=ownM a.a.r.os/\ownM (ZCk.os (ZSto.ck (a.res (2:Int) false)))=ownM (ZCk.os (ZCk.mk (a.a.c.notes a.t (a.ln:Int) c) a.a.ph))/\ownM (iy.os (ite (false=true/\(2:Int)≠(4:Int)) (a.a.b.put (a.ent (2:Int))) a.a.b))=ownM a.a.b.os/\tabA (ite ((2:Int)=2) (jg a.a.L (a.lnk (2:Int) false)) (ite ((2:Int)=3) (fQ a.a.L a.x.key) a.a.L))=tabA (jg x_2.L x_2.l)/\ordA (ite ((2:Int)=2) (jg a.a.L (a.lnk (2:Int) false)) (ite ((2:Int)=3) (fQ a.a.L a.x.key) a.a.L))=ordA (jg x_3.L x_3.l)/\
 ownM (ZLn.os (ite ((2:Int)=4) (a.a.l.push (a.lnk (2:Int) false)) (ite ((2:Int)=5) a.a.l.pop a.a.l)))=ownM a.a.l.os/\(yD a.a.n/\a.a.n+1=a.a.n+List.length [List.take 7 [Value.int .i64 1,Value.string a.x.key,Value.string a.x.value,Value.int .u64 (IntKind.wrap .u64 (a.a.id+1)),Value.int .u64 (IntKind.wrap .u64 (a.a.ver+1)),Value.int .u64 a.e,Value.int .i64 a.gr]]/\ ∀q:Nat,q<a.a.n+1->[Value.int .i64 (ZEff.kind (ite (q=a.a.n) (a.eff (2:Int) false) (a.a.e q))),Value.string (ZEff.key (ite (q=a.a.n) (a.eff (2:Int) false) (a.a.e q))),Value.string (ZEff.value (ite (q=a.a.n) (a.eff (2:Int) false) (a.a.e q))),Value.int .u64 (ZEff.id (ite (q=a.a.n) (a.eff (2:Int) false) (a.a.e q))),Value.int .u64 (ZEff.ver (ite (q=a.a.n) (a.eff (2:Int) false) (a.a.e q))),Value.int .u64 (ZEff.epoch (ite (q=a.a.n) (a.eff (2:Int) false) (a.a.e q))),Value.int .i64 (ZEff.group (ite (q=a.a.n) (a.eff (2:Int) false) (a.a.e q)))]=Cs.eff (λ(i:Nat)=>ZEff.cs (a.a.e i)) [(a.a.n,List.take 7 [Value.int .i64 1,Value.string a.x.key,Value.string a.x.value,Value.int .u64 (IntKind.wrap .u64 (a.a.id+1)),Value.int .u64 (IntKind.wrap .u64 (a.a.ver+1)),Value.int .u64 a.e,Value.int .i64 a.gr])] q)/\True
def KU(a:ZCg):Prop:=EO a.a.ver/\a.e=a.e/\a.x.key=a.x.key/\a.x.value=a.x.value/\True
def WG(a:ZSto)(b:lX):Prop:=ownM a.r.os=ownM a.r.os/\rU a.p/\KT b/\WB a
def kM(a:ZCg):Prop:=a.x.cls=a.x.cls/\(1:Int)=1/\a.x.old.id=a.x.old.id/\KU a
def WH(a:ZSto):Prop:=Ba a/\ownM a.l.os=ownM a.l.os/\ordA a.L=ordA a.L/\tabA a.L=tabA a.L/\ownM a.b.os=ownM a.b.os/\ownM a.ck.os=ownM a.ck.os/\ownM a.r.os=ownM a.r.os/\rU a.p/\ownM a.d.os=ownM a.d.os/\Wy a
def WI(a:ZSto):Prop:=Ba a/\ownM a.l.os=ownM a.l.os/\ordA a.L=ordA a.L/\tabA a.L=tabA a.L/\ownM a.b.os=ownM a.b.os/\ownM a.ck.os=ownM a.ck.os/\ownM a.r.os=ownM a.r.os/\rU a.p/\ownM a.d.os=ownM a.d.os/\WB a
def aiD(a:ZCg):Prop:=a.x.key=a.x.key/\a.x.value=a.x.value/\true=true/\aao a
def aiE(a:ZCg):Prop:=a.x.key=a.x.key/\a.x.value=a.x.value/\false=false/\aao a
def KW(a:ZCg)(b:Nat)(c:akj):Prop:=ownM (ZCk.os (ZCk.mk (a.a.c.notes a.t (a.ln:Int) b) a.a.ph))=ownM (ZCk.os (ZCk.mk (c.k.c.note c.t c.l) c.k.ph))
def WJ(a:ZCg)(b:Nat)(c:akj)(d:lX):Prop:=Ba a.a/\ownM a.a.l.os=ownM a.a.l.os/\ordA a.a.L=ordA a.a.L/\tabA a.a.L=tabA a.a.L/\ownM a.a.b.os=ownM a.a.b.os/\KW a b c/\WA a.a d
def WL(a:ZCg)(b:Nat)(c:akj)(d:lX):Prop:=Ba a.a/\ownM a.a.l.os=ownM a.a.l.os/\ordA a.a.L=ordA a.a.L/\tabA a.a.L=tabA a.a.L/\ownM a.a.b.os=ownM a.a.b.os/\KW a b c/\WG a.a d
def zy(a:ZBlk):Prop:=64=64/\ ∀q:Nat,q<64->[Value.int .u8 (a.enc q)]=[Value.int .u8 (a.enc q)]
def zA(a:Nat):Prop:=AV.lit (Value.int .i64 (a:Int))=AV.lit (Value.int .i64 (a:Int))/\True
def kN(a:ZCg):Prop:=a.x.cls=a.x.cls/\(1:Int)=1/\EO a.a.id/\KU a
def WM(a:ZCg)(b:Nat)(c:lX):Prop:=Ba a.a/\ownM a.a.l.os=ownM a.a.l.os/\ordA a.a.L=ordA a.a.L/\tabA a.a.L=tabA a.a.L/\ownM a.a.b.os=ownM a.a.b.os/\ownM (ZCk.os (ZCk.mk (a.a.c.notes a.t (a.ln:Int) b) a.a.ph))=ownM a.a.ck.os/\WA a.a c
def WO(a:ZCg)(b:Nat)(c:lX):Prop:=Ba a.a/\ownM a.a.l.os=ownM a.a.l.os/\ordA a.a.L=ordA a.a.L/\tabA a.a.L=tabA a.a.L/\ownM a.a.b.os=ownM a.a.b.os/\ownM (ZCk.os (ZCk.mk (a.a.c.notes a.t (a.ln:Int) b) a.a.ph))=ownM a.a.ck.os/\WG a.a c
def zB(a:lX)(b:Nat):Prop:=0=0/\(a.k:Int)=(b:Int)/\(a.a:Int)=0/\(a.b.q=0/\a.b.n=64)/\True
def zC(a:ZBlk):Prop:=64*a.dJ=64*a.dJ/\ ∀q:Nat,q<64*a.dJ->[Value.int .u8 (a.enc q)]=[Value.int .u8 (a.enc q)]
def KX(a:Bys)(b:ZBlk):Prop:= ∀q:Nat,q<a.N->[Value.int .u8 (a.g q)]=[Value.int .u8 (b.enc q)]
def KY(a:lX)(b:DevM)(c:ZBlk):Prop:=ownM a.d.os=ownM b.os/\(a.b.N=64/\KX a.b c)/\True
def zD(a:ZCk)(b:ZCg)(c:Nat):Prop:=ownM a.os=ownM (ZCk.os (ZCk.mk (b.a.c.notes b.t (b.ln:Int) c) b.a.ph))/\True
def zF(a:akj)(b:ZCg)(c:Nat):Prop:=0=0/\(a.t:Int)=(b.t:Int)/\a.l=(b.ln:Int)+(c:Int)/\True
def zG(a:lX):Prop:=Hd (a.d.ok/\a.k<a.d.n/\a.b.ok/\a.a+a.b.n<=64)
def ES(a:ByteArray):Prop:=AV.lit (Value.string a)=AV.lit (Value.string a)
def zH(a:akj):Prop:=Hd (a.k.ph<=4/\a.k.c.ok/\a.t<a.k.c.t)
def zI(a:ByteArray):Prop:=ES a/\True
def nD(a:ZCg):Prop:=(2:Int)=2/\aiE a
def nG(a:ZCg):Prop:=(2:Int)=2/\aiD a
def vI(a:Nat)(b:ZCg):Prop:=Hd (a<=ZBlk.dJ (b.blk (2:Int) false))
def KZ(a:ZCg):Prop:=a.gr=IntKind.wrap .u64 (a.a.ver+1)/\True
def zJ(a:Nat)(b:Nat):Prop:=(a:Int)=(b:Int)+1/\True
def vJ(a:Nat)(b:ZCg):Prop:=Hd (a<=ZBlk.dJ (b.blk (2:Int) true))
def La(a:ZBlk):Prop:=Hd (a.may/\a.key.size<1099511627776/\a.value.size<1099511627776)
def Lc:Prop:=0<=64/\64<=64/\64<=64
def Ld(a:ZBlk):Prop:=0<=64/\64<=64*a.dJ/\64*a.dJ<=64*a.dJ
def CB(a:lX)(b:DevM)(c:ZBlk):Prop:=ownM a.d.os=ownM b.os/\(a.b.N=64*c.dJ/\KX a.b c)/\True
def uH(a:Nat)(b:Nat):Prop:=I64 ((a:Int)+(b:Int))
def uI(a:Nat):Prop:=(a:Int)=0/\True
def WQ(y:ZCg):Prop:=
 cP (BEq.beq y.g (0:Int)) (∃s:Unit,Hd True/\True/\KZ y/\nD y/\WH y.a) (∃s:Unit,Hd True/\True/\(y.gr=y.g/\True)/\nD y/\WH y.a)/\(∀s:Unit,Hd True->(ES y.x.value/\zI y.x.key)/\zI y.x.value/\True/\ ∃x:ZBlk,La x/\((x.cls=y.x.cls/\x.kind=1/\qh x.id y.a.id/\qh x.ver y.a.ver/\x.epoch=y.e/\x.key=y.x.key/\x.value=y.x.value/\True)/\True)/\True/\(∀y_1:Unit,Hd (x.cls=0)->(0:Int)<=64/\Lc/\zA y.ln/\ ∃x_1:lX,zG x_1/\zB x_1 y.ln/\KY x_1 y.a.d x/\ ∀y_2:Unit,True->True/\(∃s_1:Nat,vI s_1 y/\True/\uI s_1/\zy x/\kN y/\kN y/\kN y/\nD y/\nD y/\WM y s_1 x_1)/\(∀s_1:Nat,vI s_1 y->cP (decide ((s_1:Int)<spn y.x.cls)) (uH y.ln s_1/\ ∃x_2:akj,zH x_2/\zF x_2 y s_1/\zD x_2.k y s_1/\ ∀y_3:Unit,True->True/\I64 ((s_1:Int)+1)/\ ∃s_2:Nat,vI s_2 y/\ZBlk.dJ (y.blk (2:Int) false)-s_2<ZBlk.dJ (y.blk (2:Int) false)-s_1/\zJ s_2 s_1/\zy x/\kN y/\kN y/\kN y/\nD y/\nD y/\WJ y s_2 x_2 x_1) (WE y x_1 s_1))/\True)/\ ∀y_1:Unit,Hd (x.cls≠(0:Int))->(0:Int)<=64/\Ld x/\zA y.ln/\ ∃x_1:lX,zG x_1/\zB x_1 y.ln/\CB x_1 y.a.d x/\ ∀y_2:Unit,True->True/\(∃s_1:Nat,vI s_1 y/\True/\uI s_1/\zC x/\kN y/\kN y/\kN y/\nD y/\nD y/\WM y s_1 x_1)/\(∀s_1:Nat,vI s_1 y->cP (decide ((s_1:Int)<spn y.x.cls)) (uH y.ln s_1/\ ∃x_2:akj,zH x_2/\zF x_2 y s_1/\zD x_2.k y s_1/\ ∀y_3:Unit,True->True/\I64 ((s_1:Int)+1)/\
 ∃s_2:Nat,vI s_2 y/\ZBlk.dJ (y.blk (2:Int) false)-s_2<ZBlk.dJ (y.blk (2:Int) false)-s_1/\zJ s_2 s_1/\zC x/\kN y/\kN y/\kN y/\nD y/\nD y/\WJ y s_2 x_2 x_1) (WE y x_1 s_1))/\True)/\True
theorem adb(y:ZCg):WQ y=wpF Tryz.prog arv tt (anCg 2 false y) 200 6 210 ((anj 2 false).args y) (hO 11 (flatP 1 ((anj 2 false).l y))) (λv h'=>endsPK 1 y v h' (anj 2 false).outs):=by kernel_rfl
def WR(y:ZCg):Prop:=
 cP (BEq.beq y.g (0:Int)) (∃s:Unit,Hd True/\True/\KZ y/\nG y/\WI y.a) (∃s:Unit,Hd True/\True/\(y.gr=y.g/\True)/\nG y/\WI y.a)/\(∀s:Unit,Hd True->(ES y.x.value/\zI y.x.key)/\zI y.x.value/\True/\ ∃x:ZBlk,La x/\((x.cls=y.x.cls/\x.kind=1/\x.id=y.x.old.id/\qh x.ver y.a.ver/\x.epoch=y.e/\x.key=y.x.key/\x.value=y.x.value/\True)/\True)/\True/\(∀y_1:Unit,Hd (x.cls=0)->(0:Int)<=64/\Lc/\zA y.ln/\ ∃x_1:lX,zG x_1/\zB x_1 y.ln/\KY x_1 y.a.d x/\ ∀y_2:Unit,True->True/\(∃s_1:Nat,vJ s_1 y/\True/\uI s_1/\zy x/\kM y/\kM y/\kM y/\nG y/\nG y/\WO y s_1 x_1)/\(∀s_1:Nat,vJ s_1 y->cP (decide ((s_1:Int)<spn y.x.cls)) (uH y.ln s_1/\ ∃x_2:akj,zH x_2/\zF x_2 y s_1/\zD x_2.k y s_1/\ ∀y_3:Unit,True->True/\I64 ((s_1:Int)+1)/\ ∃s_2:Nat,vJ s_2 y/\ZBlk.dJ (y.blk (2:Int) true)-s_2<ZBlk.dJ (y.blk (2:Int) true)-s_1/\zJ s_2 s_1/\zy x/\kM y/\kM y/\kM y/\nG y/\nG y/\WL y s_2 x_2 x_1) (Wx y x_1 s_1))/\True)/\ ∀y_1:Unit,Hd (x.cls≠(0:Int))->(0:Int)<=64/\Ld x/\zA y.ln/\ ∃x_1:lX,zG x_1/\zB x_1 y.ln/\CB x_1 y.a.d x/\ ∀y_2:Unit,True->True/\(∃s_1:Nat,vJ s_1 y/\True/\uI s_1/\zC x/\kM y/\kM y/\kM y/\nG y/\nG y/\WO y s_1 x_1)/\(∀s_1:Nat,vJ s_1 y->cP (decide ((s_1:Int)<spn y.x.cls)) (uH y.ln s_1/\ ∃x_2:akj,zH x_2/\zF x_2 y s_1/\zD x_2.k y s_1/\ ∀y_3:Unit,True->True/\I64 ((s_1:Int)+1)/\ ∃s_2:Nat,vJ s_2 y/\
 ZBlk.dJ (y.blk (2:Int) true)-s_2<ZBlk.dJ (y.blk (2:Int) true)-s_1/\zJ s_2 s_1/\zC x/\kM y/\kM y/\kM y/\nG y/\nG y/\WL y s_2 x_2 x_1) (Wx y x_1 s_1))/\True)/\True
theorem ade(y:ZCg):WR y=wpF Tryz.prog arv tt (anCg 2 true y) 200 6 210 ((anj 2 true).args y) (hO 11 (flatP 1 ((anj 2 true).l y))) (λv h'=>endsPK 1 y v h' (anj 2 true).outs):=by kernel_rfl
theorem Le{n:Nat}{e:Nat->ZEff}{E:ZEff}{cs:List Value}(h:cs=E.cs)(q:Nat):(if q=n then E else e q:ZEff).cs=Cs.eff (λi=>(e i).cs) [(n,List.take 7 cs)] q:=by
 subst h;show _=bif Nat.beq q n then List.take 7 E.cs else(e q).cs;rw[dA];by_cases hq:q=n
 ·rw[if_pos hq,decide_eq_true hq];rfl
 ·rw[if_neg hq,decide_eq_false hq];rfl
theorem aoJ{y:ZCg}(h1:0<=y.a.ver)(h2:y.a.ver<1152921504606846976)(h3:0<=y.g)(h4:y.g<1152921504606846977):I64 y.gr:=by
 unfold ZCg.gr I64;split<;>omega
theorem Rz(y:ZCg)(hy:y.ok 2 true):WR y:=by
 obtain⟨o1,o2,o3,o4,o5,o6,o7,o8,o9,o10,o11,o12,o13,o14,o15,o16,o17,o18,o19,o20⟩:=hy;obtain⟨p1,p2,p3⟩:=o18 rfl;have o19:=o19 rfl;have w1:IntKind.u64.wrap (y.a.ver+1)=y.a.ver+1:=jc (by omega) (by omega);have w2:IntKind.u64.wrap (y.a.id+1)=y.a.id+1:=jc (by omega) (by omega);have hg:=aoJ o10 o11 o14 o15;have hs8:=vF (y.blk 2 true);have hsc:((y.blk 2 true).dJ:Int)=spn y.x.cls:=hs8.2;have hsp:=yx o7;have hd: ∀N,(⟨y.a.d,y.ln,0,⟨(y.blk 2 true).enc,0,64,N⟩⟩:lX).d.store y.ln 0 64 (λq=>(y.blk 2 true).enc (0+q))=y.a.d.store y.ln 0 64 (y.blk 2 true).enc:=λ_=>ZQ _ _ _ _ _
 unfold WR;simp only[KZ,nG,WI,ES,zI,La,qh,Lc,zA,zG,zB,KY,vJ,uI,zy,kM,WO,uH,zH,zF,zD,zJ,WL,Wx,Ld,CB,zC,KX,ER,aiC,KQ,vH,KP,EP,KR,zx,rU,yD,Wv,Ba,KW,WG,KT,WB,EO,KU,aiD,aao];simp only[aZ,aV,aU,aA,aI,bQ,bF,aO,aK,ay,aX,aW,bU,bG,bH,bI,bV,bC,bJ,bn,eG,aH,aN,ah,ak,aB,aF,aC,aG,w1,w2];refine⟨bf (λh=> ?_) λh=> ?_,y.blk 2 true,⟨o7,o8,o9⟩,⟨rfl,rfl,rfl,rfl,rfl,rfl,rfl⟩,λh0=> ?_,λh0=> ?_⟩
 ·have h:=beq_iff_eq.1 h
  unfold ZCg.gr;rw[if_pos h]
 ·have h:=beq_eq_false_iff_ne.1 h
  unfold ZCg.gr;rw[if_neg h]
 ·refine⟨by decide,⟨by decide,by decide⟩,⟨y.a.d,y.ln,0,⟨(y.blk 2 true).enc,0,64,64⟩⟩,⟨o1,o5,⟨aY _,by show 64<1099511627776;decide,yu o7⟩,aY _⟩,⟨rfl,rfl,rfl,rfl⟩,⟨rfl,rfl,λ_ _=>rfl⟩,⟨0,Nat.zero_le _,rfl,rfl⟩,λs hs=>bf (λh=> ?_) λh=> ?_⟩
  ·have h:=aS h
   exact⟨by unfold I64;omega,⟨⟨y.a.c.notes y.t y.ln s,y.a.ph⟩,y.t,y.ln+s⟩,⟨o3,yw o2 o17 _ _ (by omega),by show y.t<(y.a.c.notes y.t y.ln s).t;rw[qV];exact o4⟩,⟨rfl,rfl⟩,rfl,by unfold I64;omega,s+1,by omega,by omega,by omega,rfl⟩
  ·have h:=aT h
   have hs:s<=(y.blk 2 true).dJ:=hs;obtain rfl:s=(y.blk 2 true).dJ:=by omega
   exact⟨hg,⟨y.a.L,y.lnk 2 true⟩,⟨o8,o19⟩,⟨rfl,rfl,rfl,rfl,rfl⟩,rfl,⟨y.a.L,y.lnk 2 true⟩,⟨o8,Nat.le_trans o19 (by decide)⟩,⟨rfl,rfl,rfl,rfl,rfl⟩,rfl,y.a.r,p2,rfl,⟨y.a.b,y.ent 2⟩,⟨p1,p3⟩,⟨rfl,rfl,rfl,rfl,rfl⟩,rfl,rfl,by omega,⟨rfl,rfl⟩,(congrArg (λd=>ownM (DevM.os d)) (hd 64)).symm,rfl,rfl,rfl,rfl,rfl,rfl,rfl,rfl,λq _=>Le (E:=y.eff 2 true) rfl q⟩
 ·refine⟨by decide,⟨by decide,by omega⟩,⟨y.a.d,y.ln,0,⟨(y.blk 2 true).enc,0,64,64*(y.blk 2 true).dJ⟩⟩,⟨o1,o5,⟨by show 0+64<=64*(y.blk 2 true).dJ;omega,by show 64<1099511627776;decide,yu o7⟩,aY _⟩,⟨rfl,rfl,rfl,rfl⟩,⟨rfl,rfl,λ_ _=>rfl⟩,⟨0,Nat.zero_le _,rfl,rfl⟩,λs hs=>bf (λh=> ?_) λh=> ?_⟩
  ·have h:=aS h
   exact⟨by unfold I64;omega,⟨⟨y.a.c.notes y.t y.ln s,y.a.ph⟩,y.t,y.ln+s⟩,⟨o3,yw o2 o17 _ _ (by omega),by show y.t<(y.a.c.notes y.t y.ln s).t;rw[qV];exact o4⟩,⟨rfl,rfl⟩,rfl,by unfold I64;omega,s+1,by omega,by omega,by omega,rfl⟩
  ·have h:=aT h
   have hs:s<=(y.blk 2 true).dJ:=hs;obtain rfl:s=(y.blk 2 true).dJ:=by omega
   exact⟨hg,⟨y.a.L,y.lnk 2 true⟩,⟨o8,o19⟩,⟨rfl,rfl,rfl,rfl,rfl⟩,rfl,⟨y.a.L,y.lnk 2 true⟩,⟨o8,Nat.le_trans o19 (by decide)⟩,⟨rfl,rfl,rfl,rfl,rfl⟩,rfl,y.a.r,p2,rfl,⟨y.a.b,y.ent 2⟩,⟨p1,p3⟩,⟨rfl,rfl,rfl,rfl,rfl⟩,rfl,rfl,by omega,⟨rfl,rfl⟩,(congrArg (λd=>ownM (DevM.os d)) (hd (64*(y.blk 2 true).dJ))).symm,rfl,rfl,rfl,rfl,rfl,rfl,rfl,rfl,λq _=>Le (E:=y.eff 2 true) rfl q⟩
theorem RD(y:ZCg)(hy:y.ok 2 false):WQ y:=by
 obtain⟨o1,o2,o3,o4,o5,o6,o7,o8,o9,o10,o11,o12,o13,o14,o15,o16,o17,o18,o19,o20⟩:=hy;have o19:=o19 rfl;have w1:IntKind.u64.wrap (y.a.ver+1)=y.a.ver+1:=jc (by omega) (by omega);have w2:IntKind.u64.wrap (y.a.id+1)=y.a.id+1:=jc (by omega) (by omega);have hg:=aoJ o10 o11 o14 o15;have hs8:=vF (y.blk 2 false);have hsc:((y.blk 2 false).dJ:Int)=spn y.x.cls:=hs8.2;have hsp:=yx o7;have hd: ∀N,(⟨y.a.d,y.ln,0,⟨(y.blk 2 false).enc,0,64,N⟩⟩:lX).d.store y.ln 0 64 (λq=>(y.blk 2 false).enc (0+q))=y.a.d.store y.ln 0 64 (y.blk 2 false).enc:=λ_=>ZQ _ _ _ _ _
 unfold WQ;simp only[KZ,nD,WH,ES,zI,La,qh,Lc,zA,zG,zB,KY,vI,uI,zy,kN,WM,uH,zH,zF,zD,zJ,WJ,WE,Ld,CB,zC,KX,WC,KQ,vH,KP,EP,KR,zx,rU,yD,ER,Ba,KW,WA,KT,Wy,EO,KU,aiE,aao];simp only[aZ,aV,aU,aA,aI,bQ,bF,aO,aK,ay,aX,aW,bU,bG,bH,bI,bV,bC,bJ,bn,eG,aH,aN,ah,ak,aB,aF,aC,aG,w1,w2];refine⟨bf (λh=> ?_) λh=> ?_,y.blk 2 false,⟨o7,o8,o9⟩,⟨rfl,rfl,rfl,rfl,rfl,rfl,rfl⟩,λh0=> ?_,λh0=> ?_⟩
 ·have h:=beq_iff_eq.1 h
  unfold ZCg.gr;rw[if_pos h]
 ·have h:=beq_eq_false_iff_ne.1 h
  unfold ZCg.gr;rw[if_neg h]
 ·refine⟨by decide,⟨by decide,by decide⟩,⟨y.a.d,y.ln,0,⟨(y.blk 2 false).enc,0,64,64⟩⟩,⟨o1,o5,⟨aY _,by show 64<1099511627776;decide,yu o7⟩,aY _⟩,⟨rfl,rfl,rfl,rfl⟩,⟨rfl,rfl,λ_ _=>rfl⟩,⟨0,Nat.zero_le _,rfl,rfl⟩,λs hs=>bf (λh=> ?_) λh=> ?_⟩
  ·have h:=aS h
   exact⟨by unfold I64;omega,⟨⟨y.a.c.notes y.t y.ln s,y.a.ph⟩,y.t,y.ln+s⟩,⟨o3,yw o2 o17 _ _ (by omega),by show y.t<(y.a.c.notes y.t y.ln s).t;rw[qV];exact o4⟩,⟨rfl,rfl⟩,rfl,by unfold I64;omega,s+1,by omega,by omega,by omega,rfl⟩
  ·have h:=aT h
   have hs:s<=(y.blk 2 false).dJ:=hs;obtain rfl:s=(y.blk 2 false).dJ:=by omega
   exact⟨hg,⟨y.a.L,y.lnk 2 false⟩,⟨o8,o19⟩,⟨rfl,rfl,rfl,rfl,rfl⟩,rfl,⟨y.a.L,y.lnk 2 false⟩,⟨o8,Nat.le_trans o19 (by decide)⟩,⟨rfl,rfl,rfl,rfl,rfl⟩,rfl,rfl,by omega,⟨rfl,rfl⟩,(congrArg (λd=>ownM (DevM.os d)) (hd 64)).symm,rfl,rfl,rfl,rfl,rfl,rfl,rfl,λq _=>Le (E:=y.eff 2 false) rfl q⟩
 ·refine⟨by decide,⟨by decide,by omega⟩,⟨y.a.d,y.ln,0,⟨(y.blk 2 false).enc,0,64,64*(y.blk 2 false).dJ⟩⟩,⟨o1,o5,⟨by show 0+64<=64*(y.blk 2 false).dJ;omega,by show 64<1099511627776;decide,yu o7⟩,aY _⟩,⟨rfl,rfl,rfl,rfl⟩,⟨rfl,rfl,λ_ _=>rfl⟩,⟨0,Nat.zero_le _,rfl,rfl⟩,λs hs=>bf (λh=> ?_) λh=> ?_⟩
  ·have h:=aS h
   exact⟨by unfold I64;omega,⟨⟨y.a.c.notes y.t y.ln s,y.a.ph⟩,y.t,y.ln+s⟩,⟨o3,yw o2 o17 _ _ (by omega),by show y.t<(y.a.c.notes y.t y.ln s).t;rw[qV];exact o4⟩,⟨rfl,rfl⟩,rfl,by unfold I64;omega,s+1,by omega,by omega,by omega,rfl⟩
  ·have h:=aT h
   have hs:s<=(y.blk 2 false).dJ:=hs;obtain rfl:s=(y.blk 2 false).dJ:=by omega
   exact⟨hg,⟨y.a.L,y.lnk 2 false⟩,⟨o8,o19⟩,⟨rfl,rfl,rfl,rfl,rfl⟩,rfl,⟨y.a.L,y.lnk 2 false⟩,⟨o8,Nat.le_trans o19 (by decide)⟩,⟨rfl,rfl,rfl,rfl,rfl⟩,rfl,rfl,by omega,⟨rfl,rfl⟩,(congrArg (λd=>ownM (DevM.os d)) (hd (64*(y.blk 2 false).dJ))).symm,rfl,rfl,rfl,rfl,rfl,rfl,rfl,λq _=>Le (E:=y.eff 2 false) rfl q⟩
theorem aap:dX Tryz.prog arv:= .append dQ (.cons Cm (.cons (bM aot) (.cons (bM P9) (.cons (bM anh) (.cons (bM ara) (.cons (bM arb) (.cons (bM aiB) (.cons (bM amI) (.cons (bM Vf) (.cons (bM abZ) (.cons (bM agK) (.cons (bM as3) .nil))))))))))))
theorem anl:bZ Tryz.prog 210 (anj 2 false).ctr:=cO dD mixed aap 11 (anCg 2 false) 200 6 (λ_=>⟨rfl,rfl,rfl,rfl⟩) λx hx=>Eq.mp (adb x) (RD x (aZ.1 hx))
theorem anm:bZ Tryz.prog 210 (anj 2 true).ctr:=cO dD mixed aap 11 (anCg 2 true) 200 6 (λ_=>⟨rfl,rfl,rfl,rfl⟩) λx hx=>Eq.mp (ade x) (Rz x (aZ.1 hx))
def atT(d p r c b t o l i v:AV):dB:= .ro (.av [d,p,r,c,b,t,o,l,i,v,.any])
structure rV where
 b:iy
 l:ZLn
 L:Lks
 k:Int
namespace rV
def inT(x:rV):Prop:= ∃i,i<x.L.length/\(nthL x.L i).line=x.k
def inL(x:rV):Prop:= ∃i,i<x.l.n/\(x.l.get i).line=x.k
def inB(x:rV):Prop:= ∃i,i<x.b.n/\((x.b.e i).line=x.k\/(x.b.e i).anti=x.k)
def used(x:rV):Prop:=x.inT\/x.inL\/x.inB
noncomputable def os(x:rV):List dB:=[atT .any .any .any .any (.ptr 1 0) (.ptr 2 0) .any (.ptr 3 0) .any .any,.abs (ownM x.b.os),.abs (tabA x.L),.abs (ownM x.l.os)]
def nth(x:rV)(i:Nat):ZLnk:=if i<x.L.length then nthL x.L i else x.l.get (i-x.L.length)
end rV
noncomputable def WS:Ctr:={X:=rV,args:=λx=>[.ptr 0 0,i64 x.k],k:=4,os:=rV.os,pre:=λx=>Hd (x.b.ok/\x.l.ok/\x.l.n<1099511627776/\x.L.length<=300),outs:=[
 {Y:=Unit,post:=λx _=>Hd x.used,ret:=λ_ _=>boo true,m:=4,os:=λx _=>x.os},
 {Y:=Unit,post:=λx _=>Hd (¬x.used),ret:=λ_ _=>boo false,m:=4,os:=λx _=>x.os}]}
def aiF(x:rV):FuncId->pX:=λf=>bif Nat.beq f 247 then(λb _ h=>bif Nat.beq b 2000 then [
 {σ:=Bool,fr:=λz=>[(19,.slV z h.next 5 (x.L.length+x.l.n)),(20,i64 (x.L.length+x.l.n:Nat)),(21,i64 0)],ob:=λz=>[(h.next,some (.gY z 41 (.row 5 (x.L.length+x.l.n) (λj=>(x.nth j).cs) [])))],nx:=1,inv:=λ_=>Hd True,meas:=λ_=>0}]else bif Nat.beq b 0 then [
 {σ:=Nat,fr:=λi=>[(21,i64 i)],ob:=λ_=>[],inv:=λi=>Hd (i<=x.L.length+x.l.n/\ ∀j,j<i->(x.nth j).line≠x.k),meas:=λi=>x.L.length+x.l.n-i}]else bif Nat.beq b 2 then [
 {σ:=Nat,fr:=λi=>[(36,i64 i)],ob:=λ_=>[],inv:=λi=>Hd (i<=x.b.n/\ ∀j,j<i->(x.b.e j).line≠x.k/\(x.b.e j).anti≠x.k),meas:=λi=>x.b.n-i}]else [])elseλ_ _ _=>[]
noncomputable def atU:jd:=[(68,ctrT allT.C),(70,ctrT ZA.ctr),(278,ctrT agJ.ctr)]
def aaq(a:Bool)(b:rV):Prop:=a=a/\List.length b.L+b.l.n=List.length b.L+b.l.n/\ ∀q:Nat,q<List.length b.L+b.l.n->[Value.string (ZLnk.key (b.nth q)),Value.int .u64 (ZLnk.id (b.nth q)),Value.int .u64 (ZLnk.ver (b.nth q)),Value.int .i64 (ZLnk.line (b.nth q)),Value.int .i64 (ZLnk.cls (b.nth q))]=[Value.string (ZLnk.key (b.nth q)),Value.int .u64 (ZLnk.id (b.nth q)),Value.int .u64 (ZLnk.ver (b.nth q)),Value.int .i64 (ZLnk.line (b.nth q)),Value.int .i64 (ZLnk.cls (b.nth q))]
def RF:Prop:=True/\True/\True/\True/\0=0/\0=0/\True/\0=0/\True/\True/\True/\True
def Lh(a:iy):Prop:=ownM a.os=ownM a.os
def zK(a:iy):Prop:=Lh a/\RF/\True
def aiG(a:Bool)(b:rV)(c:Lks)(d:ZLn):Prop:=True/\ ∃s:Bool,Hd True/\True/\((s=a/\List.length b.L+b.l.n=List.length c)/\((List.length b.L+b.l.n:Nat):Int)=((List.length c:Nat):Int)/\(0:Int)=0/\True)/\(s=a/\List.length b.L+b.l.n=List.length c/\ ∀q:Nat,q<List.length b.L+b.l.n->[Value.string (ZLnk.key (b.nth q)),Value.int .u64 (ZLnk.id (b.nth q)),Value.int .u64 (ZLnk.ver (b.nth q)),Value.int .i64 (ZLnk.line (b.nth q)),Value.int .i64 (ZLnk.cls (b.nth q))]=[Value.string (ZLnk.key (nthL c q)),Value.int .u64 (ZLnk.id (nthL c q)),Value.int .u64 (ZLnk.ver (nthL c q)),Value.int .i64 (ZLnk.line (nthL c q)),Value.int .i64 (ZLnk.cls (nthL c q))])/\ownM b.l.os=ownM d.os/\tabA b.L=tabA c/\zK b.b
def Lj(a:rV):Prop:=tabA a.L=tabA a.L/\ownM a.l.os=ownM a.l.os/\True
def ET(a:rV)(b:iy):Prop:=RF/\ownM a.b.os=ownM b.os/\Lj a
def WT(a:iy)(b:Bool)(c:rV):Prop:=(a.n=a.n/\ ∀q:Nat,q<a.n->[Value.int .i64 (gZ.line (a.e q)),Value.int .i64 (gZ.cls (a.e q)),Value.int .u64 (gZ.r (a.e q)),Value.int .u64 (gZ.d (a.e q)),Value.int .i64 (gZ.anti (a.e q))]=[Value.int .i64 (gZ.line (a.e q)),Value.int .i64 (gZ.cls (a.e q)),Value.int .u64 (gZ.r (a.e q)),Value.int .u64 (gZ.d (a.e q)),Value.int .i64 (gZ.anti (a.e q))])/\aaq b c/\ownM c.l.os=ownM c.l.os/\tabA c.L=tabA c.L/\zK a
def zL(a:Nat)(b:rV):Prop:=Hd (a<=b.b.n/\ ∀j:Nat,j<a->gZ.line (b.b.e j)≠b.k/\gZ.anti (b.b.e j)≠b.k)
def Ll(a:Nat)(b:rV):Prop:=Hd (a<=List.length b.L+b.l.n/\ ∀j:Nat,j<a->ZLnk.line (b.nth j)≠b.k)
def WU(a:rV)(b:iy):Prop:=(∃y_1:Unit,Hd a.used/\true=false/\ET a b)\/ ∃y_1:Unit,Hd (Not a.used)/\false=false/\ET a b
def WV(a:rV)(b:iy):Prop:=(∃y_1:Unit,Hd a.used/\true=true/\ET a b)\/ ∃y_1:Unit,Hd (Not a.used)/\false=true/\ET a b
def WW(a:Bool)(b:rV):Prop:=aaq a b/\ownM b.l.os=ownM b.l.os/\tabA b.L=tabA b.L/\zK b.b
def WX(x:rV):Prop:=
 (∃x_1:ZLq,True/\(0=0/\True)/\(tabA x_1.L=tabA x.L/\True)/\ ∀y:Bool,Hd (y=true->x_1.L= @List.nil ZLnk)->(AV.ptr 3 0=AV.ptr 3 0/\True)/\ ∃x_2:ZLn,Hd x_2.ok/\(0=0/\True)/\(ownM x_2.os=ownM x.l.os/\True)/\(∀y_1:Unit,Hd (x_2.n=0)->True/\y=y/\List.length x_1.L=List.length x_1.L/\aiG y x x_1.L x_2)/\ ∀y_1:Unit,Hd (x_2.n≠0)->True/\y=y/\List.length x_1.L=List.length x_1.L/\0+x_2.n<=x_2.n/\cP (Nat.beq x_2.n 0) (aiG y x x_1.L x_2) ((∀k:Nat,k<x_2.n->(Nat.beq (List.length [Value.string (ZLnk.key (x_2.get (0+k))),Value.int .u64 (ZLnk.id (x_2.get (0+k))),Value.int .u64 (ZLnk.ver (x_2.get (0+k))),Value.int .i64 (ZLnk.line (x_2.get (0+k))),Value.int .i64 (ZLnk.cls (x_2.get (0+k)))]) 5&&List.all [Value.string (ZLnk.key (x_2.get (0+k))),Value.int .u64 (ZLnk.id (x_2.get (0+k))),Value.int .u64 (ZLnk.ver (x_2.get (0+k))),Value.int .i64 (ZLnk.line (x_2.get (0+k))),Value.int .i64 (ZLnk.cls (x_2.get (0+k)))] Value.oneCell')=true)/\(2*(List.length x_1.L+x_2.n)+1000)*48<=281474976710656/\True/\ ∃s:Bool,Hd True/\True/\((s=false/\List.length x.L+x.l.n=List.length x_1.L+x_2.n)/\((List.length x.L+x.l.n:Nat):Int)=((List.length x_1.L+x_2.n:Nat):Int)/\(0:Int)=0/\True)/\(s=false/\List.length x.L+x.l.n=List.length x_1.L+x_2.n/\
 ∀q:Nat,q<List.length x.L+x.l.n->[Value.string (ZLnk.key (x.nth q)),Value.int .u64 (ZLnk.id (x.nth q)),Value.int .u64 (ZLnk.ver (x.nth q)),Value.int .i64 (ZLnk.line (x.nth q)),Value.int .i64 (ZLnk.cls (x.nth q))]=Cs.eff (λ(q_1:Nat)=>cond (Nat.blt q_1 (List.length x_1.L)) [Value.string (ZLnk.key (nthL x_1.L q_1)),Value.int .u64 (ZLnk.id (nthL x_1.L q_1)),Value.int .u64 (ZLnk.ver (nthL x_1.L q_1)),Value.int .i64 (ZLnk.line (nthL x_1.L q_1)),Value.int .i64 (ZLnk.cls (nthL x_1.L q_1))] [Value.string (ZLnk.key (x_2.get (0+(q_1-List.length x_1.L)))),Value.int .u64 (ZLnk.id (x_2.get (0+(q_1-List.length x_1.L)))),Value.int .u64 (ZLnk.ver (x_2.get (0+(q_1-List.length x_1.L)))),Value.int .i64 (ZLnk.line (x_2.get (0+(q_1-List.length x_1.L)))),Value.int .i64 (ZLnk.cls (x_2.get (0+(q_1-List.length x_1.L))))]) [] q)/\ownM x.l.os=ownM x_2.os/\tabA x.L=tabA x_1.L/\zK x.b))/\(∀s:Bool,Hd True->(∃s_1:Nat,Ll s_1 x/\True/\((s_1:Int)=0/\True)/\WW s x)/\(∀s_1:Nat,Ll s_1 x->cP (decide ((s_1:Int)<((List.length x.L+x.l.n:Nat):Int))) ((0<=(s_1:Int)/\(s_1:Int)<((List.length x.L+x.l.n:Nat):Int))/\0+s_1<List.length x.L+x.l.n/\cP (BEq.beq (ZLnk.line (x.nth (0+s_1))) x.k) ((∃y:Unit,Hd x.used/\true=true/\RF/\Lh x.b/\Lj x)\/ ∃y:Unit,Hd (Not x.used)/\false=true/\RF/\Lh x.b/\Lj x) (I64 ((s_1:Int)+1)/\ ∃s_2:Nat,Ll s_2 x/\List.length x.L+x.l.n-s_2<List.length x.L+x.l.n-s_1/\((s_2:Int)=(s_1:Int)+1/\True)/\WW s x)) (∃x_1:iy,Hd x_1.ok/\(0=0/\True)/\(ownM x_1.os=ownM x.b.os/\True)/\(∀y:Unit,Hd (x_1.n=0)->(∃s_2:Nat,zL s_2 x/\True/\((s_2:Int)=0/\True)/\
 aaq s x/\ownM x.l.os=ownM x.l.os/\tabA x.L=tabA x.L/\zK x_1)/\(∀s_2:Nat,zL s_2 x->WU x x_1)/\True)/\ ∀y:Unit,Hd True->(∃s_2:Nat,zL s_2 x/\True/\((s_2:Int)=0/\True)/\WT x_1 s x)/\(∀s_2:Nat,zL s_2 x->cP (decide ((s_2:Int)<(x_1.n:Int))) ((0<=(s_2:Int)/\(s_2:Int)<(x_1.n:Int))/\0+s_2<x_1.n/\cP (BEq.beq (gZ.line (x_1.e (0+s_2))) x.k) (WV x x_1) (cP (BEq.beq (gZ.anti (x_1.e (0+s_2))) x.k) (WV x x_1) (I64 ((s_2:Int)+1)/\ ∃s_3:Nat,zL s_3 x/\x.b.n-s_3<x.b.n-s_2/\((s_3:Int)=(s_2:Int)+1/\True)/\WT x_1 s x))) (WU x x_1))/\True))/\True)/\True
theorem adf(x:rV):WX x=wpF Tryz.prog atU tt (aiF x) 200 6 247 (WS.args x) (hO WS.k (WS.os x)) (λv h'=>eF WS.k x v h' WS.outs):=by kernel_rfl
theorem RG(x:rV)(hx:x.b.ok/\x.l.ok/\x.l.n<1099511627776/\x.L.length<=300):WX x:=by
 obtain⟨hb,hl,hln,hL⟩:=hx;have hbn:=hb.1;have rows:x.l.n=0-> ∀q,q<x.L.length+x.l.n->(x.nth q).cs=(nthL x.L q).cs:=λh0 q hq=>by unfold rV.nth;rw[if_pos (by omega)]
 have no: ∀s,(∀j,j<s->(x.nth j).line≠x.k)->x.L.length+x.l.n<=s-> ¬x.inT/\ ¬x.inL:=λs hs hge=>by
  refine⟨λ⟨i,hi,he⟩=>hs i (by omega) ?_,λ⟨i,hi,he⟩=>hs (x.L.length+i) (by omega) ?_⟩
  ·unfold rV.nth;rw[if_pos hi];exact he
  ·unfold rV.nth;rw[if_neg (by omega),show x.L.length+i-x.L.length=i by omega];exact he
 have yes: ∀s,s<x.L.length+x.l.n->(x.nth s).line=x.k->x.used:=λs hs he=>by
  unfold rV.nth at he;by_cases h:s<x.L.length
  ·rw[if_pos h]at he;exact .inl ⟨s,h,he⟩
  ·rw[if_neg h]at he;exact .inr (.inl ⟨s-x.L.length,by omega,he⟩)
 unfold WX;simp only[aiG,zK,Ll,WW,RF,Lh,Lj,zL,aaq,WU,WT,WV,ET];simp only[aZ,aV,aU,aA,aI,bQ,bF,aO,aK,ay,aX,aW,bU,bG,bH,bI,bV,bC,bJ,bn,eG,aH,aN,ah,ak,aB,aF,aC,aG];refine⟨⟨⟨x.L⟩,rfl,λy hy=>⟨x.l,hl,rfl,λh0=> ?_,λh0=>⟨aY _,bf (λhz=>absurd (au hz) h0) λ_=>⟨λk _=>rfl,by show(2*(x.L.length+x.l.n)+1000)*48<=281474976710656;omega,false,⟨⟨rfl,rfl⟩,rfl⟩,⟨rfl,rfl,λq hq=> ?_⟩,rfl,rfl⟩⟩⟩⟩,λz=>⟨⟨0,⟨Nat.zero_le _,λj hj=>absurd hj (Nat.not_lt_zero j)⟩,rfl⟩,λs hs=>bf (λh=> ?_) λh=> ?_⟩⟩
 ·exact⟨y,⟨⟨rfl,by show x.L.length+x.l.n=x.L.length;omega⟩,by show((x.L.length+x.l.n:Nat):Int)=(x.L.length:Nat);rw[h0,aI]⟩,⟨rfl,by show x.L.length+x.l.n=x.L.length;omega,λq hq=>rows h0 q hq⟩,rfl,rfl⟩
 ·show(x.nth q).cs=bif Nat.blt q x.L.length then(nthL x.L q).cs else(x.l.get (q-x.L.length)).cs
  unfold rV.nth;rw[bT];by_cases h:q<x.L.length
  ·rw[if_pos h,decide_eq_true h];rfl
  ·rw[if_neg h,decide_eq_false h];rfl
 ·have h':s<x.L.length+x.l.n:=by have:=aS h;omega
  refine⟨⟨by omega,by omega⟩,h',bf (λe=> .inl (yes s h' (beq_iff_eq.1 e))) λe=>⟨by unfold I64;omega,s+1,⟨by omega,λj hj=> ?_⟩,by omega,by omega⟩⟩;by_cases hjs:j=s
  ·subst hjs;exact beq_eq_false_iff_ne.1 e
  ·exact hs.2 j (by omega)
 ·have hge:x.L.length+x.l.n<=s:=by have:=aT h;omega
  obtain⟨n1,n2⟩:=no s hs.2 hge;refine⟨x.b,hb,rfl,λh0=>⟨⟨0,⟨Nat.zero_le _,λj hj=>absurd hj (Nat.not_lt_zero j)⟩,rfl⟩,λs1 hs1=> .inr ⟨λhu=> ?_,rfl⟩⟩,⟨0,⟨Nat.zero_le _,λj hj=>absurd hj (Nat.not_lt_zero j)⟩,rfl⟩,λs1 hs1=>bf (λh=> ?_) λh=> ?_⟩
  ·rcases hu with hu|hu|⟨i,hi,_⟩
   ·exact n1 hu
   ·exact n2 hu
   ·omega
  ·have h':s1<x.b.n:=by have:=aS h;omega
   refine⟨⟨by omega,by omega⟩,h',bf (λe=> .inl ⟨.inr (.inr ⟨s1,h',.inl (beq_iff_eq.1 e)⟩),rfl⟩) λe=>bf (λe2=> .inl ⟨.inr (.inr ⟨s1,h',.inr (beq_iff_eq.1 e2)⟩),rfl⟩) λe2=>⟨by unfold I64;omega,s1+1,⟨by omega,λj hj=> ?_⟩,by omega,by omega⟩⟩;by_cases hjs:j=s1
   ·subst hjs;exact⟨beq_eq_false_iff_ne.1 e,beq_eq_false_iff_ne.1 e2⟩
   ·exact hs1.2 j (by omega)
  ·have h': ¬s1<x.b.n:=by have:=aT h;omega
   refine .inr ⟨λhu=> ?_,rfl⟩;rcases hu with hu|hu|⟨i,hi,hh⟩
   ·exact n1 hu
   ·exact n2 hu
   ·exact hh.elim (hs1.2 i (by omega)).1 (hs1.2 i (by omega)).2
theorem ano:dX Tryz.prog atU:= .cons (bM aiu) (.cons (bM Il) (.cons (bM agL) .nil))
theorem aar:bZ Tryz.prog 247 WS:=iZ dD mixed ano aiF 200 6 (λ_=>rfl) (λ_=>⟨λ_=>rfl,λ_=>rfl,trivial⟩) λx hx=>Eq.mp (adf x) (RG x (aZ.1 hx))
def pOf:AV->Nat
 | .ptr i _=>i
 |_=>0
def arw(A:SE.Own)(ids:List Nat)(h:Heap):Heap:=(SE.fQ ids h).set (atL ids 0) (.abs A)
def isAbs:Option dB->Bool
 |some (.abs _)=>true
 |_=>false
def IE(h:Heap)(i:Nat):List Nat:=match h.get i with
 |some (.cells _ (.av [d0,p,r,c,b,t,o,l,_,_,ef]))=>match h.get (pOf d0)with
  |some (.cells _ (.av (d::_)))=>match ef with
   | .slV _ j _ _=>[i,pOf d0,pOf d,pOf p,pOf r,pOf c,pOf b,pOf t,pOf o,pOf l,j]
   |_=>[]
  |_=>[]
 |_=>[]
def atV(a:ZSto)(ids:List Nat)(h:Heap):Prop:=G7 (atL ids) 11 h 0 a.os
noncomputable def aiH(T:WTr):WTr:=λargs h K=>match args with
 | .ptr i z::r=>bif isAbs (h.get i)then T (.ptr i z::r) h K else
  bif Oq 0 (IE h i) (IE h i).length&&Nat.beq (IE h i).length 11 then∃a:ZSto,atV a (IE h i) h/\T (.ptr i z::r) (arw (ownM a.os) (IE h i) h) K else False
 |_=>False
theorem RH{P:Program}{f:FuncId}{T:WTr}(hT: ∀args h K,T args h K->Sp P f args h K)(args:List AV)(h:Heap)(K:AV->Heap->Prop)(hq:aiH T args h K):Sp P f args h K:=by
 unfold aiH at hq;split at hq
 ·rename_i i z r
  cases ha:isAbs (h.get i)<;>rw[ha]at hq
  ·generalize IE h i=ids at hq
   cases hb:(Oq 0 ids ids.length&&Nat.beq ids.length 11)<;>rw[hb]at hq
   ·exact hq.elim
   ·simp only[aJ]at hb
    obtain⟨b1,b2⟩:=hb;obtain⟨a,hs,hq⟩:=hq;have hl:ids.length=11:=au b2;rw[hl]at b1;refine afs (Φ:=λh=>h=hOf a.os) 11 ids a.os rfl rfl b1 rfl hs (hT _ _ _ ?_);have e:wQ (λh=>h=hOf a.os) ids h=arw (ownM a.os) ids h:=by
     unfold wQ arw;rw[pY];rfl
    rw[e];exact hq
  ·exact hT _ _ _ hq
 ·exact hq.elim
structure ZPt where
 a:ZSto
 t:Nat
 e:Int
 x:ZCh
 ln:Nat
namespace ZPt
def cg(y:ZPt):ZCg:=⟨y.a,y.t,y.e,{y.x with line:=y.ln},y.ln,0⟩
def lst(y:ZPt)(k:Int)(had:Bool):dB:= .ro (.av [i64 k,.lit (.string y.x.key),.lit (.string y.x.value),boo had,.lit (.string y.x.old.key),u64 y.x.old.id,u64 y.x.old.ver,i64 y.x.old.line,i64 y.x.old.cls,i64 y.ln,i64 y.x.cls])
def was(y:ZPt)(had:Bool):Prop:=gJ y.a.L y.x.key=(if had=true then some y.x.old else none)
def inP(y:ZPt)(i j:Nat):Prop:=i<y.a.p.n/\0<=y.a.p.cls i/\j<ZPool.many (y.a.p.cls i)/\y.a.p.tk i j=true/\(y.ln:Int)=2+i*8+j*spn (y.a.p.cls i)
def us(y:ZPt):rV:=⟨y.a.b,y.a.l,y.a.L,y.ln⟩
def ok(y:ZPt)(k:Int)(had:Bool):Prop:=y.cg.ok k had/\y.was had/\y.a.c.now=y.e/\y.a.p.ok/\y.a.b.ok/\y.a.l.ok/\y.a.l.n<1099511627776/\y.a.L.length<=300/\(∃i j,y.inP i j/\y.a.p.cls i=y.x.cls)/\(¬y.us.used)/\(k≠2->y.x.cls=0)
def bad(y:ZPt)(had:Bool):Prop:=y.a.c.ok/\y.a.ph<=4/\y.t<y.a.c.t/\y.x.key.size<1099511627776/\(y.a.c.now≠y.e\/ ¬y.was had)
end ZPt
noncomputable def anp(k:Int)(had:Bool):jw:=qC ZPt (λy=>[.ptr 0 0,i64 y.t,u64 y.e,.sl 1 0 1 1]) 2 (λy=>[.m y.a.os,.o (y.lst k had)]) (λy=>Hd (y.ok k had)) (λ_=> .tup [.slW 2 0 1 1,i64 0]) 3 (λy=>[.o (.abs (ownM (y.cg.res k had).os)),.o (y.lst k had),.o (.room 4 (.row 1 1 (λ_=>[.bool had]) []))])
noncomputable def anq(k:Int)(had:Bool):jd:=pJ++[(204,ctrT ars),(45,ctrT aiv),(245,ctrT ar1.C),(246,ctrT ofP.ctr),(247,ctrT WS),(229,ctrT aop),(210,aiH (ctrT (anj k had).ctr))]
noncomputable def yE(k:Int)(had:Bool):Ctr:=det ZPt (λy=>[.ptr 0 0,i64 y.t,u64 y.e,.sl 3 0 1 1]) 4 (λy=>[atT .any .any .any (.ptr 1 0) .any (.ptr 2 0) .any .any .any .any,.abs (ownM y.a.ck.os),.abs (tabA y.a.L),y.lst k had]) (λy=>Hd (y.bad had)) (λ_=> .tup [gV,i64 8]) 4 (λy=>[atT .any .any .any (.ptr 1 0) .any (.ptr 2 0) .any .any .any .any,.abs (ownM y.a.ck.os),.abs (tabA y.a.L),y.lst k had])
def atW:WTr:=λ_ _ _=>False
theorem anr{P:Program}{f:FuncId}(args:List AV)(h:Heap)(K:AV->Heap->Prop)(hq:atW args h K):Sp P f args h K:=hq.elim
noncomputable def arx:jd:=pJ++[(207,atW),(204,ctrT ars),(45,ctrT aiv),(245,ctrT ar1.C)]
def IG(a:ZPt):Prop:=a.x.old.key=a.x.old.key/\a.x.old.id=a.x.old.id/\a.x.old.ver=a.x.old.ver/\a.x.old.line=a.x.old.line/\a.x.old.cls=a.x.old.cls/\(a.ln:Int)=(a.ln:Int)/\a.x.cls=a.x.cls/\True
def EU(a:ZPt):Prop:=a.x.key=a.x.key/\a.x.value=a.x.value/\true=true/\IG a
def Lm:Prop:=true=true/\false=false/\some (dB.cells (145: @TypeId) (Cs.av [AV.ptr 3 0,AV.lit (Value.int .u32 1),AV.lit (Value.int .i32 0),AV.lit (Value.int .u32 0)]))=some (dB.cells (145: @TypeId) (Cs.av [AV.ptr 3 0,AV.lit (Value.int .u32 1),AV.lit (Value.int .i32 0),AV.lit (Value.int .u32 0)]))
def Lp(a:ZSto)(b:ZSto):Prop:=true=true/\false=false/\some (dB.cells (113: @TypeId) (Cs.av [AV.ptr 2 0,AV.ptr 4 0,AV.ptr 5 0,AV.ptr 6 0,AV.ptr 7 0,AV.ptr 8 0,AV.ptr 9 0,AV.ptr 10 0,AV.lit (Value.int .u64 a.id),AV.lit (Value.int .u64 a.ver),AV.slV (Nat.beq a.n 0) 11 7 a.n]))=some (dB.cells (113: @TypeId) (Cs.av [AV.ptr 2 0,AV.ptr 4 0,AV.ptr 5 0,AV.ptr 6 0,AV.ptr 7 0,AV.ptr 8 0,AV.ptr 9 0,AV.ptr 10 0,AV.lit (Value.int .u64 b.id),AV.lit (Value.int .u64 b.ver),AV.slV (Nat.beq b.n 0) 11 7 b.n]))
def iI:Prop:=(0:Int)<=0/\(0:Int)<=0
def Lr(a:rV):Prop:=Hd (a.b.ok/\a.l.ok/\a.l.n<1099511627776/\List.length a.L<=300)
def jY(a:ByteArray):Prop:=AV.lit (Value.string a)=AV.lit (Value.string a)
def Ls(a:ZBlk)(b:ZPt):Prop:=(a.cls=b.x.cls/\a.kind=1/\a.id=1/\a.ver=1/\a.epoch=b.e/\a.key=b.x.key/\a.value=b.x.value/\True)/\True
def aiI:Prop:=(1=1/\ ∀q:Nat,q<1->[Value.bool true]=Cs.eff (λ(x_7:Nat)=>[]) [(0,List.take 1 [Value.bool true])] q)/\True
def rW:Prop:=False/\(0:Int)=1/\True
def zM:Prop:=False/\(0:Int)=3/\True
def zN:Prop:=False/\(0:Int)=10/\True
def Lu:Prop:=(0=0/\1=1)/\(0:Int)=0/\True
def LC(a:ZBlk):Prop:=Hd (a.key.size<1099511627776/\a.value.size<1099511627776)
def LD(a:rV)(b:ZSto)(c:Lks):Prop:=(True/\True/\True/\True/\0=0/\0=0/\True/\0=0/\True/\True/\True/\True)/\ownM a.b.os=ownM b.b.os/\tabA a.L=tabA c/\ownM a.l.os=ownM b.l.os/\True
def LG(a:ZPool)(b:ZPool):Prop:=true=true/\false=false/\some (dB.abs (ownM a.os))=some (dB.abs (ownM b.os))
def LH(a:ZCg)(b:ZPt):Prop:=a.x.old.key=b.x.old.key/\a.x.old.id=b.x.old.id/\a.x.old.ver=b.x.old.ver/\a.x.old.line=b.x.old.line/\a.x.old.cls=b.x.old.cls/\(a.ln:Int)=(b.ln:Int)/\a.x.cls=b.x.cls/\True
def LJ(a:ZSto)(b:ZSto)(c:ZCk)(d:rV):Prop:=(true=true/\false=false/\some (dB.abs (ownM a.r.os))=some (dB.abs (ownM b.r.os)))/\(true=true/\false=false/\some (dB.abs (ownM c.os))=some (dB.abs (ownM b.ck.os)))/\(true=true/\false=false/\some (dB.abs (ownM d.b.os))=some (dB.abs (ownM b.b.os)))/\(true=true/\false=false/\some (dB.abs (tabA d.L))=some (dB.abs (tabA b.L)))/\(true=true/\false=false/\some (dB.abs (ordA a.L))=some (dB.abs (ordA b.L)))/\(true=true/\false=false/\some (dB.abs (ownM d.l.os))=some (dB.abs (ownM b.l.os)))/\(true=true/\false=false/\some (dB.gY (Nat.beq a.n 0) (95: @TypeId) (Cs.row 7 a.n (λ(i:Nat)=>[Value.int .i64 (ZEff.kind (a.e i)),Value.string (ZEff.key (a.e i)),Value.string (ZEff.value (a.e i)),Value.int .u64 (ZEff.id (a.e i)),Value.int .u64 (ZEff.ver (a.e i)),Value.int .u64 (ZEff.epoch (a.e i)),Value.int .i64 (ZEff.group (a.e i))]) (@List.nil (Prod Nat (List Value)))))=some (dB.gY (Nat.beq b.n 0) (95: @TypeId) (Cs.row 7 b.n (λ(i:Nat)=>[Value.int .i64 (ZEff.kind (b.e i)),Value.string (ZEff.key (b.e i)),Value.string (ZEff.value (b.e i)),Value.int .u64 (ZEff.id (b.e i)),Value.int .u64 (ZEff.ver (b.e i)),Value.int .u64 (ZEff.epoch (b.e i)),Value.int .i64 (ZEff.group (b.e i))]) (@List.nil (Prod Nat (List Value))))))/\True
def qj:Prop:=False/\(0:Int)=8/\True
def LK(a:DevM)(b:DevM):Prop:=true=true/\false=false/\some (dB.abs (ownM a.os))=some (dB.abs (ownM b.os))
def kX(a:ZPt):Prop:=False/\((2:Int)=2/\EU a)/\False/\True
def aiJ(a0:ZLnk)(b:ZPt)(c:Lks)(d:ZCk):Prop:=True/\True/\cP (Bool.not (BEq.beq (ByteArray.toList a0.key) (ByteArray.toList b.x.old.key)&&(BEq.beq a0.id b.x.old.id&&(BEq.beq a0.ver b.x.old.ver&&(BEq.beq a0.line b.x.old.line&&(BEq.beq a0.cls b.x.old.cls&&true)))))) (∃y_4:Unit,True/\qj/\kX b) (I64 (1:Int)/\iI/\ ∃x_3:fJ,Hd x_3.ok/\(0=0/\x_3.line=(b.ln:Int)/\True)/\(ownM x_3.p.os=ownM b.a.p.os/\True)/\ ∀y_4:Unit,True->True/\cP (bne (x_3.p.cls x_3.i) b.x.cls) (∃y_5:Unit,True/\rW/\kX b) (∃x_4:rV,Lr x_4/\(0=0/\x_4.k=(b.ln:Int)/\True)/\LD x_4 b.a c/\(∀y_5:Unit,Hd x_4.used-> ∃y_6:Unit,True/\rW/\kX b)/\ ∀y_5:Unit,Hd (Not x_4.used)->I64 (1:Int)/\True/\True/\iI/\(jY b.x.value/\jY b.x.key/\True)/\(jY b.x.value/\True)/\True/\ ∃x_5:ZBlk,LC x_5/\Ls x_5 b/\True/\ ∀y_6:Unit,True->cP (Bool.not x_5.N8) (∃y_7:Unit,True/\zM/\kX b) (cP (bne b.x.cls b.x.cls) (∃y_7:Unit,True/\zM/\kX b) (cP (decide (IntKind.wrap .u64 (b.a.ver+1)>(2305843009213693952:Int))) (I64 (1:Int)/\ ∃y_7:Unit,True/\zN/\kX b) (I64 (1:Int)/\cP (decide (b.a.id>(2305843009213693952:Int))) (∃y_7:Unit,True/\zN/\kX b) (iI/\1002<=281474976710656/\ ∃a:ZSto,(Lp b.a a/\Lm/\LK b.a.d a.d/\LG x_3.p a.p/\LJ b.a a d x_4)/\ ∃x_6:ZCg,Hd (x_6.ok (2:Int) true)/\(0=0/\(x_6.t:Int)=(b.t:Int)/\x_6.e=b.e/\((2:Int)=2/\x_6.x.key=b.x.key/\x_6.x.value=b.x.value/\true=true/\LH x_6 b)/\x_6.g=0/\True)/\(ownM x_6.a.os=ownM a.os/\True)/\ ∀y_7:Unit,True->I64 (1:Int)/\ ∃y_8:Unit,True/\Lu/\
 ownM (ZSto.os (b.cg.res (2:Int) true))=ownM (ZSto.os (x_6.res (2:Int) true))/\((2:Int)=2/\EU b)/\aiI))))))
def vK(a:ZPt):Prop:=(2:Int)=2/\a.x.key=a.x.key/\a.x.value=a.x.value/\false=false/\IG a
def nH(a:ZPt):Prop:=False/\vK a/\False/\True
def aiK(a0:ZPt)(b:Lks)(c:ZCk):Prop:=True/\True/\I64 (1:Int)/\iI/\ ∃x_3:fJ,Hd x_3.ok/\(0=0/\x_3.line=(a0.ln:Int)/\True)/\(ownM x_3.p.os=ownM a0.a.p.os/\True)/\ ∀y_4:Unit,True->True/\cP (bne (x_3.p.cls x_3.i) a0.x.cls) (∃y_5:Unit,True/\rW/\nH a0) (∃x_4:rV,Lr x_4/\(0=0/\x_4.k=(a0.ln:Int)/\True)/\LD x_4 a0.a b/\(∀y_5:Unit,Hd x_4.used-> ∃y_6:Unit,True/\rW/\nH a0)/\ ∀y_5:Unit,Hd (Not x_4.used)->I64 (1:Int)/\True/\True/\iI/\(jY a0.x.value/\jY a0.x.key/\True)/\(jY a0.x.value/\True)/\True/\ ∃x_5:ZBlk,LC x_5/\Ls x_5 a0/\True/\ ∀y_6:Unit,True->cP (Bool.not x_5.N8) (∃y_7:Unit,True/\zM/\nH a0) (cP (bne a0.x.cls a0.x.cls) (∃y_7:Unit,True/\zM/\nH a0) (cP (decide (IntKind.wrap .u64 (a0.a.ver+1)>(2305843009213693952:Int))) (I64 (1:Int)/\ ∃y_7:Unit,True/\zN/\nH a0) (I64 (1:Int)/\cP (decide (IntKind.wrap .u64 (a0.a.id+1)>(2305843009213693952:Int))) (∃y_7:Unit,True/\zN/\nH a0) (iI/\1002<=281474976710656/\ ∃a:ZSto,(Lp a0.a a/\Lm/\LK a0.a.d a.d/\LG x_3.p a.p/\LJ a0.a a c x_4)/\ ∃x_6:ZCg,Hd (x_6.ok (2:Int) false)/\(0=0/\(x_6.t:Int)=(a0.t:Int)/\x_6.e=a0.e/\((2:Int)=2/\x_6.x.key=a0.x.key/\x_6.x.value=a0.x.value/\false=false/\LH x_6 a0)/\x_6.g=0/\True)/\(ownM x_6.a.os=ownM a.os/\True)/\ ∀y_7:Unit,True->I64 (1:Int)/\ ∃y_8:Unit,True/\Lu/\ownM (ZSto.os (a0.cg.res (2:Int) false))=ownM (ZSto.os (x_6.res (2:Int) false))/\vK a0/\(1=1/\ ∀q:Nat,q<1->[Value.bool false]=Cs.eff (λ(x_7:Nat)=>[]) [(0,List.take 1 [Value.bool false])] q)/\True)))))
def rX:Prop:=True/\True/\True/\0=0/\True/\0=0/\True/\True/\True/\True/\True/\True
def EW:Prop:=Value.slice none 0 0=Value.slice none 0 0
def zO:Prop:=EW/\(8:Int)=8/\True
def rY(a:ZSto)(b:ZCk):Prop:=ownM a.ck.os=ownM b.os
def LM(a:ZPt)(b:ZCk)(c:Lks):Prop:= ∃y_4:Unit,True/\zO/\rX/\rY a.a b/\tabA a.a.L=tabA c/\((2:Int)=2/\EU a)/\True
def WY(a:ZLnk)(b:ZPt)(c:ZCk)(d:Lks):Prop:=True/\True/\cP (Bool.not (BEq.beq (ByteArray.toList a.key) (ByteArray.toList b.x.old.key)&&(BEq.beq a.id b.x.old.id&&(BEq.beq a.ver b.x.old.ver&&(BEq.beq a.line b.x.old.line&&(BEq.beq a.cls b.x.old.cls&&true)))))) (LM b c d) (I64 (1:Int)/\False)
def kY(a:ZTq):Prop:=Hd (gJ a.L a.s= @Option.none ZLnk)
def kZ(a:ByteArray):Prop:=Hd (a.size<1099511627776)
def lg(a:ZCk):Prop:=Hd (a.ph<=4/\a.c.ok)
def lq(a:ZTq)(b:ZLnk):Prop:=Hd (gJ a.L a.s=some b)
def lu(a:Lks)(b:Lks):Prop:=tabA a=tabA b/\True
def lC(a:ByteArray)(b:ByteArray):Prop:=0=0/\a=b/\True
def rZ(a:ZCk)(b:ZSto):Prop:=ownM a.os=ownM b.ck.os/\True
def WZ(a:ZPt)(b:ZCk)(c:Lks):Prop:=True/\True/\ ∃y_4:Unit,True/\zO/\rX/\rY a.a b/\tabA a.a.L=tabA c/\vK a/\True
def su(a:ZCk)(b:ZCk):Prop:=ownM a.os=ownM b.os/\True
def W9(y:ZPt):Prop:=
 ∃x:ZCk,lg x/\(0=0/\True)/\rZ x y.a/\ ∀y_1:Unit,True->cP (decide ((y.t:Int)>=(x.c.t:Int))) (∃y_2:Unit,True/\rW/\nH y) (iI/\I64 (1:Int)/\ ∃x_1:ZCk,lg x_1/\(0=0/\True)/\su x_1 x/\ ∀y_2:Unit,True->cP (bne x_1.c.now y.e) (∃y_3:Unit,True/\qj/\nH y) (iI/\(∃x_2:ZTq,kZ x_2.s/\lC x_2.s y.x.key/\lu x_2.L y.a.L/\(∀y_3:Unit,kY x_2->True/\aiK y x_2.L x_1)/\ ∀y_3:ZLnk,lq x_2 y_3->True/\True/\True/\ ∃y_4:Unit,True/\qj/\nH y)/\(jY y.x.key/\AV.ptr 8 0=AV.ptr 8 0/\True)/\ ∃x_2:ZTq,kZ x_2.s/\lC x_2.s y.x.key/\lu x_2.L y.a.L/\(∀y_3:Unit,kY x_2->aiK y x_2.L x_1)/\ ∀y_3:ZLnk,lq x_2 y_3->True/\True/\ ∃y_4:Unit,True/\qj/\nH y))
theorem adg(y:ZPt):W9 y=wpF Tryz.prog (anq 2 false) tt (noA y) 200 6 162 ((anp 2 false).args y) (hO 12 (flatP 2 ((anp 2 false).l y))) (λv h'=>endsPK 2 y v h' (anp 2 false).outs):=by kernel_rfl
def Xa(y:ZPt):Prop:=
 ∃x:ZCk,lg x/\(0=0/\True)/\rZ x y.a/\ ∀y_1:Unit,True->cP (decide ((y.t:Int)>=(x.c.t:Int))) (∃y_2:Unit,True/\rW/\kX y) (iI/\I64 (1:Int)/\ ∃x_1:ZCk,lg x_1/\(0=0/\True)/\su x_1 x/\ ∀y_2:Unit,True->cP (bne x_1.c.now y.e) (∃y_3:Unit,True/\qj/\kX y) (iI/\(∃x_2:ZTq,kZ x_2.s/\lC x_2.s y.x.key/\lu x_2.L y.a.L/\(∀y_3:Unit,kY x_2->True/\True/\True/\ ∃y_4:Unit,True/\qj/\kX y)/\ ∀y_3:ZLnk,lq x_2 y_3->True/\aiJ y_3 y x_2.L x_1)/\(jY y.x.key/\AV.ptr 8 0=AV.ptr 8 0/\True)/\ ∃x_2:ZTq,kZ x_2.s/\lC x_2.s y.x.key/\lu x_2.L y.a.L/\(∀y_3:Unit,kY x_2->True/\True/\ ∃y_4:Unit,True/\qj/\kX y)/\ ∀y_3:ZLnk,lq x_2 y_3->aiJ y_3 y x_2.L x_1))
theorem adh(y:ZPt):Xa y=wpF Tryz.prog (anq 2 true) tt (noA y) 200 6 162 ((anp 2 true).args y) (hO 12 (flatP 2 ((anp 2 true).l y))) (λv h'=>endsPK 2 y v h' (anp 2 true).outs):=by kernel_rfl
def Xb(y:ZPt):Prop:=
 ∃x:ZCk,lg x/\(0=0/\True)/\rZ x y.a/\ ∀y_1:Unit,True->cP (decide ((y.t:Int)>=(x.c.t:Int))) (∃y_2:Unit,True/\(EW/\(8:Int)=1/\True)/\rX/\rY y.a x/\tabA y.a.L=tabA y.a.L/\vK y/\True) (iI/\I64 (1:Int)/\ ∃x_1:ZCk,lg x_1/\(0=0/\True)/\su x_1 x/\ ∀y_2:Unit,True->cP (bne x_1.c.now y.e) (∃y_3:Unit,True/\zO/\rX/\rY y.a x_1/\tabA y.a.L=tabA y.a.L/\vK y/\True) (iI/\(∃x_2:ZTq,kZ x_2.s/\lC x_2.s y.x.key/\lu x_2.L y.a.L/\(∀y_3:Unit,kY x_2->True/\True/\True/\I64 (1:Int)/\False)/\ ∀y_3:ZLnk,lq x_2 y_3->True/\WZ y x_1 x_2.L)/\(jY y.x.key/\AV.ptr 2 0=AV.ptr 2 0/\True)/\ ∃x_2:ZTq,kZ x_2.s/\lC x_2.s y.x.key/\lu x_2.L y.a.L/\(∀y_3:Unit,kY x_2->True/\True/\I64 (1:Int)/\False)/\ ∀y_3:ZLnk,lq x_2 y_3->WZ y x_1 x_2.L))
theorem adi(y:ZPt):Xb y=wpF Tryz.prog arx tt (noA y) 200 6 162 ((yE 2 false).args y) (hO 4 ((yE 2 false).os y)) (λv h'=>eF 4 y v h' (yE 2 false).outs):=by kernel_rfl
def Xc(y:ZPt):Prop:=
 ∃x:ZCk,lg x/\(0=0/\True)/\rZ x y.a/\ ∀y_1:Unit,True->cP (decide ((y.t:Int)>=(x.c.t:Int))) (∃y_2:Unit,True/\(EW/\(8:Int)=1/\True)/\rX/\rY y.a x/\tabA y.a.L=tabA y.a.L/\((2:Int)=2/\EU y)/\True) (iI/\I64 (1:Int)/\ ∃x_1:ZCk,lg x_1/\(0=0/\True)/\su x_1 x/\ ∀y_2:Unit,True->cP (bne x_1.c.now y.e) (∃y_3:Unit,True/\zO/\rX/\rY y.a x_1/\tabA y.a.L=tabA y.a.L/\((2:Int)=2/\EU y)/\True) (iI/\(∃x_2:ZTq,kZ x_2.s/\lC x_2.s y.x.key/\lu x_2.L y.a.L/\(∀y_3:Unit,kY x_2->True/\True/\True/\LM y x_1 x_2.L)/\ ∀y_3:ZLnk,lq x_2 y_3->True/\WY y_3 y x_1 x_2.L)/\(jY y.x.key/\AV.ptr 2 0=AV.ptr 2 0/\True)/\ ∃x_2:ZTq,kZ x_2.s/\lC x_2.s y.x.key/\lu x_2.L y.a.L/\(∀y_3:Unit,kY x_2->True/\True/\LM y x_1 x_2.L)/\ ∀y_3:ZLnk,lq x_2 y_3->WY y_3 y x_1 x_2.L))
theorem adk(y:ZPt):Xc y=wpF Tryz.prog arx tt (noA y) 200 6 162 ((yE 2 true).args y) (hO 4 ((yE 2 true).os y)) (λv h'=>eF 4 y v h' (yE 2 true).outs):=by kernel_rfl
theorem RI(y:ZPt)(hy:y.bad false):Xb y:=by
 obtain⟨b1,b2,b3,b4,b5⟩:=hy;unfold Xb;simp only[lg,rZ,EW,rX,rY,vK,iI,su,zO,kZ,lC,lu,kY,lq,WZ,jY,IG];simp only[aZ,aV,aU,aA,aI,bQ,bF,aO,aK,ay,aX,aW,bU,bG,bH,bI,bV,bC,bJ,bn,eG,aH,aN,ah,ak,aB,aF,aC,aG];refine⟨y.a.ck,⟨b2,b1⟩,rfl,bf (λh=>absurd (aS h) (by show¬((y.t:Int)>=(y.a.c.t:Nat));omega)) λ_=>⟨by decide,by unfold I64;omega,y.a.ck,⟨b2,b1⟩,rfl,bf (λ_=>rfl) λh=>⟨by decide,⟨y.a.L,y.x.key⟩,b4,rfl,rfl,λhn=> ?_,λl hl=>⟨rfl,rfl⟩⟩⟩⟩;have h:y.a.c.now=y.e:=by have h:(y.a.c.now !=y.e)=false:=h;simpa using h
 exact(b5.elim (λe=>e h) λe=>e hn).elim
theorem arz{l k:ZLnk}(h:(!(l.key.toList==k.key.toList&&(l.id==k.id&&(l.ver==k.ver&&(l.line==k.line&&(l.cls==k.cls&&true))))))=false):l=k:=by
 simp only[Bool.not_eq_false',aJ,beq_iff_eq,aV]at h;obtain⟨h1,h2,h3,h4,h5⟩:=h;rw[iC,iC]at h1;exact ZLnk.ext5 (ByteArray.ext (Array.toList_inj.1 h1)) h2 h3 h4 h5
theorem RJ(y:ZPt)(hy:y.bad true):Xc y:=by
 obtain⟨b1,b2,b3,b4,b5⟩:=hy;unfold Xc;simp only[lg,rZ,EW,rX,rY,EU,iI,su,zO,kZ,lC,lu,kY,LM,lq,WY,jY,IG];simp only[aZ,aV,aU,aA,aI,bQ,bF,aO,aK,ay,aX,aW,bU,bG,bH,bI,bV,bC,bJ,bn,eG,aH,aN,ah,ak,aB,aF,aC,aG];refine⟨y.a.ck,⟨b2,b1⟩,rfl,bf (λh=>absurd (aS h) (by show¬((y.t:Int)>=(y.a.c.t:Nat));omega)) λ_=>⟨by decide,by unfold I64;omega,y.a.ck,⟨b2,b1⟩,rfl,bf (λ_=>rfl) λh=>⟨by decide,⟨y.a.L,y.x.key⟩,b4,rfl,rfl,λhn=>⟨rfl,rfl⟩,λl hl=>bf (λ_=>⟨rfl,rfl⟩) λhc=> ?_⟩⟩⟩;have h:y.a.c.now=y.e:=by have h:(y.a.c.now !=y.e)=false:=h;simpa using h
 have e:=arz hc;exact(b5.elim (λe=>e h) λe2=>e2 (hl.trans (congrArg some e))).elim
theorem RN(y:ZPt)(hy:y.ok 2 false):W9 y:=by
 obtain⟨hg,c1,c2,c3,c4,c5,c6,c7,⟨i,j,⟨p1,p2,p3,p4,p5⟩,p6⟩,c8,c9⟩:=hy;obtain⟨o1,o2,o3,o4,o5,o6,o7,o8,o9,o10,o11,o12,o13,o14,o15,o16,o17,o18,o19,o20⟩:=id hg;have q10:0<=y.a.ver:=o10;have q11:y.a.ver<1152921504606846976:=o11;have q12:0<=y.a.id:=o12;have q13:y.a.id<1152921504606846976:=o13;have q4:y.t<y.a.c.t:=o4;have w1:IntKind.u64.wrap (y.a.ver+1)=y.a.ver+1:=jc (by omega) (by omega);have w2:IntKind.u64.wrap (y.a.id+1)=y.a.id+1:=jc (by omega) (by omega);have hq:ZBlk.may ⟨y.x.cls,1,1,1,y.e,y.x.key,y.x.value⟩:=by
  obtain⟨m0,m⟩:=o7;refine⟨m0,?_⟩;rcases m with ⟨m,_⟩|⟨_,m1,m2,m3,m4,_,_,m5⟩|⟨m,_⟩|⟨m,_⟩
  ·exact absurd (show(1:Int)=0 from m) (by decide)
  ·exact .inr (.inl ⟨rfl,m1,m2,m3,m4,⟨show(1:Int)<=1 by decide,show(1:Int)<=2305843009213693952 by decide⟩,⟨show(1:Int)<=1 by decide,show(1:Int)<=2305843009213693952 by decide⟩,m5⟩)
  ·exact absurd (show(1:Int)=2 from m) (by decide)
  ·exact absurd (show(1:Int)=3 from m) (by decide)
 have core: ∀R:Prop,R->cP (!(⟨y.x.cls,1,1,1,y.e,y.x.key,y.x.value⟩:ZBlk).N8) ((False/\(0:Int)=3)/\False) R:=λR h=>by rw[yc.2 hq,Bool.not_true,iq];exact h
 unfold W9;simp only[lg,rZ,rW,nH,iI,su,qj,kZ,lC,lu,kY,aiK,lq,jY,Lr,LD,LC,Ls,zM,zN,Lp,Lm,LK,LG,LJ,LH,Lu,vK,IG];simp only[aZ,aV,aU,aA,aI,bQ,bF,aO,aK,ay,aX,aW,bU,bG,bH,bI,bV,bC,bJ,bn,eG,aH,aN,ah,ak,aB,aF,aC,aG,w1,w2];refine⟨y.a.ck,⟨o3,o2⟩,rfl,bf (λh=>absurd (aS h) (by show¬((y.t:Int)>=(y.a.c.t:Nat));omega)) λ_=>⟨by decide,by unfold I64;omega,y.a.ck,⟨o3,o2⟩,rfl,bf (λh=>absurd c2 (bne_iff_ne.1 h)) λ_=>⟨by decide,⟨y.a.L,y.x.key⟩,o8,rfl,rfl,λ_=>⟨by unfold I64;omega,by decide,⟨y.a.p,i,j⟩,⟨c3,p1,p2,p3,p4⟩,p5.symm,rfl,bf (λh=>absurd p6 (bne_iff_ne.1 h)) λ_=>⟨y.us,⟨c4,c5,c6,c7⟩,rfl,⟨rfl,rfl,rfl⟩,λhu=>absurd hu c8,λ_=>⟨by unfold I64;omega,by decide,⟨y.x.cls,1,1,1,y.e,y.x.key,y.x.value⟩,⟨o8,o9⟩,⟨rfl,rfl,rfl,rfl,rfl,rfl,rfl⟩,core _ ?_⟩⟩⟩,λl hl=>absurd (c1.symm.trans hl) (by simp)⟩⟩⟩;rw[bne_self_eq_false,iq];refine bf (λh=>absurd (aS h) (by omega)) λ_=>⟨by unfold I64;omega,bf (λh=>absurd (aS h) (by omega)) λ_=>⟨by decide,by decide,y.a,?_,y.cg,hg,?_⟩⟩
 ·repeat' (first|exact rfl|refine And.intro ?_ ?_)
 ·repeat' (first|exact rfl|(intro q hq;have h0:q=0:=(by omega);subst h0;rfl)|(show I64 _;unfold I64;omega)|refine And.intro ?_ ?_)
theorem RP(y:ZPt)(hy:y.ok 2 true):Xa y:=by
 obtain⟨hg,c1,c2,c3,c4,c5,c6,c7,⟨i,j,⟨p1,p2,p3,p4,p5⟩,p6⟩,c8,c9⟩:=hy;obtain⟨o1,o2,o3,o4,o5,o6,o7,o8,o9,o10,o11,o12,o13,o14,o15,o16,o17,o18,o19,o20⟩:=id hg;have q10:0<=y.a.ver:=o10;have q11:y.a.ver<1152921504606846976:=o11;have q12:0<=y.a.id:=o12;have q13:y.a.id<1152921504606846976:=o13;have q4:y.t<y.a.c.t:=o4;have w1:IntKind.u64.wrap (y.a.ver+1)=y.a.ver+1:=jc (by omega) (by omega);have w2:IntKind.u64.wrap (y.a.id+1)=y.a.id+1:=jc (by omega) (by omega);have hq:ZBlk.may ⟨y.x.cls,1,1,1,y.e,y.x.key,y.x.value⟩:=by
  obtain⟨m0,m⟩:=o7;refine⟨m0,?_⟩;rcases m with ⟨m,_⟩|⟨_,m1,m2,m3,m4,_,_,m5⟩|⟨m,_⟩|⟨m,_⟩
  ·exact absurd (show(1:Int)=0 from m) (by decide)
  ·exact .inr (.inl ⟨rfl,m1,m2,m3,m4,⟨show(1:Int)<=1 by decide,show(1:Int)<=2305843009213693952 by decide⟩,⟨show(1:Int)<=1 by decide,show(1:Int)<=2305843009213693952 by decide⟩,m5⟩)
  ·exact absurd (show(1:Int)=2 from m) (by decide)
  ·exact absurd (show(1:Int)=3 from m) (by decide)
 have core: ∀R:Prop,R->cP (!(⟨y.x.cls,1,1,1,y.e,y.x.key,y.x.value⟩:ZBlk).N8) ((False/\(0:Int)=3)/\False) R:=λR h=>by rw[yc.2 hq,Bool.not_true,iq];exact h
 unfold Xa;simp only[lg,rZ,rW,kX,iI,su,qj,kZ,lC,lu,kY,lq,aiJ,jY,Lr,LD,LC,Ls,zM,zN,Lp,Lm,LK,LG,LJ,LH,Lu,EU,aiI,IG];simp only[aZ,aV,aU,aA,aI,bQ,bF,aO,aK,ay,aX,aW,bU,bG,bH,bI,bV,bC,bJ,bn,eG,aH,aN,ah,ak,aB,aF,aC,aG,w1,w2];refine⟨y.a.ck,⟨o3,o2⟩,rfl,bf (λh=>absurd (aS h) (by show¬((y.t:Int)>=(y.a.c.t:Nat));omega)) λ_=>⟨by decide,by unfold I64;omega,y.a.ck,⟨o3,o2⟩,rfl,bf (λh=>absurd c2 (bne_iff_ne.1 h)) λ_=>⟨by decide,⟨y.a.L,y.x.key⟩,o8,rfl,rfl,λhn=>absurd (c1.symm.trans hn) (by simp),λl hl=>bf (λhc=> ?_) λ_=>⟨by unfold I64;omega,by decide,⟨y.a.p,i,j⟩,⟨c3,p1,p2,p3,p4⟩,p5.symm,rfl,bf (λh=>absurd p6 (bne_iff_ne.1 h)) λ_=>⟨y.us,⟨c4,c5,c6,c7⟩,rfl,⟨rfl,rfl,rfl⟩,λhu=>absurd hu c8,λ_=>⟨by unfold I64;omega,by decide,⟨y.x.cls,1,1,1,y.e,y.x.key,y.x.value⟩,⟨o8,o9⟩,⟨rfl,rfl,rfl,rfl,rfl,rfl,rfl⟩,core _ ?_⟩⟩⟩⟩⟩⟩
 ·have e:l=y.x.old:=by have:=c1.symm.trans hl;simpa using this.symm
  subst e;simp at hc
 ·rw[bne_self_eq_false,iq]
  refine bf (λh=>absurd (aS h) (by omega)) λ_=>⟨by unfold I64;omega,bf (λh=>absurd (aS h) (by omega)) λ_=>⟨by decide,by decide,y.a,?_,y.cg,hg,?_⟩⟩
  ·repeat' (first|exact rfl|refine And.intro ?_ ?_)
  ·repeat' (first|exact rfl|(intro q hq;have h0:q=0:=(by omega);subst h0;rfl)|(show I64 _;unfold I64;omega)|refine And.intro ?_ ?_)
theorem adl:dX Tryz.prog (anq 2 false):= .append dQ (.cons (bM KN) (.cons (bM uG) (.cons (bM VQ) (.cons (bM asY) (.cons (bM aar) (.cons (bM agU) (.cons (RH (bM anl)) .nil)))))))
theorem ant:bZ Tryz.prog 162 (anp 2 false).ctr:=cO dD mixed adl 12 noA 200 6 (λ_=>⟨rfl,rfl,rfl,rfl⟩) λx hx=>Eq.mp (adg x) (RN x (aZ.1 hx))
theorem adn:dX Tryz.prog (anq 2 true):= .append dQ (.cons (bM KN) (.cons (bM uG) (.cons (bM VQ) (.cons (bM asY) (.cons (bM aar) (.cons (bM agU) (.cons (RH (bM anm)) .nil)))))))
theorem anu:bZ Tryz.prog 162 (anp 2 true).ctr:=cO dD mixed adn 12 noA 200 6 (λ_=>⟨rfl,rfl,rfl,rfl⟩) λx hx=>Eq.mp (adh x) (RP x (aZ.1 hx))
theorem aas:dX Tryz.prog arx:= .append dQ (.cons anr (.cons (bM KN) (.cons (bM uG) (.cons (bM VQ) .nil))))
theorem anv:bZ Tryz.prog 162 (yE 2 false):=dM dD mixed aas noA 200 6 (λ_=>rfl) (λ_=>rfl) λx hx=>Eq.mp (adi x) (RI x (aZ.1 hx))
theorem anw:bZ Tryz.prog 162 (yE 2 true):=dM dD mixed aas noA 200 6 (λ_=>rfl) (λ_=>rfl) λx hx=>Eq.mp (adk x) (RJ x (aZ.1 hx))
structure ZFp where
 key:ByteArray
 value:ByteArray
 to:ByteArray
 epoch:Int
 pos:ByteArray
 past:Bool
 had:Bool
 old:ZLnk
 line:Int
 cls:Int
 piece:Int
 code:Int
 found:Bool
 ans:ByteArray
 aep:Int
namespace ZFp
def l(f:ZFp)(k ph:Int)(b:AV):List AV:=[i64 k,.lit (.string f.key),.lit (.string f.value),.lit (.string f.to),gV,i64 ph,u64 f.epoch,.lit (.string f.pos),boo f.past,i64 0,boo f.had,.lit (.string f.old.key),u64 f.old.id,u64 f.old.ver,i64 f.old.line,i64 f.old.cls,i64 f.line,i64 f.cls,i64 f.piece,b,i64 0,gV,i64 f.code,boo f.found,.lit (.string f.ans),gV,gV,u64 f.aep]
def av(f:ZFp)(k ph:Int)(b:AV):AV:= .agg (f.l k ph b)
end ZFp
def goodP(k:Int)(key v:ByteArray):Int:=if key.size=0 then 1 else if 16<key.size\/k=2/\400<v.size then 5 else 0
structure ZPs where
 a:ZSto
 f:ZFp
 t:Nat
namespace ZSto
def FX(a:ZSto)(t:Nat)(v:Int):ZSto:={a with r:=a.r.put t v}
def Xd(a:ZSto)(p:ZPool):ZSto:={a with p:=p}
def Gy(a:ZSto)(d:DevM):ZSto:={a with d:=d}
end ZSto
namespace ZPs
noncomputable def nxt(x:ZPs):Option ZLnk:=nextL x.a.L (bkt x.f.key) x.f.pos x.f.past
def goes(x:ZPs)(y:ZLnk):Prop:=x.nxt=some y/\kl y.key x.f.key=true
def hit(x:ZPs)(y:ZLnk):Prop:=x.nxt=some y/\y.key=x.f.key
def miss(x:ZPs):Prop:= ∀y,x.nxt=some y->kl y.key x.f.key=false/\y.key≠x.f.key
def nd(x:ZPs)(k:Int):Int:=if k=2 then ned ((x.f.key.size+x.f.value.size:Nat):Int)else 0
end ZPs
def nx3(f:ZFp)(k:Int)(h:Bool):Int:=if k=1 then(if h=true then 2 else 6)else if k=3/\h=false then 6 else if f.line<0 then 3 else 5
noncomputable def ql(k:Int):jw:={X:=ZPs,args:=λx=>[.ptr 0 0,i64 x.t,x.f.av k 0 gV],k:=1,l:=λx=>[.m x.a.os],pre:=λx=>Hd (x.a.r.ok/\x.a.c.ok/\x.a.ph<=4/\x.t<x.a.r.t/\x.a.r.has x.t=0),outs:=[
 {Y:=Unit,post:=λx _=>Hd (goodP k x.f.key x.f.value≠0),ret:=λx _=>{x.f with code:=goodP k x.f.key x.f.value}.av k 7 gV,m:=1,l:=λx _=>[.m x.a.os]},
 {Y:=Unit,post:=λx _=>Hd (goodP k x.f.key x.f.value=0),ret:=λx _=>{x.f with epoch:=x.a.c.now}.av k 1 gV,m:=1,l:=λx _=>[.m (x.a.FX x.t x.a.r.now).os]}]}
noncomputable def sD(k:Int):jw:={X:=ZPs,args:=λx=>[.ptr 0 0,i64 x.t,x.f.av k 1 gV],k:=1,l:=λx=>[.m x.a.os],pre:=λx=>Hd (x.f.key.size<1099511627776/\x.f.pos.size<1099511627776/\(k=3->x.miss->x.f.line<0)),outs:=[
 {Y:=ZLnk,post:=λx y=>Hd (x.goes y),ret:=λx y=>{x.f with pos:=y.key,past:=true}.av k 1 gV,m:=1,l:=λx _=>[.m x.a.os]},
 {Y:=ZLnk,post:=λx y=>Hd (x.hit y),ret:=λx y=>{x.f with had:=true,old:=y,piece:=if k=1 then 0 else x.f.piece}.av k (nx3 x.f k true) gV,m:=1,l:=λx _=>[.m x.a.os]},
 {Y:=Unit,post:=λx _=>Hd x.miss,ret:=λx _=>{x.f with had:=false,old:=iO}.av k (nx3 x.f k false) gV,m:=1,l:=λx _=>[.m x.a.os]}]}
structure ZPg where
 a:ZSto
 f:ZFp
 t:Nat
 i:Nat
 k:Nat
def ZPg.pb(x:ZPg):fJ:=⟨x.a.p,x.i,x.k⟩
def ZPg.fr(x:ZPg):ZFp:={x.f with line:=x.pb.line}
noncomputable def atX:jw:=qC ZPg (λx=>[.ptr 0 0,i64 x.t,x.fr.av 3 1 gV]) 1 (λx=>[.m x.a.os]) (λx=>Hd (x.f.key.size<1099511627776/\x.f.pos.size<1099511627776/\x.pb.ok/\ZPs.miss ⟨x.a,x.f,x.t⟩)) (λx=>{x.f with had:=false,old:=iO,line:= -1}.av 3 6 gV) 1 (λx=>[.m (x.a.Xd (x.a.p.give x.i x.k)).os])
noncomputable def RQ(k:Int):jw:={X:=ZPs,args:=λx=>[.ptr 0 0,i64 x.t,x.f.av k 3 gV],k:=1,l:=λx=>[.m x.a.os],pre:=λx=>Hd (x.a.p.ok/\x.f.key.size<=16/\x.f.value.size<=400),outs:=[
 {Y:=Unit,post:=λx _=>Hd (∀i,i<x.a.p.n->x.a.p.cls i≠ -1/\x.a.p.full (x.nd k) i),ret:=λx _=>{x.f with cls:=x.nd k,code:=4}.av k 6 gV,m:=1,l:=λx _=>[.m x.a.os]},
 {Y:=Nat×Nat,post:=λx y=>Hd (x.a.p.takes (x.nd k) y.1 y.2),ret:=λx y=>{x.f with cls:=x.nd k,line:=2+y.1*8+y.2*spn (x.nd k),piece:=0}.av k 4 gV,m:=1,l:=λx y=>[.m (x.a.Xd (x.a.p.take (x.nd k) y.1 y.2)).os]}]}
noncomputable def qm(k:Int):jw:=qC ZPs (λx=>[.ptr 0 0,i64 x.t,x.f.av k 6 gV]) 1 (λx=>[.m x.a.os]) (λx=>Hd (x.a.r.ok/\x.t<x.a.r.t)) (λx=>x.f.av k 7 gV) 1 (λx=>[.m (x.a.FX x.t 0).os])
structure ZPw where
 a:ZSto
 f:ZFp
 t:Nat
 ln:Nat
 c:Int
 p:Nat
def ZPw.draft(x:ZPw):ZBlk:=⟨x.c,0,0,0,0,⟨#[]⟩,⟨#[]⟩⟩
def ZPw.blk(x:ZPw):ZBlk:=⟨x.c,1,0,0,0,x.f.key,x.f.value⟩
def ZPw.ok(x:ZPw):Prop:=x.a.d.ok/\0<=x.c/\x.c<=3/\x.ln+spn x.c<=x.a.d.n/\x.p<spn x.c/\x.f.key.size<=16/\x.f.value.size<=400/\x.a.d.st+10<1099511627776
noncomputable def ZPw.d'(x:ZPw):DevM:=if x.p=0 then x.a.d.store x.ln 0 64 (x.draft.jL (λ_=>0) (cpc x.c).toNat)else x.a.d.store (x.ln+x.p) 0 64 (λq=>x.blk.enc (64*x.p+q))
def ZPw.fr(x:ZPw)(p:Int):ZFp:={x.f with line:=x.ln,cls:=x.c,piece:=p}
noncomputable def EX(k:Int):jw:={X:=ZPw,args:=λx=>[.ptr 0 0,i64 x.t,(x.fr 0).av k 4 gV],k:=1,l:=λx=>[.m x.a.os],pre:=λx=>Hd (x.ok/\x.p=0),outs:=[
 {Y:=Unit,post:=λx _=>Hd (1≠spn x.c),ret:=λx _=>(x.fr 1).av k 4 gV,m:=1,l:=λx _=>[.m (x.a.Gy x.d').os]},
 {Y:=Unit,post:=λx _=>Hd (1=spn x.c),ret:=λx _=>(x.fr 0).av k 5 gV,m:=1,l:=λx _=>[.m (x.a.Gy x.d').os]}]}
noncomputable def EY:jw:={X:=ZPw,args:=λx=>[.ptr 0 0,i64 x.t,(x.fr x.p).av 2 4 gV],k:=1,l:=λx=>[.m x.a.os],pre:=λx=>Hd (x.ok/\x.p≠0),outs:=[
 {Y:=Unit,post:=λx _=>Hd (x.p+1≠spn x.c),ret:=λx _=>(x.fr (x.p+1)).av 2 4 gV,m:=1,l:=λx _=>[.m (x.a.Gy x.d').os]},
 {Y:=Unit,post:=λx _=>Hd (x.p+1=spn x.c),ret:=λx _=>(x.fr 0).av 2 5 gV,m:=1,l:=λx _=>[.m (x.a.Gy x.d').os]}]}
structure ZPr where
 a:ZSto
 f:ZFp
 t:Nat
 b:ZBlk
 ln:Nat
 p:Nat
def ZPr.ok(x:ZPr):Prop:=x.a.d.ok/\x.b.may/\x.b.kind=1/\x.ln+spn x.b.cls<=x.a.d.n/\x.p<spn x.b.cls/\ ∀q,q<64*x.b.dJ->x.a.d.b ((x.ln+q/64)*193+q%64)=x.b.enc q
def ZPr.fr(x:ZPr)(p:Int):ZFp:={x.f with had:=true,old:=⟨x.b.key,x.b.id,x.b.ver,x.ln,x.b.cls⟩,piece:=p}
def ZPr.fr2(x:ZPr)(p:Int):ZFp:={x.fr p with found:=true,ans:=x.b.value}
noncomputable def RS:jw:={X:=ZPr,args:=λx=>[.ptr 0 0,i64 x.t,(x.fr 0).av 1 2 gV],k:=1,l:=λx=>[.m x.a.os],pre:=λx=>Hd (x.ok/\x.p=0),outs:=[
 {Y:=Unit,post:=λx _=>Hd (1≠spn x.b.cls),ret:=λx _=>(x.fr 1).av 1 2 (.slW 1 0 1 64),m:=2,l:=λx _=>[.m x.a.os,.o (SQ x.b.enc 64)]},
 {Y:=Unit,post:=λx _=>Hd (1=spn x.b.cls),ret:=λx _=>(x.fr2 1).av 1 6 gV,m:=1,l:=λx _=>[.m x.a.os]}]}
noncomputable def aat:jw:={X:=ZPr,args:=λx=>[.ptr 0 0,i64 x.t,(x.fr x.p).av 1 2 (.slW 1 0 1 (64*x.p))],k:=2,l:=λx=>[.m x.a.os,.o (SQ x.b.enc (64*x.p))],pre:=λx=>Hd (x.ok/\x.p≠0),outs:=[
 {Y:=Unit,post:=λx _=>Hd (x.p+1≠spn x.b.cls),ret:=λx _=>(x.fr (x.p+1)).av 1 2 (.slW 2 0 1 (64*(x.p+1))),m:=3,l:=λx _=>[.m x.a.os,.o (SQ x.b.enc (64*x.p)),.o (SQ x.b.enc (64*(x.p+1)))]},
 {Y:=Unit,post:=λx _=>Hd (x.p+1=spn x.b.cls),ret:=λx _=>(x.fr2 (x.p+1)).av 1 6 gV,m:=2,l:=λx _=>[.m x.a.os,.o (SQ x.b.enc (64*x.p))]}]}
structure ZDm where
 cls:Int
 id:Int
 ver:Int
 epoch:Int
 key:ByteArray
 value:ByteArray
 g:Nat->Int
def ZDm.b(x:ZDm):ZBlk:=⟨x.cls,1,x.id,x.ver,x.epoch,x.key,x.value⟩
noncomputable def arA:Ctr:=det ZDm (λx=>[.slW 0 0 1 (64*x.b.dJ)]) 1 (λx=>[SQ x.g (64*x.b.dJ)]) (λx=>Hd (x.b.may/\x.b.key.size<1099511627776/\x.b.value.size<1099511627776/\ ∀k,k<64*x.b.dJ->x.g k=x.b.enc k)) (λx=> .tup [x.b.av,boo true]) 1 (λx=>[SQ x.g (64*x.b.dJ)])
theorem aiL:bZ Tryz.prog 121 arA:=je λx hx=>by
 have hx:=aZ.1 hx;refine⟨aqu,atc,rfl,⟨x.b,x.g⟩,aZ.2 ⟨hx.1,hx.2.1,hx.2.2.1,hx.2.2.2⟩,rfl,rfl,λv h' hh=> ?_⟩;obtain⟨u,e1,e2,e3⟩:=ku hh;exact eP ⟨u,trivial,e2,e3⟩
structure ZPp where
 a:ZSto
 f:ZFp
 t:Nat
 ln:Nat
namespace ZPp
def pt(x:ZPp)(k:Int):ZPt:=⟨x.a,x.t,x.f.epoch,⟨k,x.f.key,x.f.value,x.f.had,x.f.old,x.ln,x.f.cls⟩,x.ln⟩
def fr(x:ZPp)(h:Bool):ZFp:={x.f with had:=h,line:=x.ln}
end ZPp
noncomputable def LP(k:Int)(had:Bool):Ctr:=det ZPp (λx=>[.ptr 0 0,i64 x.t,(x.fr had).av k 5 gV]) 1 (λx=>[.abs (ownM x.a.os)]) (λx=>Hd ((x.pt k).ok k had)) (λx=>{x.fr had with found:=had,aep:=x.f.epoch,line:= -1}.av k 6 gV) 1 (λx=>[.abs (ownM ((x.pt k).cg.res k had).os)])
noncomputable def LQ(k:Int)(had:Bool):jw:=qC ZPp (λx=>[.ptr 0 0,i64 x.t,(x.fr had).av k 5 gV]) 1 (λx=>[.m x.a.os]) (λx=>Hd ((x.pt k).bad had)) (λx=>{x.fr had with epoch:=x.a.c.now,pos:=emp,past:=false,had:=false,old:=iO}.av k 1 gV) 1 (λx=>[.m x.a.os])
noncomputable def yF(k:Int):Ctr:=det ZPs (λx=>[.ptr 0 0,i64 x.t,x.f.av k 7 gV]) 1 (λx=>[.abs (ownM x.a.os)]) (λ_=>Hd True) (λx=>x.f.av k 7 gV) 1 (λx=>[.abs (ownM x.a.os)])
def anx:dB:=atT .any .any .any .any .any (.ptr 1 0) .any .any .any .any
noncomputable def uO(k:Int):Ctr:={X:=ZPs,args:=λx=>[.ptr 0 0,i64 x.t,x.f.av k 1 gV],k:=2,os:=λx=>[anx,.abs (tabA x.a.L)],pre:=λx=>Hd (x.f.key.size<1099511627776/\x.f.pos.size<1099511627776/\(k=3->x.miss->x.f.line<0)),outs:=[
 {Y:=ZLnk,post:=λx y=>Hd (x.goes y),ret:=λx y=>{x.f with pos:=y.key,past:=true}.av k 1 gV,m:=2,os:=λx _=>[anx,.abs (tabA x.a.L)]},
 {Y:=ZLnk,post:=λx y=>Hd (x.hit y),ret:=λx y=>{x.f with had:=true,old:=y,piece:=if k=1 then 0 else x.f.piece}.av k (nx3 x.f k true) gV,m:=2,os:=λx _=>[anx,.abs (tabA x.a.L)]},
 {Y:=Unit,post:=λx _=>Hd x.miss,ret:=λx _=>{x.f with had:=false,old:=iO}.av k (nx3 x.f k false) gV,m:=2,os:=λx _=>[anx,.abs (tabA x.a.L)]}]}
noncomputable def arB:jd:=Ez++[(199,ctrT PU.ctr),(45,ctrT aiv)]
noncomputable def arC:jd:=Ez++[(183,ctrT EC),(182,ctrT nextK.C),(65,ctrT af7.ctr)]
noncomputable def atY:jd:=Ez++[(201,aqJ),(202,ctrT af6.ctr)]
noncomputable def arD:jd:=Ez++[(113,acs),(121,ctrT arA),(181,ctrT abM.ctr)]
noncomputable def anz(k:Int)(had:Bool):jd:=Ez++[(162,ctrT (anp k had).ctr)]
noncomputable def anA(k:Int)(had:Bool):jd:=Ez++[(162,ctrT (yE k had)),(45,ctrT aiv)]
def Bc(a:ZSto):Prop:=ordA a.L=ordA a.L/\ownM a.l.os=ownM a.l.os/\(Nat.beq a.n 0=Nat.beq a.n 0/\a.n=a.n/\ ∀q:Nat,q<a.n->[Value.int .i64 (ZEff.kind (a.e q)),Value.string (ZEff.key (a.e q)),Value.string (ZEff.value (a.e q)),Value.int .u64 (ZEff.id (a.e q)),Value.int .u64 (ZEff.ver (a.e q)),Value.int .u64 (ZEff.epoch (a.e q)),Value.int .i64 (ZEff.group (a.e q))]=[Value.int .i64 (ZEff.kind (a.e q)),Value.string (ZEff.key (a.e q)),Value.string (ZEff.value (a.e q)),Value.int .u64 (ZEff.id (a.e q)),Value.int .u64 (ZEff.ver (a.e q)),Value.int .u64 (ZEff.epoch (a.e q)),Value.int .i64 (ZEff.group (a.e q))])/\True
def II(a:ZSto):Prop:=ownM a.b.os=ownM a.b.os/\tabA a.L=tabA a.L/\Bc a
def bK(a:Int):Prop:=a=a
def iT(a:ZSto):Prop:=0=0/\0=0/\0=0/\0=0/\0=0/\0=0/\0=0/\0=0/\bK a.id/\bK a.ver/\(Nat.beq a.n 0=Nat.beq a.n 0/\a.n=a.n)/\True
def qo:Prop:=0=0/\(1:Int)=1/\(0:Int)=0/\(0:Int)=0/\True
def sF(a:ZPw)(b:lX):Prop:=iT a.a/\qo/\ownM a.d'.os=ownM (DevM.os (b.d.store b.k b.a b.b.n (λ(q:Nat)=>b.b.g (b.b.q+q))))/\ownM a.a.p.os=ownM a.a.p.os/\ownM a.a.r.os=ownM a.a.r.os/\ownM (ZCk.os (ZSto.ck (a.a.Gy a.d')))=ownM a.a.ck.os/\II a.a
def dV:Prop:=Value.slice none 0 0=Value.slice none 0 0
def bW(a:ByteArray):Prop:=a=a
def jh(a:Int):Prop:=dV/\dV/\bK a/\True
def lD(a:ZFp):Prop:=(0:Int)=0/\dV/\bK a.code/\a.found=a.found/\bW a.ans/\jh a.aep
def jF(a:ZFp):Prop:=dV/\lD a
def zQ(a:ZPr):Prop:=true=a.f.found/\a.b.value=a.f.ans/\jh a.f.aep
def fV(a:Nat):Prop:=(a:Int)=(a:Int)
def EZ(a:ZPr):Prop:=Hd ((a.p:Int)+1≠spn a.b.cls)
def sG(a:Nat):Prop:=(a:Int)+1=(a:Int)+1
def zS(a:ZPr):Prop:=64*a.p=64*a.p/\ ∀q:Nat,q<64*a.p->[Value.int .u8 (a.b.enc q)]=[Value.int .u8 (a.b.enc q)]
def nI(a:ZSto)(b:DevM):Prop:=qo/\ownM a.d.os=ownM b.os/\ownM a.p.os=ownM a.p.os/\ownM a.r.os=ownM a.r.os/\ownM a.ck.os=ownM a.ck.os/\II a
def LU(a:ZPr)(b:DevM):Prop:=(∃y_2:Unit,EZ a/\False)\/ ∃y_2:Unit,Hd ((a.p:Int)+1=spn a.b.cls)/\((1:Int)=1/\bW a.f.key/\bW a.f.value/\bW a.f.to/\dV/\(6:Int)=6/\bK a.f.epoch/\bW a.f.pos/\a.f.past=a.f.past/\(0:Int)=0/\true=true/\bW a.b.key/\bK a.b.id/\bK a.b.ver/\fV a.ln/\bK a.b.cls/\bK a.f.line/\bK a.f.cls/\sG a.p/\dV/\(0:Int)=0/\dV/\a.f.code=6/\zQ a)/\iT a.a/\zS a/\nI a.a b
def Xe(a:ZPw)(b:lX):Prop:=Hd ((a.p:Int)+1≠spn a.c)/\((2:Int)=2/\bW a.f.key/\bW a.f.value/\bW a.f.to/\dV/\(4:Int)=4/\bK a.f.epoch/\bW a.f.pos/\a.f.past=a.f.past/\(0:Int)=0/\a.f.had=a.f.had/\bW a.f.old.key/\bK a.f.old.id/\bK a.f.old.ver/\bK a.f.old.line/\bK a.f.old.cls/\fV a.ln/\bK a.c/\sG a.p/\jF a.f)/\sF a b
def Xf(a:ZPw)(b:lX):Prop:=Hd ((a.p:Int)+1=spn a.c)/\((2:Int)=2/\bW a.f.key/\bW a.f.value/\bW a.f.to/\dV/\(5:Int)=4/\bK a.f.epoch/\bW a.f.pos/\a.f.past=a.f.past/\(0:Int)=0/\a.f.had=a.f.had/\bW a.f.old.key/\bK a.f.old.id/\bK a.f.old.ver/\bK a.f.old.line/\bK a.f.old.cls/\fV a.ln/\bK a.c/\0=(a.p:Int)+1/\jF a.f)/\sF a b
def Xg(a:ZPw)(b:lX):Prop:=Hd ((a.p:Int)+1≠spn a.c)/\((2:Int)=2/\bW a.f.key/\bW a.f.value/\bW a.f.to/\dV/\(4:Int)=5/\bK a.f.epoch/\bW a.f.pos/\a.f.past=a.f.past/\(0:Int)=0/\a.f.had=a.f.had/\bW a.f.old.key/\bK a.f.old.id/\bK a.f.old.ver/\bK a.f.old.line/\bK a.f.old.cls/\fV a.ln/\bK a.c/\(a.p:Int)+1=0/\jF a.f)/\sF a b
def E5(a:ZPw):Prop:=bW a.f.key/\bW a.f.value/\bW a.f.to/\dV/\(5:Int)=5/\bK a.f.epoch/\bW a.f.pos/\a.f.past=a.f.past/\(0:Int)=0/\a.f.had=a.f.had/\bW a.f.old.key/\bK a.f.old.id/\bK a.f.old.ver/\bK a.f.old.line/\bK a.f.old.cls/\fV a.ln/\bK a.c/\(0:Int)=0/\jF a.f
def Xh(a:ZPw)(b:lX):Prop:= ∀y:Unit,True->I64 ((a.p:Int)+1)/\True/\I64 ((a.p:Int)+1)/\cP (BEq.beq ((a.p:Int)+1) (spn a.c)) ((∃y_1:Unit,Xg a b)\/ ∃y_1:Unit,Hd ((a.p:Int)+1=spn a.c)/\((2:Int)=2/\E5 a)/\sF a b) ((∃y_1:Unit,Xe a b)\/ ∃y_1:Unit,Xf a b)
def LV(a:ZPr)(b:DevM):Prop:=(∃y_2:Unit,Hd ((1:Int)≠spn a.b.cls)/\False)\/ ∃y_2:Unit,Hd (1=spn a.b.cls)/\((1:Int)=1/\bW a.f.key/\bW a.f.value/\bW a.f.to/\dV/\(6:Int)=6/\bK a.f.epoch/\bW a.f.pos/\a.f.past=a.f.past/\(0:Int)=0/\true=true/\bW a.b.key/\bK a.b.id/\bK a.b.ver/\fV a.ln/\bK a.b.cls/\bK a.f.line/\bK a.f.cls/\(1:Int)=1/\dV/\(0:Int)=0/\dV/\a.f.code=6/\zQ a)/\iT a.a/\nI a.a b
def zT(a:ZPt)(b:ZPp):Prop:=a.x.old.key=b.f.old.key/\a.x.old.id=b.f.old.id/\a.x.old.ver=b.f.old.ver/\a.x.old.line=b.f.old.line/\a.x.old.cls=b.f.old.cls/\(a.ln:Int)=(b.ln:Int)/\a.x.cls=b.f.cls/\True
def Xi(a:ZDm)(b:ZPr)(c:DevM):Prop:= ∀y_1:Unit,True->cP (BEq.beq a.id b.b.id) (cP (BEq.beq a.ver b.b.ver) (cP (Bool.not (BEq.beq (ByteArray.toList a.key) (ByteArray.toList b.b.key))) (LU b c) ((∃y_2:Unit,EZ b/\False)\/ ∃y_2:Unit,Hd ((b.p:Int)+1=spn b.b.cls)/\((1:Int)=1/\bW b.f.key/\bW b.f.value/\bW b.f.to/\dV/\(6:Int)=6/\bK b.f.epoch/\bW b.f.pos/\b.f.past=b.f.past/\(0:Int)=0/\true=true/\bW b.b.key/\bK b.b.id/\bK b.b.ver/\fV b.ln/\bK b.b.cls/\bK b.f.line/\bK b.f.cls/\sG b.p/\dV/\(0:Int)=0/\dV/\bK b.f.code/\true=true/\b.b.value=a.value/\jh b.f.aep)/\iT b.a/\zS b/\nI b.a c)) (LU b c)) (LU b c)
def Xj(a:ZPp)(b:Int):Prop:=bW a.f.key/\bW a.f.value/\bW a.f.to/\dV/\(1:Int)=1/\a.a.c.now=b/\emp=ByteArray.mk #[]/\false=false/\(0:Int)=0/\false=false/\ByteArray.mk #[]=ByteArray.mk #[]/\(0:Int)=0/\(0:Int)=0/\(0:Int)=0/\(0:Int)=0/\fV a.ln/\bK a.f.cls/\bK a.f.piece/\jF a.f
def Xk(a:ZSto)(b:ZCk)(c:Lks):Prop:=iT a/\qo/\ownM a.d.os=ownM a.d.os/\ownM a.p.os=ownM a.p.os/\ownM a.r.os=ownM a.r.os/\ownM a.ck.os=ownM b.os/\ownM a.b.os=ownM a.b.os/\tabA a.L=tabA c/\Bc a
def LW(a:ZSto)(b:ZPp):Prop:= ∀y:Unit,True->True/\ ∃x_2:ZCk,Hd (x_2.ph<=4/\x_2.c.ok)/\(0=0/\True)/\(ownM x_2.os=ownM a.ck.os/\True)/\ ∀y_1:Unit,True-> ∃y_2:Unit,True/\((2:Int)=2/\Xj b x_2.c.now)/\Xk b.a x_2 a.L
def lF(a:Nat):Prop:=AV.lit (Value.int .i64 (a:Int))=AV.lit (Value.int .i64 (a:Int))
def sH(a:ZPp):Prop:=AV.lit (Value.int .u64 a.f.epoch)=AV.lit (Value.int .u64 a.f.epoch)/\lF a.t/\AV.ptr 0 0=AV.ptr 0 0/\True
def LX(a:ZFp):Prop:=bW a.key/\bW a.value/\bW a.to/\dV/\(7:Int)=7/\bK a.epoch/\bW a.pos/\a.past=a.past/\(0:Int)=0/\a.had=a.had/\bW a.old.key/\bK a.old.id/\bK a.old.ver/\bK a.old.line/\bK a.old.cls/\bK a.line/\bK a.cls/\bK a.piece/\jF a
def Xl(a:ZPr)(b:DevM):Prop:= ∃y_1:Unit,Hd ((a.p:Int)+1=spn a.b.cls)/\((1:Int)=1/\bW a.f.key/\bW a.f.value/\bW a.f.to/\dV/\(6:Int)=2/\bK a.f.epoch/\bW a.f.pos/\a.f.past=a.f.past/\(0:Int)=0/\true=true/\bW a.b.key/\bK a.b.id/\bK a.b.ver/\fV a.ln/\bK a.b.cls/\bK a.f.line/\bK a.f.cls/\sG a.p/\False/\(0:Int)=0/\dV/\bK a.f.code/\zQ a)/\iT a.a/\zS a/\nI a.a b
def aiM(a:ZFp):Prop:=bW a.key/\bW a.value/\bW a.to/\dV/\(6:Int)=6/\bK a.epoch/\bW a.pos/\a.past=a.past/\(0:Int)=0/\true=true/\bW a.old.key/\bK a.old.id/\bK a.old.ver/\bK a.old.line/\bK a.old.cls/\(-(1:Int))=(-(1:Int))/\bK a.cls/\bK a.piece/\dV/\(0:Int)=0/\dV/\bK a.code/\true=true/\bW a.ans/\jh a.epoch
def LY(a:lX)(b:DevM)(c:Int):Prop:=ownM a.d.os=ownM b.os/\(a.b.N=64/\ ∀q:Nat,q<a.b.N->[Value.int .u8 (a.b.g q)]=[Value.int .u8 (ZBlk.jL (ZBlk.mk c (0:Int) (0:Int) (0:Int) (0:Int) (ByteArray.mk #[]) (ByteArray.mk #[])) (λ(x_3:Nat)=>(0:Int)) (Int.toNat (cpc c)) q)])/\True
def Xm(a:ZPw)(b:Nat):Prop:=(Nat.beq (List.length [Value.int .u8 (dY (ByteArray.extract (a.f.key++a.f.value) (Int.toNat (CS (imax (28+((a.p:Int)-1)*63) (0:Int)) ((ByteArray.size (a.f.key++a.f.value):Nat):Int))) (ByteArray.size (a.f.key++a.f.value))) b)]) 1&&List.all [Value.int .u8 (dY (ByteArray.extract (a.f.key++a.f.value) (Int.toNat (CS (imax (28+((a.p:Int)-1)*63) (0:Int)) ((ByteArray.size (a.f.key++a.f.value):Nat):Int))) (ByteArray.size (a.f.key++a.f.value))) b)] Value.oneCell')=true
def aiN(a:ZPw):Prop:=bW a.f.key/\bW a.f.value/\bW a.f.to/\dV/\(4:Int)=4/\bK a.f.epoch/\bW a.f.pos/\a.f.past=a.f.past/\(0:Int)=0/\a.f.had=a.f.had/\bW a.f.old.key/\bK a.f.old.id/\bK a.f.old.ver/\bK a.f.old.line/\bK a.f.old.cls/\fV a.ln/\bK a.c/\1=(0:Int)+1/\jF a.f
def aiO(a:ZPw):Prop:=bW a.f.key/\bW a.f.value/\bW a.f.to/\dV/\(5:Int)=4/\bK a.f.epoch/\bW a.f.pos/\a.f.past=a.f.past/\(0:Int)=0/\a.f.had=a.f.had/\bW a.f.old.key/\bK a.f.old.id/\bK a.f.old.ver/\bK a.f.old.line/\bK a.f.old.cls/\fV a.ln/\bK a.c/\0=(0:Int)+1/\jF a.f
def sJ(a:ZPt)(b:ZPp):Prop:=0=0/\(a.t:Int)=(b.t:Int)/\a.e=b.f.epoch/\(0=0/\1=1/\1=1)/\True
def aiP(a:ZPw):Prop:=bW a.f.key/\bW a.f.value/\bW a.f.to/\dV/\(4:Int)=5/\bK a.f.epoch/\bW a.f.pos/\a.f.past=a.f.past/\(0:Int)=0/\a.f.had=a.f.had/\bW a.f.old.key/\bK a.f.old.id/\bK a.f.old.ver/\bK a.f.old.line/\bK a.f.old.cls/\fV a.ln/\bK a.c/\(1:Int)=0/\jF a.f
def E8(a:ZDm):Prop:=Hd (a.b.may/\a.key.size<1099511627776/\a.value.size<1099511627776/\ ∀k:Nat,k<64*a.b.dJ->a.g k=a.b.enc k)
def zU(a:lX):Prop:=Hd (a.d.ok/\a.k<a.d.n/\a.b.ok/\a.a+a.b.n<=64)
def LZ:Prop:=True/\True/\True/\0=0/\True/\0=0/\True/\True/\True/\True/\True/\True
def Fa(a:lX):Prop:=(a.a:Int)=0/\(a.b.q=0/\a.b.n=64)/\True
def L6(a:ZPt)(b:ZPp):Prop:=a.x.key=b.f.key/\a.x.value=b.f.value/\true=true/\zT a b
def L8(a:lX)(b:Nat):Prop:=0=0/\(a.k:Int)=(b:Int)/\Fa a
def sK:Prop:=(0:Int)<=5/\(0:Int)<=1
def L9(a:ZDm)(b:Pq):Prop:=(64*a.b.dJ=64/\ ∀q:Nat,q<64*a.b.dJ->[Value.int .u8 (a.g q)]=[Value.int .u8 (b.d.b (b.k*193+(0+(q-0))))])/\True
def Mc(a:ZPt)(b:ZPp):Prop:=((2:Int)=2/\a.x.key=b.f.key/\a.x.value=b.f.value/\false=false/\zT a b)/\True
def aiQ(x:ZPw):Prop:=
 ((0:Int)<=4/\(0:Int)<=2)/\ ∃x_1:Int,Hd (0<=x_1/\x_1<=3)/\(x_1=x.c/\True)/\True/\ ∀y:Unit,True-> ∃x_2:lX,zU x_2/\L8 x_2 x.ln/\LY x_2 x.a.d x_1/\ ∀y_1:Unit,True->I64 (1:Int)/\True/\I64 ((0:Int)+1)/\cP (BEq.beq (1:Int) (spn x.c)) ((∃y_2:Unit,Hd ((1:Int)≠spn x.c)/\((2:Int)=2/\aiP x)/\sF x x_2)\/ ∃y_2:Unit,Hd (1=spn x.c)/\((2:Int)=2/\E5 x)/\sF x x_2) ((∃y_2:Unit,Hd ((1:Int)≠spn x.c)/\((2:Int)=2/\aiN x)/\sF x x_2)\/ ∃y_2:Unit,Hd (1=spn x.c)/\((2:Int)=2/\aiO x)/\sF x x_2)
theorem aiR(x:ZPw):aiQ x=wpF Tryz.prog aqL tt (noA x) 200 6 34 ((EX 2).args x) (hO 11 (flatP 1 ((EX 2).l x))) (λv h'=>endsPK 1 x v h' (EX 2).outs):=by kernel_rfl
def arE(x:ZPw):Prop:=
 ((0:Int)<=4/\(0:Int)<=2)/\cP (BEq.beq (x.p:Int) (0:Int)) (∃x_1:Int,Hd (0<=x_1/\x_1<=3)/\(x_1=x.c/\True)/\True/\ ∀y:Unit,True-> ∃x_2:lX,zU x_2/\L8 x_2 x.ln/\LY x_2 x.a.d x_1/\ ∀y_1:Unit,True->I64 ((x.p:Int)+1)/\True/\I64 ((x.p:Int)+1)/\cP (BEq.beq ((x.p:Int)+1) (spn x.c)) ((∃y_2:Unit,Xg x x_2)\/ ∃y_2:Unit,Hd ((x.p:Int)+1=spn x.c)/\((2:Int)=2/\E5 x)/\sF x x_2) ((∃y_2:Unit,Xe x x_2)\/ ∃y_2:Unit,Xf x x_2)) (((0:Int)<=64/\(0:Int)<=0/\(0:Int)<=281474976710592/\(0:Int)<=4611686018427387839)/\((0:Int)<=0/\(0:Int)<=63)/\0<64/\((x.f.key.size+x.f.value.size:Nat):Int)<=9223372036854775807/\I64 ((x.p:Int)-1)/\I64 (((x.p:Int)-1)*63)/\I64 (28+((x.p:Int)-1)*63)/\(0:Int)<=1/\(1<=64/\64<=64/\64<=64)/\0<=CS (imax (28+((x.p:Int)-1)*63) (0:Int)) ((ByteArray.size (x.f.key++x.f.value):Nat):Int)/\(Int.toNat (CS (imax (28+((x.p:Int)-1)*63) (0:Int)) ((ByteArray.size (x.f.key++x.f.value):Nat):Int))<=ByteArray.size (x.f.key++x.f.value)/\ByteArray.size (x.f.key++x.f.value)<=ByteArray.size (x.f.key++x.f.value)/\ByteArray.size (x.f.key++x.f.value)<=ByteArray.size (x.f.key++x.f.value))/\64<=64/\
 cP (Nat.ble (ByteArray.size (ByteArray.extract (x.f.key++x.f.value) (Int.toNat (CS (imax (28+((x.p:Int)-1)*63) (0:Int)) ((ByteArray.size (x.f.key++x.f.value):Nat):Int))) (ByteArray.size (x.f.key++x.f.value)))) 63) ((∀k:Nat,k<ByteArray.size (ByteArray.extract (x.f.key++x.f.value) (Int.toNat (CS (imax (28+((x.p:Int)-1)*63) (0:Int)) ((ByteArray.size (x.f.key++x.f.value):Nat):Int))) (ByteArray.size (x.f.key++x.f.value)))->Xm x k)/\True/\I64 ((x.ln:Int)+(x.p:Int))/\ ∃x_1:lX,zU x_1/\(0=0/\(x_1.k:Int)=(x.ln:Int)+(x.p:Int)/\Fa x_1)/\(ownM x_1.d.os=ownM x.a.d.os/\(x_1.b.N=64/\ ∀q:Nat,q<x_1.b.N->[Value.int .u8 (x_1.b.g q)]=Cs.eff (λ(p:Nat)=>cond (Nat.ble 1 p&&Nat.blt p (1+ByteArray.size (ByteArray.extract (x.f.key++x.f.value) (Int.toNat (CS (imax (28+((x.p:Int)-1)*63) (0:Int)) ((ByteArray.size (x.f.key++x.f.value):Nat):Int))) (ByteArray.size (x.f.key++x.f.value))))) [Value.int .u8 (dY (ByteArray.extract (x.f.key++x.f.value) (Int.toNat (CS (imax (28+((x.p:Int)-1)*63) (0:Int)) ((ByteArray.size (x.f.key++x.f.value):Nat):Int))) (ByteArray.size (x.f.key++x.f.value))) (p-1))] (Cs.eff (λ(x_2:Nat)=>[Value.int .u8 0]) [(0,[Value.int .u8 2])] p)) [] q)/\True)/\Xh x x_1) ((∀k:Nat,k<63->Xm x k)/\True/\I64 ((x.ln:Int)+(x.p:Int))/\ ∃x_1:lX,zU x_1/\(0=0/\(x_1.k:Int)=(x.ln:Int)+(x.p:Int)/\Fa x_1)/\(ownM x_1.d.os=ownM x.a.d.os/\(x_1.b.N=64/\
 ∀q:Nat,q<x_1.b.N->[Value.int .u8 (x_1.b.g q)]=Cs.eff (λ(p:Nat)=>cond (Nat.ble 1 p&&Nat.blt p 64) [Value.int .u8 (dY (ByteArray.extract (x.f.key++x.f.value) (Int.toNat (CS (imax (28+((x.p:Int)-1)*63) (0:Int)) ((ByteArray.size (x.f.key++x.f.value):Nat):Int))) (ByteArray.size (x.f.key++x.f.value))) (p-1))] (Cs.eff (λ(x_2:Nat)=>[Value.int .u8 0]) [(0,[Value.int .u8 2])] p)) [] q)/\True)/\Xh x x_1))
theorem anB(x:ZPw):arE x=wpF Tryz.prog aqL tt (noA x) 200 6 34 ((EY).args x) (hO 11 (flatP 1 ((EY).l x))) (λv h'=>endsPK 1 x v h' (EY).outs):=by kernel_rfl
def aiS(x:ZPr):Prop:=
 ((0:Int)<=2/\(0:Int)<=4)/\I64 ((x.ln:Int)+0)/\(AV.lit (Value.int .i64 0)=AV.lit (Value.int .i64 0)/\lF x.ln/\True)/\ ∃x_1:Pq,Hd (x_1.d.ok/\x_1.k<x_1.d.n)/\(0=0/\(x_1.k:Int)=(x.ln:Int)+0/\True)/\(ownM x_1.d.os=ownM x.a.d.os/\True)/\ ∀y:Unit,True->True/\64<=64/\(2*(0+64)+1000)*1<=281474976710656/\I64 (1:Int)/\(AV.lit (Value.int .i64 1)=AV.lit (Value.int .i64 1)/\True)/\cP (Bool.not (BEq.beq (1:Int) (spn x.b.cls))) ((∃y_1:Unit,Hd ((1:Int)≠spn x.b.cls)/\((1:Int)=1/\bW x.f.key/\bW x.f.value/\bW x.f.to/\dV/\(2:Int)=2/\bK x.f.epoch/\bW x.f.pos/\x.f.past=x.f.past/\(0:Int)=0/\true=true/\bW x.b.key/\bK x.b.id/\bK x.b.ver/\fV x.ln/\bK x.b.cls/\bK x.f.line/\bK x.f.cls/\(1:Int)=1/\(0=0/\64=64)/\lD x.f)/\iT x.a/\(64=64/\ ∀q:Nat,q<64->[Value.int .u8 (x.b.enc q)]=[Value.int .u8 (x_1.d.b (x_1.k*193+(0+(q-0))))])/\nI x.a x_1.d)\/ ∃y_1:Unit,Hd (1=spn x.b.cls)/\((1:Int)=1/\bW x.f.key/\bW x.f.value/\bW x.f.to/\dV/\(6:Int)=2/\bK x.f.epoch/\bW x.f.pos/\x.f.past=x.f.past/\(0:Int)=0/\true=true/\bW x.b.key/\bK x.b.id/\bK x.b.ver/\fV x.ln/\bK x.b.cls/\bK x.f.line/\bK x.f.cls/\(1:Int)=1/\False/\(0:Int)=0/\dV/\bK x.f.code/\zQ x)/\iT x.a/\nI x.a x_1.d) (∃x_2:ZDm,E8 x_2/\((0=0/\64*x_2.b.dJ=64)/\True)/\L9 x_2 x_1/\
 ∀y_1:Unit,True->cP (BEq.beq x_2.id x.b.id) (cP (BEq.beq x_2.ver x.b.ver) (cP (Bool.not (BEq.beq (ByteArray.toList x_2.key) (ByteArray.toList x.b.key))) (LV x x_1.d) ((∃y_2:Unit,Hd ((1:Int)≠spn x.b.cls)/\False)\/ ∃y_2:Unit,Hd (1=spn x.b.cls)/\((1:Int)=1/\bW x.f.key/\bW x.f.value/\bW x.f.to/\dV/\(6:Int)=6/\bK x.f.epoch/\bW x.f.pos/\x.f.past=x.f.past/\(0:Int)=0/\true=true/\bW x.b.key/\bK x.b.id/\bK x.b.ver/\fV x.ln/\bK x.b.cls/\bK x.f.line/\bK x.f.cls/\(1:Int)=1/\dV/\(0:Int)=0/\dV/\bK x.f.code/\true=true/\x.b.value=x_2.value/\jh x.f.aep)/\iT x.a/\nI x.a x_1.d)) (LV x x_1.d)) (LV x x_1.d))
theorem aiT(x:ZPr):aiS x=wpF Tryz.prog arD tt (noA x) 200 6 34 ((RS).args x) (hO 11 (flatP 1 ((RS).l x))) (λv h'=>endsPK 1 x v h' (RS).outs):=by kernel_rfl
def aiU(x:ZPr):Prop:=
 0+64*x.p<=64*x.p/\cP (Nat.beq (64*x.p) 0) (((0:Int)<=2/\(0:Int)<=4)/\I64 ((x.ln:Int)+(x.p:Int))/\(lF x.p/\lF x.ln/\True)/\ ∃x_1:Pq,Hd (x_1.d.ok/\x_1.k<x_1.d.n)/\(0=0/\(x_1.k:Int)=(x.ln:Int)+(x.p:Int)/\True)/\(ownM x_1.d.os=ownM x.a.d.os/\True)/\ ∀y:Unit,True->True/\64<=64/\(2*(0+64)+1000)*1<=281474976710656/\I64 ((x.p:Int)+1)/\(AV.lit (Value.int .i64 ((x.p:Int)+1))=AV.lit (Value.int .i64 ((x.p:Int)+1))/\True)/\cP (Bool.not (BEq.beq ((x.p:Int)+1) (spn x.b.cls))) ((∃y_1:Unit,EZ x/\((1:Int)=1/\bW x.f.key/\bW x.f.value/\bW x.f.to/\dV/\(2:Int)=2/\bK x.f.epoch/\bW x.f.pos/\x.f.past=x.f.past/\(0:Int)=0/\true=true/\bW x.b.key/\bK x.b.id/\bK x.b.ver/\fV x.ln/\bK x.b.cls/\bK x.f.line/\bK x.f.cls/\sG x.p/\(0=0/\64*(x.p+1)=64)/\lD x.f)/\iT x.a/\zS x/\(64*(x.p+1)=64/\ ∀q:Nat,q<64*(x.p+1)->[Value.int .u8 (x.b.enc q)]=[Value.int .u8 (x_1.d.b (x_1.k*193+(0+(q-0))))])/\nI x.a x_1.d)\/Xl x x_1.d) (∃x_2:ZDm,E8 x_2/\((0=0/\64*x_2.b.dJ=64)/\True)/\L9 x_2 x_1/\Xi x_2 x x_1.d)) ((2*(0+64*x.p)+1000)*1<=281474976710656/\((0:Int)<=2/\(0:Int)<=4)/\I64 ((x.ln:Int)+(x.p:Int))/\(lF x.p/\lF x.ln/\True)/\ ∃x_1:Pq,Hd (x_1.d.ok/\x_1.k<x_1.d.n)/\(0=0/\(x_1.k:Int)=(x.ln:Int)+(x.p:Int)/\True)/\(ownM x_1.d.os=ownM x.a.d.os/\True)/\ ∀y:Unit,True->True/\0+64*x.p=0+64*x.p/\64<=64/\
 (∀k:Nat,k<64->(Nat.beq (List.length [Value.int .u8 (x_1.d.b (x_1.k*193+(0+k)))]) 1&&List.all [Value.int .u8 (x_1.d.b (x_1.k*193+(0+k)))] Value.oneCell')=true)/\(2*(0+64*x.p+64)+1000)*1<=281474976710656/\I64 ((x.p:Int)+1)/\(AV.lit (Value.int .i64 ((x.p:Int)+1))=AV.lit (Value.int .i64 ((x.p:Int)+1))/\True)/\cP (Bool.not (BEq.beq ((x.p:Int)+1) (spn x.b.cls))) ((∃y_1:Unit,EZ x/\((1:Int)=1/\bW x.f.key/\bW x.f.value/\bW x.f.to/\dV/\(2:Int)=2/\bK x.f.epoch/\bW x.f.pos/\x.f.past=x.f.past/\(0:Int)=0/\true=true/\bW x.b.key/\bK x.b.id/\bK x.b.ver/\fV x.ln/\bK x.b.cls/\bK x.f.line/\bK x.f.cls/\sG x.p/\(0=0/\64*(x.p+1)=0+64*x.p+64)/\lD x.f)/\iT x.a/\zS x/\(64*(x.p+1)=0+64*x.p+64/\ ∀q:Nat,q<64*(x.p+1)->[Value.int .u8 (x.b.enc q)]=Cs.eff (λ(q_1:Nat)=>cond (Nat.blt q_1 (0+64*x.p)) [Value.int .u8 (x.b.enc (0+(q_1-0)))] [Value.int .u8 (x_1.d.b (x_1.k*193+(0+(q_1-(0+64*x.p)))))]) [] q)/\nI x.a x_1.d)\/Xl x x_1.d) (∃x_2:ZDm,E8 x_2/\((0=0/\64*x_2.b.dJ=0+64*x.p+64)/\True)/\((64*x_2.b.dJ=0+64*x.p+64/\ ∀q:Nat,q<64*x_2.b.dJ->[Value.int .u8 (x_2.g q)]=Cs.eff (λ(q_1:Nat)=>cond (Nat.blt q_1 (0+64*x.p)) [Value.int .u8 (x.b.enc (0+(q_1-0)))] [Value.int .u8 (x_1.d.b (x_1.k*193+(0+(q_1-(0+64*x.p)))))]) [] q)/\True)/\Xi x_2 x x_1.d))
theorem aiV(x:ZPr):aiU x=wpF Tryz.prog arD tt (noA x) 200 6 34 ((aat).args x) (hO 12 (flatP 2 ((aat).l x))) (λv h'=>endsPK 2 x v h' (aat).outs):=by kernel_rfl
def Xn(x:ZPp):Prop:=
 sK/\sH x/\ ∃x_1:ZPt,Hd (x_1.ok (2:Int) false)/\sJ x_1 x/\(ownM x_1.a.os=ownM x.a.os/\Mc x_1 x)/\ ∀y:Unit,True->True/\((0:Int)<=0/\(0:Int)<=0)/\0<1/\True/\True/\True/\True/\ ∃y_1:Unit,True/\((2:Int)=2/\bW x.f.key/\bW x.f.value/\bW x.f.to/\dV/\(6:Int)=6/\bK x.f.epoch/\bW x.f.pos/\x.f.past=x.f.past/\(0:Int)=0/\false=false/\bW x.f.old.key/\bK x.f.old.id/\bK x.f.old.ver/\bK x.f.old.line/\bK x.f.old.cls/\(-(1:Int))=(-(1:Int))/\bK x.f.cls/\bK x.f.piece/\dV/\(0:Int)=0/\dV/\bK x.f.code/\false=false/\bW x.f.ans/\jh x.f.epoch)/\ownM (ZSto.os (ZCg.res (ZPt.cg (x.pt (2:Int))) (2:Int) false))=ownM (ZSto.os (x_1.cg.res (2:Int) false))/\True
theorem ado(x:ZPp):Xn x=wpF Tryz.prog (anz 2 false) tt (noA x) 200 6 34 ((LP 2 false).args x) (hO 1 ((LP 2 false).os x)) (λv h'=>eF 1 x v h' (LP 2 false).outs):=by kernel_rfl
def Xo(x:ZPp):Prop:=
 sK/\sH x/\ ∃x_1:ZPt,Hd (x_1.bad false)/\sJ x_1 x/\(LZ/\ownM x_1.a.ck.os=ownM x.a.ck.os/\tabA x_1.a.L=tabA x.a.L/\Mc x_1 x)/\LW x_1.a x
theorem adp(x:ZPp):Xo x=wpF Tryz.prog (anA 2 false) tt (noA x) 200 6 34 ((LQ 2 false).args x) (hO 11 (flatP 1 ((LQ 2 false).l x))) (λv h'=>endsPK 1 x v h' (LQ 2 false).outs):=by kernel_rfl
def Xp(x:ZPp):Prop:=
 sK/\sH x/\ ∃x_1:ZPt,Hd (x_1.ok (2:Int) true)/\sJ x_1 x/\(ownM x_1.a.os=ownM x.a.os/\((2:Int)=2/\L6 x_1 x)/\True)/\ ∀y:Unit,True->True/\((0:Int)<=0/\(0:Int)<=0)/\0<1/\True/\True/\True/\True/\ ∃y_1:Unit,True/\((2:Int)=2/\aiM x.f)/\ownM (ZSto.os (ZCg.res (ZPt.cg (x.pt (2:Int))) (2:Int) true))=ownM (ZSto.os (x_1.cg.res (2:Int) true))/\True
theorem adq(x:ZPp):Xp x=wpF Tryz.prog (anz 2 true) tt (noA x) 200 6 34 ((LP 2 true).args x) (hO 1 ((LP 2 true).os x)) (λv h'=>eF 1 x v h' (LP 2 true).outs):=by kernel_rfl
def Xq(x:ZPp):Prop:=
 sK/\sH x/\ ∃x_1:ZPt,Hd (x_1.bad true)/\sJ x_1 x/\(LZ/\ownM x_1.a.ck.os=ownM x.a.ck.os/\tabA x_1.a.L=tabA x.a.L/\((2:Int)=2/\L6 x_1 x)/\True)/\LW x_1.a x
theorem adr(x:ZPp):Xq x=wpF Tryz.prog (anA 2 true) tt (noA x) 200 6 34 ((LQ 2 true).args x) (hO 11 (flatP 1 ((LQ 2 true).l x))) (λv h'=>endsPK 1 x v h' (LQ 2 true).outs):=by kernel_rfl
def aiW(x:ZPs):Prop:=
 ∃y:Unit,True/\((1:Int)=1/\LX x.f)/\ownM x.a.os=ownM x.a.os/\True
theorem aiX(x:ZPs):aiW x=wpF Tryz.prog Ez tt (noA x) 200 6 34 ((yF 1).args x) (hO 1 ((yF 1).os x)) (λv h'=>eF 1 x v h' (yF 1).outs):=by kernel_rfl
def aiY(x:ZPs):Prop:=
 ∃y:Unit,True/\((2:Int)=2/\LX x.f)/\ownM x.a.os=ownM x.a.os/\True
theorem aiZ(x:ZPs):aiY x=wpF Tryz.prog Ez tt (noA x) 200 6 34 ((yF 2).args x) (hO 1 ((yF 2).os x)) (λv h'=>eF 1 x v h' (yF 2).outs):=by kernel_rfl
def cZ(a:ByteArray):Prop:=a=a
def eH:Prop:=Value.slice none 0 0=Value.slice none 0 0
def sN(a:ZFp):Prop:=eH/\(0:Int)=0/\eH/\a.code=a.code/\a.found=a.found/\cZ a.ans/\eH/\eH/\a.aep=a.aep/\True
def sO(a:ZFp):Prop:=a.line=a.line/\a.cls=a.cls/\a.piece=a.piece/\sN a
def Xr(a:ZFp)(b:ByteArray)(c:ZLnk):Prop:=a.epoch=a.epoch/\b=a.pos/\true=a.past/\(0:Int)=0/\a.had=true/\a.old.key=c.key/\a.old.id=c.id/\a.old.ver=c.ver/\a.old.line=c.line/\a.old.cls=c.cls/\sO a
def fB(a:Lks)(b:Lks):Prop:=(True/\True/\True/\True/\True/\0=0/\True/\True/\True/\True/\True/\True)/\tabA a=tabA b/\True
def Md(a:ZLnk):Prop:=AV.agg [AV.lit (Value.string a.key),AV.lit (Value.int .u64 a.id),AV.lit (Value.int .u64 a.ver),AV.lit (Value.int .i64 a.line),AV.lit (Value.int .i64 a.cls)]=AV.agg [AV.lit (Value.string a.key),AV.lit (Value.int .u64 a.id),AV.lit (Value.int .u64 a.ver),AV.lit (Value.int .i64 a.line),AV.lit (Value.int .i64 a.cls)]/\True
def Me(a:ZFp):Prop:=a.line=a.line/\a.cls=a.cls/\ite ((2:Int)=1) (0:Int) a.piece=a.piece/\sN a
def Xt(a:ZFp)(b:ZLnk):Prop:=a.epoch=a.epoch/\cZ a.pos/\a.past=a.past/\(0:Int)=0/\true=false/\b.key=ByteArray.mk #[]/\b.id=0/\b.ver=0/\b.line=0/\b.cls=0/\Me a
def Fb(a:ZFp)(b:ByteArray):Prop:=a.epoch=a.epoch/\b=a.pos/\true=a.past/\(0:Int)=0/\a.had=false/\a.old.key=ByteArray.mk #[]/\a.old.id=0/\a.old.ver=0/\a.old.line=0/\a.old.cls=0/\sO a
def Fe(a:ZFp):Prop:=a.epoch=a.epoch/\cZ a.pos/\a.past=a.past/\(0:Int)=0/\false=false/\ByteArray.mk #[]=ByteArray.mk #[]/\(0:Int)=0/\(0:Int)=0/\(0:Int)=0/\(0:Int)=0/\sO a
def MB(a:ZPs)(b:Lks):Prop:=cP (decide (a.f.line<0)) ((∃y_2:ZLnk,Hd (a.goes y_2)/\((2:Int)=2/\cZ a.f.key/\cZ a.f.value/\cZ a.f.to/\eH/\(1:Int)=3/\Fb a.f y_2.key)/\fB a.a.L b)\/(∃y_2:ZLnk,Hd (a.hit y_2)/\((2:Int)=2/\cZ a.f.key/\cZ a.f.value/\cZ a.f.to/\eH/\nx3 a.f (2:Int) true=3/\Xt a.f y_2)/\fB a.a.L b)\/ ∃y_2:Unit,Hd a.miss/\((2:Int)=2/\cZ a.f.key/\cZ a.f.value/\cZ a.f.to/\eH/\nx3 a.f (2:Int) false=3/\Fe a.f)/\fB a.a.L b) ((∃y_2:ZLnk,Hd (a.goes y_2)/\((2:Int)=2/\cZ a.f.key/\cZ a.f.value/\cZ a.f.to/\eH/\(1:Int)=5/\Fb a.f y_2.key)/\fB a.a.L b)\/(∃y_2:ZLnk,Hd (a.hit y_2)/\((2:Int)=2/\cZ a.f.key/\cZ a.f.value/\cZ a.f.to/\eH/\nx3 a.f (2:Int) true=5/\Xt a.f y_2)/\fB a.a.L b)\/ ∃y_2:Unit,Hd a.miss/\((2:Int)=2/\cZ a.f.key/\cZ a.f.value/\cZ a.f.to/\eH/\nx3 a.f (2:Int) false=5/\Fe a.f)/\fB a.a.L b)
def Xu(a:ZFp)(b:ZLnk)(c:ZLnk):Prop:=a.epoch=a.epoch/\cZ a.pos/\a.past=a.past/\(0:Int)=0/\true=true/\b.key=c.key/\b.id=c.id/\b.ver=c.ver/\b.line=c.line/\b.cls=c.cls/\Me a
def Xv(a:ZFp)(b:ZLnk):Prop:=a.epoch=a.epoch/\cZ a.pos/\a.past=a.past/\(0:Int)=0/\false=true/\ByteArray.mk #[]=b.key/\0=b.id/\0=b.ver/\0=b.line/\0=b.cls/\sO a
def MC(a:ZFp)(b:ByteArray):Prop:=a.epoch=a.epoch/\a.pos=b/\a.past=true/\(0:Int)=0/\false=a.had/\ByteArray.mk #[]=a.old.key/\0=a.old.id/\0=a.old.ver/\0=a.old.line/\0=a.old.cls/\sO a
def MF(a:ZFp)(b:ByteArray)(c:ByteArray):Prop:=cZ a.key/\cZ a.value/\cZ a.to/\eH/\(1:Int)=1/\a.epoch=a.epoch/\b=c/\true=true/\(0:Int)=0/\a.had=a.had/\cZ a.old.key/\a.old.id=a.old.id/\a.old.ver=a.old.ver/\a.old.line=a.old.line/\a.old.cls=a.old.cls/\sO a
def ai0(a:ZLnk)(b:ZPs)(c:Lks):Prop:=True/\True/\cP (@Op.bytesLess (ByteArray.toList a.key) (ByteArray.toList b.f.key)) ((∃y_2:ZLnk,Hd (b.goes y_2)/\((2:Int)=2/\MF b.f y_2.key a.key)/\fB b.a.L c)\/(∃y_2:ZLnk,Hd (b.hit y_2)/\((2:Int)=2/\cZ b.f.key/\cZ b.f.value/\cZ b.f.to/\eH/\nx3 b.f (2:Int) true=1/\b.f.epoch=b.f.epoch/\b.f.pos=a.key/\b.f.past=true/\(0:Int)=0/\true=b.f.had/\y_2.key=b.f.old.key/\y_2.id=b.f.old.id/\y_2.ver=b.f.old.ver/\y_2.line=b.f.old.line/\y_2.cls=b.f.old.cls/\Me b.f)/\fB b.a.L c)\/ ∃y_2:Unit,Hd b.miss/\((2:Int)=2/\cZ b.f.key/\cZ b.f.value/\cZ b.f.to/\eH/\nx3 b.f (2:Int) false=1/\MC b.f a.key)/\fB b.a.L c) (cP (BEq.beq (ByteArray.toList a.key) (ByteArray.toList b.f.key)) (Md a/\True/\cP (decide (b.f.line<0)) ((∃y_2:ZLnk,Hd (b.goes y_2)/\((2:Int)=2/\cZ b.f.key/\cZ b.f.value/\cZ b.f.to/\eH/\(1:Int)=3/\Xr b.f y_2.key a)/\fB b.a.L c)\/(∃y_2:ZLnk,Hd (b.hit y_2)/\((2:Int)=2/\cZ b.f.key/\cZ b.f.value/\cZ b.f.to/\eH/\nx3 b.f (2:Int) true=3/\Xu b.f y_2 a)/\fB b.a.L c)\/ ∃y_2:Unit,Hd b.miss/\((2:Int)=2/\cZ b.f.key/\cZ b.f.value/\cZ b.f.to/\eH/\nx3 b.f (2:Int) false=3/\Xv b.f a)/\fB b.a.L c) ((∃y_2:ZLnk,Hd (b.goes y_2)/\((2:Int)=2/\cZ b.f.key/\cZ b.f.value/\cZ b.f.to/\eH/\(1:Int)=5/\Xr b.f y_2.key a)/\fB b.a.L c)\/(∃y_2:ZLnk,Hd (b.hit y_2)/\((2:Int)=2/\cZ b.f.key/\cZ b.f.value/\cZ b.f.to/\eH/\nx3 b.f (2:Int) true=5/\Xu b.f y_2 a)/\fB b.a.L c)\/ ∃y_2:Unit,Hd b.miss/\((2:Int)=2/\
 cZ b.f.key/\cZ b.f.value/\cZ b.f.to/\eH/\nx3 b.f (2:Int) false=5/\Xv b.f a)/\fB b.a.L c)) (MB b c))
def sQ(a:ByteArray):Prop:=AV.lit (Value.string a)=AV.lit (Value.string a)
def vM(a:ByteArray):Prop:=sQ a/\True
def qp(a:Bool):Prop:=AV.lit (Value.bool a)=AV.lit (Value.bool a)
def zV(a:ZNk):Prop:=Hd (nextL a.L (bkt a.s) a.pos a.past= @Option.none ZLnk)
def zW(a:ZNk)(b:ByteArray)(c:ZFp):Prop:=0=0/\((bkt a.s:Nat):Int)=((bkt b:Nat):Int)/\a.pos=c.pos/\a.past=c.past/\True
def zX(a:ZNk)(b:ZLnk):Prop:=Hd (nextL a.L (bkt a.s) a.pos a.past=some b)
def oM(a:ByteArray):Prop:=Hd (a.size<1099511627776)
def ai1(a:ZPs)(b:ByteArray):Prop:=(qp a.f.past/\vM a.f.pos)/\ ∃x_2:ZNk,oM x_2.pos/\zW x_2 b a.f/\(tabA x_2.L=tabA a.a.L/\True)/\(∀y_1:Unit,zV x_2->True/\True/\MB a x_2.L)/\ ∀y_1:ZLnk,zX x_2 y_1->ai0 y_1 a x_2.L
def Xw(a:ZFp):Prop:=a.line=a.line/\a.cls=a.cls/\ite ((1:Int)=1) (0:Int) a.piece=a.piece/\sN a
def MG(a:ZPs)(b:Lks):Prop:=(∃y_2:ZLnk,Hd (a.goes y_2)/\((1:Int)=1/\cZ a.f.key/\cZ a.f.value/\cZ a.f.to/\eH/\(1:Int)=6/\Fb a.f y_2.key)/\fB a.a.L b)\/(∃y_2:ZLnk,Hd (a.hit y_2)/\((1:Int)=1/\cZ a.f.key/\cZ a.f.value/\cZ a.f.to/\eH/\nx3 a.f (1:Int) true=6/\a.f.epoch=a.f.epoch/\cZ a.f.pos/\a.f.past=a.f.past/\(0:Int)=0/\true=false/\y_2.key=ByteArray.mk #[]/\y_2.id=0/\y_2.ver=0/\y_2.line=0/\y_2.cls=0/\Xw a.f)/\fB a.a.L b)\/ ∃y_2:Unit,Hd a.miss/\((1:Int)=1/\cZ a.f.key/\cZ a.f.value/\cZ a.f.to/\eH/\nx3 a.f (1:Int) false=6/\Fe a.f)/\fB a.a.L b
def ai2(a:ZLnk)(b:ZPs)(c:Lks):Prop:=True/\True/\cP (@Op.bytesLess (ByteArray.toList a.key) (ByteArray.toList b.f.key)) ((∃y_2:ZLnk,Hd (b.goes y_2)/\((1:Int)=1/\MF b.f y_2.key a.key)/\fB b.a.L c)\/(∃y_2:ZLnk,Hd (b.hit y_2)/\((1:Int)=1/\cZ b.f.key/\cZ b.f.value/\cZ b.f.to/\eH/\nx3 b.f (1:Int) true=1/\b.f.epoch=b.f.epoch/\b.f.pos=a.key/\b.f.past=true/\(0:Int)=0/\true=b.f.had/\y_2.key=b.f.old.key/\y_2.id=b.f.old.id/\y_2.ver=b.f.old.ver/\y_2.line=b.f.old.line/\y_2.cls=b.f.old.cls/\Xw b.f)/\fB b.a.L c)\/ ∃y_2:Unit,Hd b.miss/\((1:Int)=1/\cZ b.f.key/\cZ b.f.value/\cZ b.f.to/\eH/\nx3 b.f (1:Int) false=1/\MC b.f a.key)/\fB b.a.L c) (cP (BEq.beq (ByteArray.toList a.key) (ByteArray.toList b.f.key)) (Md a/\True/\((∃y_2:ZLnk,Hd (b.goes y_2)/\((1:Int)=1/\cZ b.f.key/\cZ b.f.value/\cZ b.f.to/\eH/\(1:Int)=2/\b.f.epoch=b.f.epoch/\y_2.key=b.f.pos/\true=b.f.past/\(0:Int)=0/\b.f.had=true/\b.f.old.key=a.key/\b.f.old.id=a.id/\b.f.old.ver=a.ver/\b.f.old.line=a.line/\b.f.old.cls=a.cls/\b.f.line=b.f.line/\b.f.cls=b.f.cls/\b.f.piece=0/\sN b.f)/\fB b.a.L c)\/(∃y_2:ZLnk,Hd (b.hit y_2)/\((1:Int)=1/\cZ b.f.key/\cZ b.f.value/\cZ b.f.to/\eH/\nx3 b.f (1:Int) true=2/\b.f.epoch=b.f.epoch/\cZ b.f.pos/\b.f.past=b.f.past/\(0:Int)=0/\true=true/\y_2.key=a.key/\y_2.id=a.id/\y_2.ver=a.ver/\y_2.line=a.line/\y_2.cls=a.cls/\b.f.line=b.f.line/\b.f.cls=b.f.cls/\ite ((1:Int)=1) (0:Int) b.f.piece=0/\sN b.f)/\fB b.a.L c)\/ ∃y_2:Unit,Hd b.miss/\((1:Int)=1/\cZ b.f.key/\cZ b.f.value/\
 cZ b.f.to/\eH/\nx3 b.f (1:Int) false=2/\b.f.epoch=b.f.epoch/\cZ b.f.pos/\b.f.past=b.f.past/\(0:Int)=0/\false=true/\ByteArray.mk #[]=a.key/\0=a.id/\0=a.ver/\0=a.line/\0=a.cls/\b.f.line=b.f.line/\b.f.cls=b.f.cls/\b.f.piece=0/\sN b.f)/\fB b.a.L c)) (MG b c))
def Xx(a:ZPs)(b:ByteArray):Prop:=(qp a.f.past/\vM a.f.pos)/\ ∃x_2:ZNk,oM x_2.pos/\zW x_2 b a.f/\(tabA x_2.L=tabA a.a.L/\True)/\(∀y_1:Unit,zV x_2->True/\True/\MG a x_2.L)/\ ∀y_1:ZLnk,zX x_2 y_1->ai2 y_1 a x_2.L
def zY(a:ZFp):Prop:=qp a.past/\sQ a.pos/\vM a.key
def Xy(a:ZPs):Prop:=zY a.f/\ ∃x_1:ByteArray,oM x_1/\(x_1=a.f.key/\True)/\True/\ ∀y:Unit,True->Xx a x_1
def Xz(a:ZPs):Prop:=zY a.f/\ ∃x_1:ByteArray,oM x_1/\(x_1=a.f.key/\True)/\True/\ ∀y:Unit,True->ai1 a x_1
def ai3(x:ZPs):Prop:=
 ((0:Int)<=1/\(0:Int)<=5)/\(zY x.f/\(∃x_1:ByteArray,oM x_1/\(x_1=x.f.key/\True)/\True/\ ∀y:Unit,True->(qp x.f.past/\vM x.f.pos)/\(∃x_2:ZNk,oM x_2.pos/\zW x_2 x_1 x.f/\(tabA x_2.L=tabA x.a.L/\True)/\(∀y_1:Unit,zV x_2->True/\True/\True/\MG x x_2.L)/\ ∀y_1:ZLnk,zX x_2 y_1->True/\ai2 y_1 x x_2.L)/\Xx x x_1)/\Xy x)/\(qp x.f.past/\sQ x.f.pos/\sQ x.f.key/\AV.ptr 0 0=AV.ptr 0 0/\True)/\Xy x
theorem ai4(x:ZPs):ai3 x=wpF Tryz.prog arC tt (noA x) 200 6 34 ((uO 1).args x) (hO 2 ((uO 1).os x)) (λv h'=>eF 2 x v h' (uO 1).outs):=by kernel_rfl
def ai5(x:ZPs):Prop:=
 ((0:Int)<=1/\(0:Int)<=5)/\(zY x.f/\(∃x_1:ByteArray,oM x_1/\(x_1=x.f.key/\True)/\True/\ ∀y:Unit,True->(qp x.f.past/\vM x.f.pos)/\(∃x_2:ZNk,oM x_2.pos/\zW x_2 x_1 x.f/\(tabA x_2.L=tabA x.a.L/\True)/\(∀y_1:Unit,zV x_2->True/\True/\True/\MB x x_2.L)/\ ∀y_1:ZLnk,zX x_2 y_1->True/\ai0 y_1 x x_2.L)/\ai1 x x_1)/\Xz x)/\(qp x.f.past/\sQ x.f.pos/\sQ x.f.key/\AV.ptr 0 0=AV.ptr 0 0/\True)/\Xz x
theorem ai6(x:ZPs):ai5 x=wpF Tryz.prog arC tt (noA x) 200 6 34 ((uO 2).args x) (hO 2 ((uO 2).os x)) (λv h'=>eF 2 x v h' (uO 2).outs):=by kernel_rfl

end Go.Proofs.YtenfleoejgjklaaGreat
end
