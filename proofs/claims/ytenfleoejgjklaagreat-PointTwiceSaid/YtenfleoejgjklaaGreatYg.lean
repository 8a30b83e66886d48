import Derived.Test.YtenfleoejgjklaaGreatYa
import Derived.Test.YtenfleoejgjklaaGreatYb
import Derived.Test.YtenfleoejgjklaaGreatYc
import Derived.Test.YtenfleoejgjklaaGreatYd
import Derived.Test.YtenfleoejgjklaaGreatYe
import Derived.Test.YtenfleoejgjklaaGreatYf
import Derived.KernelRfl
import Derived.Shelf.SlIter.Nil
import Derived.Ground.GgzProg
import Derived.Shelf.SortM.Plain
import Derived.Shelf.SortM.SortNone
import Derived.Ground.SlgmProg
import Derived.Sort.Walk0
import Derived.Shelf.SlSortCmp.WholeK
import Derived.Shelf.Small.Strs
import Derived.Ground.SlsfProg
import Derived.Ground.NamesProg
set_option linter.unusedVariables false
set_option linter.unusedSimpArgs false
set_option linter.unnecessarySimpa false
section
namespace Go.Proofs.YtenfleoejgjklaaGreat
open Go SE
def alc(x:ZOk)(b:Nat)(had:Bool)(P1 P2:Nat->ZOd->Prop):Prop:= ∃y:ZOd,Hd (∀k,k<4->(y.V k=if k<b then fQ (x.o.V k) x.s else x.o.V k)/\(y.z k=true->y.V k=[]))/\((List.range b).any λk=>(fF (x.o.V k) x.s).isSome)=had/\(P1 0 y/\P1 1 y/\P1 2 y/\P1 3 y/\True)/\(P2 0 y/\P2 1 y/\P2 2 y/\P2 3 y/\True)
noncomputable def J6(x:ZOk)(b:Nat):Nat->Nat->Bool->(Nat->ZOd->Prop)->(Nat->ZOd->Prop)->Prop
 |0,_,had,P1,P2=>alc x b had P1 P2
 |r+1,k,had,P1,P2=>wKo k/\ ∃q:ZTq,Hd (srt q.L/\q.L.length<1099511627776)/\((0=0/\q.L.length=(x.o.V k).length)/\q.s=x.s/\True)/\((q.L.length=(x.o.V k).length/\ ∀j:Nat,j<q.L.length->(q.L.getD j iI).cs=(nthL (x.o.V k) j).cs)/\True)/\ ∀_:Unit,True->cP (fF q.L q.s).isSome
   (wKo k/\I64 (((tY q.L q.s:Nat):Int)+1)/\ ∃v:ZDz,Hd (v.i<v.L.length/\v.L.length<=300)/\((v.z=x.o.z k/\v.L.length=(x.o.V k).length)/\(v.i:Int)=((tY q.L q.s:Nat):Int)/\(v.i:Int)+1=((tY q.L q.s:Nat):Int)+1/\True)/\((v.z=x.o.z k/\v.L.length=(x.o.V k).length/\ ∀j:Nat,j<v.L.length->(nthL v.L j).cs=(nthL (x.o.V k) j).cs)/\True)/\ ∀_:Unit,True->True/\wKo k/\True/\I64 ((k:Int)+1)/\
    J6 x b r (k+1) true (ak5 P1 k (lvI1 k (v.L.length-1))) (ak5 P2 k (lvI2 k (v.L.length-1) (Ia (nthL v.L) v.i))))
   (I64 ((k:Int)+1)/\J6 x b r (k+1) had P1 P2)
noncomputable def am6(b:Nat)(x:ZOk):Prop:= ∃s:ByteArray,Hd (s.size<1099511627776/\lvl s=b)/\(s=x.s/\True)/\True/\ ∀_:Unit,True->J6 x b b 0 false (lvP1 x.o) (lvP2 x.o)
theorem ag9: ∀b,1<=b->b<=4-> ∀x,am6 b x=wpF Tryz.prog (apv b) tt (noA x) 200 6 253 ((J4 b).args x) (hO 5 (flatP 1 ((J4 b).l x))) (λv h'=>endsPK 1 x v h' (J4 b).outs)
 |1,_,_=>λx=>by kernel_rfl
 |2,_,_=>λx=>by kernel_rfl
 |3,_,_=>λx=>by kernel_rfl
 |4,_,_=>λx=>by kernel_rfl
 |0,h,_=>absurd h (by omega)
 |b+5,_,h=>absurd h (by omega)
def EC(x:ZOk)(b:Nat):ZOd:=⟨λk=>bif Nat.blt k b&&(fF (x.o.V k) x.s).isSome then false else x.o.z k,λk=>if k<b then fQ (x.o.V k) x.s else x.o.V k⟩
theorem qO{x:ZOk}{b:Nat}(h4:b<=4)(hg:x.o.good): ∀(r k:Nat) (had:Bool) (P1 P2:Nat->ZOd->Prop),k+r=b->((List.range k).any λk=>(fF (x.o.V k) x.s).isSome)=had->
  (∀j,j<k->P1 j (EC x b)/\P2 j (EC x b))->(∀j,k<=j->P1 j=lvP1 x.o j/\P2 j=lvP2 x.o j)->J6 x b r k had P1 P2
 |0,k,had,P1,P2,e,hh,hP,hQ=>by
  obtain rfl:k=b:=by omega
  have all: ∀j,P1 j (EC x k)/\P2 j (EC x k):=λj=>by
   by_cases hj:j<k
   ·exact hP j hj
   ·obtain⟨q1,q2⟩:=hQ j (by omega)
    have g1:(EC x k).z j=x.o.z j:=by show(bif Nat.blt j k&&_ then false else x.o.z j)=_;rw[iY hj];rfl
    have g2:(EC x k).V j=x.o.V j:=if_neg hj;rw[q1,q2];exact⟨⟨g1,by rw[g2]⟩,g1,by rw[g2],λq _=>by rw[g2]⟩
  refine⟨EC x k,aZ.2 λj hj=>⟨rfl,λhz=> ?_⟩,hh,⟨(all 0).1,(all 1).1,(all 2).1,(all 3).1,trivial⟩,(all 0).2,(all 1).2,(all 2).2,(all 3).2,trivial⟩;have hz:(bif Nat.blt j k&&(fF (x.o.V j) x.s).isSome then false else x.o.z j)=true:=hz;have hz2:x.o.z j=true:=by
   cases hb:(Nat.blt j k&&(fF (x.o.V j) x.s).isSome)
   ·rw[hb]at hz;exact hz
   ·rw[hb]at hz;cases hz
  have e:=(hg j hj).2.2 hz2;show(if j<k then fQ (x.o.V j) x.s else x.o.V j)=[];rw[e];split<;>rfl
 |r+1,k,had,P1,P2,e,hh,hP,hQ=>by
  have hk:k<b:=by omega
  obtain⟨s1,s2,s3⟩:=hg k (by omega);have y2:(EC x b).V k=fQ (x.o.V k) x.s:=if_pos hk;obtain⟨q1,q2⟩:=hQ k (aY _);have hany:((List.range (k+1)).any λk=>(fF (x.o.V k) x.s).isSome)=(had||(fF (x.o.V k) x.s).isSome):=by
   rw[List.range_succ,List.any_append,hh];simp
  refine⟨apw (by omega),⟨x.o.V k,x.s⟩,aZ.2 ⟨s1,by show(x.o.V k).length<1099511627776;omega⟩,⟨⟨rfl,rfl⟩,rfl,trivial⟩,⟨⟨rfl,λ_ _=>rfl⟩,trivial⟩,λ_ _=>bf (λhf=> ?_) λhf=> ?_⟩
  ·obtain⟨f1,f2,f3⟩:=Ew s1 hf
   have f1:tY (x.o.V k) x.s<(x.o.V k).length:=f1;have y1:(EC x b).z k=false:=by
    show(bif Nat.blt k b&&(fF (x.o.V k) x.s).isSome then false else x.o.z k)=false;rw[bg.2 hk,show(fF (x.o.V k) x.s).isSome=true from hf];rfl
   refine⟨apw (by omega),by show I64 (((tY (x.o.V k) x.s:Nat):Int)+1);unfold I64;omega,⟨x.o.z k,x.o.V k,tY (x.o.V k) x.s⟩,aZ.2 ⟨f1,s2⟩,⟨⟨rfl,rfl⟩,rfl,rfl,trivial⟩,⟨⟨rfl,rfl,λ_ _=>rfl⟩,trivial⟩,λ_ _=>⟨trivial,apw (by omega),trivial,by unfold I64;omega,qO h4 hg r (k+1) _ _ _ (by omega) (by rw[hany,show(fF (x.o.V k) x.s).isSome=true from hf];simp) (λj hj=> ?_) λj hj=> ?_⟩⟩
   ·by_cases hjk:j=k
    ·subst hjk
     rw[Ey,Ey];refine⟨⟨y1,by rw[y2];exact f2⟩,y1,by rw[y2];exact f2,λq hq=> ?_⟩;rw[y2,f3 q]
    ·rw[oz hjk,oz hjk];exact hP j (by omega)
   ·rw[oz (by omega),oz (by omega)];exact hQ j (by omega)
  ·have y1:(EC x b).z k=x.o.z k:=by
    show(bif Nat.blt k b&&(fF (x.o.V k) x.s).isSome then false else x.o.z k)=x.o.z k;rw[show(fF (x.o.V k) x.s).isSome=false from hf,Bool.and_false];rfl
   have y3:(EC x b).V k=x.o.V k:=y2.trans (zf hf);refine⟨by unfold I64;omega,qO h4 hg r (k+1) _ _ _ (by omega) (by rw[hany,show(fF (x.o.V k) x.s).isSome=false from hf];simp) (λj hj=> ?_) λj hj=>hQ j (by omega)⟩;by_cases hjk:j=k
   ·subst hjk
    rw[q1,q2];exact⟨⟨y1,by rw[y3]⟩,y1,by rw[y3],λq _=>by rw[y3]⟩
   ·exact hP j (by omega)
theorem Ve{x:ZOk}{b:Nat}(h4:b<=4)(hg:x.o.good)(hs:x.s.size<1099511627776)(hl:lvl x.s=b):am6 b x:=
 ⟨x.s,aZ.2 ⟨hs,hl⟩,⟨rfl,trivial⟩,trivial,λ_ _=>qO h4 hg b 0 false _ _ (by omega) rfl (λj hj=>absurd hj (Nat.not_lt_zero j)) λj _=>⟨rfl,rfl⟩⟩
theorem abC{b:Nat}(h1:1<=b)(h4:b<=4):bZ Tryz.prog 253 (J4 b).ctr:=cO dF mixed (Zn b) 5 noA 200 6 (λ_=>⟨rfl,rfl,rfl,rfl⟩) λx hx=>Eq.mp (ag9 b h1 h4 x) (Ve h4 (aZ.1 hx).2.2 (aZ.1 hx).1 (aZ.1 hx).2.1)
noncomputable def arQ:apz:={X:=ZTq,args:=λx=>[.ptr 0 0,.lit (.string x.s)],L:=λx=>x.L,pre:=λx=>Hd (x.s.size<1099511627776),outs:=[
 {Y:=Unit,post:=λ_ _=>True,ret:=λx _=>boo (fF x.L x.s).isSome,L:=λx _=>fQ x.L x.s,m:=1,ex:=λ_ _=>[]}]}
theorem Ig.drop{L:Lks}{o y:ZOd}(h:Ig L o){s:ByteArray}(hy: ∀k,k<4->(y.V k=if k<lvl s then fQ (o.V k) s else o.V k)/\(y.z k=true->y.V k=[])):Ig (fQ L s) y:=
 ⟨Qj h.srt,Nat.le_trans (List.length_filter_le _ _) h.size,λk hk=>⟨by rw[(hy k hk).1,ak9,(h.lev k hk).1],(hy k hk).2⟩⟩
theorem ald:bZ Tryz.prog 253 arQ.C:=ag5 ⟨Tryz.f253,by kernel_rfl,by kernel_rfl,by kernel_rfl⟩ (List.forall_mem_cons.2 ⟨λ_ _=>rfl,λ_ h=>(List.not_mem_nil h).elim⟩) (jS λx hx=>by
 obtain⟨hp,hH⟩:=hx;have p1:=aZ.1 hp;have hH:=aZ.1 hH;obtain⟨l1,l4⟩:=am1 x.1.s;refine⟨_,abC l1 l4,rfl,⟨x.2,x.1.s⟩,aZ.2 ⟨p1,rfl,hH.good⟩,rfl,rfl,λv h' hh=> ?_⟩;obtain⟨y,h1,h2,h3⟩:=jT hh;have h1:=aZ.1 h1;refine Eq.mpr (dU (X:=ZTq×ZOd) x v h' _ _) (.inl ⟨((),y),⟨trivial,aZ.2 (hH.drop h1)⟩,h2.trans ?_,h3⟩);have lk: ∀k,k<lvl x.1.s->fF (x.2.V k) x.1.s=fF x.1.L x.1.s:=λk hk=>by rw[(hH.lev k (by omega)).1,ag2 hk];rfl
 show boo ((List.range (lvl x.1.s)).any λk=>(fF (x.2.V k) x.1.s).isSome)=boo (fF x.1.L x.1.s).isSome;congr 1;rw[Bool.eq_iff_iff,List.any_eq_true];constructor
 ·rintro ⟨k,hk,h⟩
  rw[lk k (List.mem_range.1 hk)]at h;exact h
 ·intro h
  exact⟨0,List.mem_range.2 (by omega),by rw[lk 0 (by omega)];exact h⟩)
noncomputable section
def ale:jE:={X:=Unit,args:=λ_=>[],k:=0,l:=λ_=>[],pre:=λ_=>True,outs:=[
 {Y:=iJ,post:=λ_ y=>Hd (kJ [] y),ret:=λ_ _=> .ptr 0 0,m:=1,l:=λ_ y=>[.m (Qi y)]}]}
def alf:jE:={X:=Unit,args:=λ_=>[],k:=0,l:=λ_=>[],pre:=λ_=>True,outs:=[
 {Y:=ZOd,post:=λ_ y=>Hd (Ig [] y),ret:=λ_ _=> .ptr 0 0,m:=1,l:=λ_ y=>[.m (J3 y)]}]}
end
def Vf(x:Unit):Prop:=
 ((0:Int)<=0/\(0:Int)<=7)/\I64 (1:Int)/\((0:Int)<=1/\(0:Int)<=6)/\I64 (2:Int)/\((0:Int)<=2/\(0:Int)<=5)/\I64 (3:Int)/\((0:Int)<=3/\(0:Int)<=4)/\I64 (4:Int)/\((0:Int)<=4/\(0:Int)<=3)/\I64 (5:Int)/\((0:Int)<=5/\(0:Int)<=2)/\I64 (6:Int)/\((0:Int)<=6/\(0:Int)<=1)/\I64 (7:Int)/\((0:Int)<=7/\(0:Int)<=0)/\I64 (8:Int)/\ ∃y: ∀a:Nat,ZMs,Hd (kJ (@List.nil ZLnk) y)/\0=0/\(True/\True/\True/\True/\True/\True/\True/\True/\True)/\(ZMs.n (y 0)=0/\ZMs.clk (y 0)=0)/\(ZMs.n (y 1)=0/\ZMs.clk (y 1)=0)/\(ZMs.n (y 2)=0/\ZMs.clk (y 2)=0)/\(ZMs.n (y 3)=0/\ZMs.clk (y 3)=0)/\(ZMs.n (y 4)=0/\ZMs.clk (y 4)=0)/\(ZMs.n (y 5)=0/\ZMs.clk (y 5)=0)/\(ZMs.n (y 6)=0/\ZMs.clk (y 6)=0)/\(ZMs.n (y 7)=0/\ZMs.clk (y 7)=0)/\True
theorem abD(x:Unit):Vf x=wpF Tryz.prog [] tt (noA x) 200 6 85 (ale.args x) (hO 0 (flatP 0 (ale.l x))) (λv h'=>endsPK 0 x v h' ale.outs):=by kernel_rfl
def Vg(x:Unit):Prop:=
 ∃y:ZOd,Hd (@Ig (@List.nil ZLnk) y)/\0=0/\((y.z 0=true/\List.length (y.V 0)=0)/\(y.z 1=true/\List.length (y.V 1)=0)/\(y.z 2=true/\List.length (y.V 2)=0)/\(y.z 3=true/\List.length (y.V 3)=0)/\True)/\(y.z 0=true/\List.length (y.V 0)=0/\ ∀q:Nat,q<List.length (y.V 0)->[Value.string (ZLnk.key (nthL (y.V 0) q)),Value.int .u64 (ZLnk.id (nthL (y.V 0) q)),Value.int .u64 (ZLnk.ver (nthL (y.V 0) q)),Value.int .i64 (ZLnk.line (nthL (y.V 0) q)),Value.int .i64 (ZLnk.cls (nthL (y.V 0) q))]= @List.nil Value)/\(y.z 1=true/\List.length (y.V 1)=0/\ ∀q:Nat,q<List.length (y.V 1)->[Value.string (ZLnk.key (nthL (y.V 1) q)),Value.int .u64 (ZLnk.id (nthL (y.V 1) q)),Value.int .u64 (ZLnk.ver (nthL (y.V 1) q)),Value.int .i64 (ZLnk.line (nthL (y.V 1) q)),Value.int .i64 (ZLnk.cls (nthL (y.V 1) q))]= @List.nil Value)/\(y.z 2=true/\List.length (y.V 2)=0/\ ∀q:Nat,q<List.length (y.V 2)->[Value.string (ZLnk.key (nthL (y.V 2) q)),Value.int .u64 (ZLnk.id (nthL (y.V 2) q)),Value.int .u64 (ZLnk.ver (nthL (y.V 2) q)),Value.int .i64 (ZLnk.line (nthL (y.V 2) q)),Value.int .i64 (ZLnk.cls (nthL (y.V 2) q))]= @List.nil Value)/\(y.z 3=true/\List.length (y.V 3)=0/\ ∀q:Nat,q<List.length (y.V 3)->[Value.string (ZLnk.key (nthL (y.V 3) q)),Value.int .u64 (ZLnk.id (nthL (y.V 3) q)),Value.int .u64 (ZLnk.ver (nthL (y.V 3) q)),Value.int .i64 (ZLnk.line (nthL (y.V 3) q)),Value.int .i64 (ZLnk.cls (nthL (y.V 3) q))]= @List.nil Value)/\True
theorem abE(x:Unit):Vg x=wpF Tryz.prog [] tt (noA x) 200 6 86 (alf.args x) (hO 0 (flatP 0 (alf.l x))) (λv h'=>endsPK 0 x v h' alf.outs):=by kernel_rfl
def am7:iJ:=λ_=>⟨0,λ_=>iI,λ_=>0,0⟩
theorem alg:kJ [] am7:=
 ⟨List.Pairwise.nil,by decide,λl h=>absurd h List.not_mem_nil,λ_ _ j hj=>absurd hj (Nat.not_lt_zero j),λl h=>absurd h List.not_mem_nil,λ_ _ i _ hi=>absurd hi (Nat.not_lt_zero i),λ_ _ j hj=>absurd hj (Nat.not_lt_zero j),λ_ _ i _ hi=>absurd hi (Nat.not_lt_zero i)⟩
def aha:ZOd:=⟨λ_=>true,λ_=>[]⟩
theorem alh:Ig [] aha:=⟨List.Pairwise.nil,by decide,λ_ _=>⟨rfl,λ_=>rfl⟩⟩
theorem Qs(x:Unit):Vf x:=by
 unfold Vf;have i: ∀z:Int,0<=z->z<=100->I64 z:=λz a b=>by unfold I64;omega
 refine⟨by decide,i _ (by decide) (by decide),by decide,i _ (by decide) (by decide),by decide,i _ (by decide) (by decide),by decide,i _ (by decide) (by decide),by decide,i _ (by decide) (by decide),by decide,i _ (by decide) (by decide),by decide,i _ (by decide) (by decide),by decide,i _ (by decide) (by decide),am7,aZ.2 alg,rfl,⟨trivial,trivial,trivial,trivial,trivial,trivial,trivial,trivial,trivial⟩,⟨rfl,rfl⟩,⟨rfl,rfl⟩,⟨rfl,rfl⟩,⟨rfl,rfl⟩,⟨rfl,rfl⟩,⟨rfl,rfl⟩,⟨rfl,rfl⟩,⟨rfl,rfl⟩,trivial⟩
theorem Qu(x:Unit):Vg x:=by
 unfold Vg;have z: ∀q:Nat,q<List.length (aha.V 0)->False:=λq hq=>Nat.not_lt_zero q hq
 refine⟨aha,aZ.2 alh,rfl,⟨⟨rfl,rfl⟩,⟨rfl,rfl⟩,⟨rfl,rfl⟩,⟨rfl,rfl⟩,trivial⟩,⟨rfl,rfl,λq hq=>(z q hq).elim⟩,⟨rfl,rfl,λq hq=>(z q hq).elim⟩,⟨rfl,rfl,λq hq=>(z q hq).elim⟩,⟨rfl,rfl,λq hq=>(z q hq).elim⟩,trivial⟩
theorem ali:bZ Tryz.prog 85 ale.ctr:=cO dF mixed .nil 0 noA 200 6 (λ_=>⟨rfl,rfl,rfl,rfl⟩) λx _=>Eq.mp (abD x) (Qs x)
theorem alj:bZ Tryz.prog 86 alf.ctr:=cO dF mixed .nil 0 noA 200 6 (λ_=>⟨rfl,rfl,rfl,rfl⟩) λx _=>Eq.mp (abE x) (Qu x)
noncomputable def newT:Ctr:=det Unit (λ_=>[]) 0 (λ_=>[]) (λ_=>True) (λ_=> .ptr 0 0) 1 (λ_=>[.abs (tabA [])])
noncomputable def newO:Ctr:=det Unit (λ_=>[]) 0 (λ_=>[]) (λ_=>True) (λ_=> .ptr 0 0) 1 (λ_=>[.abs (ordA [])])
theorem apC:bZ Tryz.prog 85 newT:=λx _=>⟨rfl,by
 refine Ak (((ali () trivial).2).mono λv h' hh=> ?_);have hh:(∃y:iJ,Hd (kJ [] y)/\v= .ptr 0 0/\h'=hO 1 [.abs (ownM (Qi y))])\/False:=by with_unfolding_all exact hh
 rcases hh with ⟨y,h1,rfl,rfl⟩|hh
 ·refine⟨.ptr 0 0,hO 1 [.abs (tabA [])],?_,by with_unfolding_all exact Or.inl ⟨(),trivial,rfl,rfl⟩⟩
  refine tq (m:=1) rfl rfl (Nat.zero_le _) λi o o' hi hi'=> ?_
  match i,hi,hi' with
  |0,hi,hi'=>cases hi;cases hi';exactλ_ _ _ _ _ h=>Zj (aZ.1 h1) h
 ·exact hh.elim⟩
theorem apD:bZ Tryz.prog 86 newO:=λx _=>⟨rfl,by
 refine Ak (((alj () trivial).2).mono λv h' hh=> ?_);have hh:(∃y:ZOd,Hd (Ig [] y)/\v= .ptr 0 0/\h'=hO 1 [.abs (ownM (J3 y))])\/False:=by with_unfolding_all exact hh
 rcases hh with ⟨y,h1,rfl,rfl⟩|hh
 ·refine⟨.ptr 0 0,hO 1 [.abs (ordA [])],?_,by with_unfolding_all exact Or.inl ⟨(),trivial,rfl,rfl⟩⟩
  refine tq (m:=1) rfl rfl (Nat.zero_le _) λi o o' hi hi'=> ?_
  match i,hi,hi' with
  |0,hi,hi'=>cases hi;cases hi';exactλ_ _ _ _ _ h=>Zm (aZ.1 h1) h
 ·exact hh.elim⟩
noncomputable def bkL(L:Lks)(b:Nat):Lks:=L.filter λl=>decide (bkt l.key=b)
theorem nR{x:ZLnk}{L:Lks}{b:Nat}:(bkL (x::L) b).length=(if bkt x.key=b then 1 else 0)+(bkL L b).length:=by
 unfold bkL;rw[List.filter_cons];by_cases h:bkt x.key=b
 ·rw[decide_eq_true h,if_pos h];simp only[if_true,List.length_cons];omega
 ·rw[decide_eq_false h,if_neg h];simp
theorem ahb: ∀L:Lks,(bkL L 0).length+(bkL L 1).length+(bkL L 2).length+(bkL L 3).length+(bkL L 4).length+(bkL L 5).length+(bkL L 6).length+(bkL L 7).length=L.length
 |[]=>rfl
 |x::L=>by
  have ih:=ahb L;have h8:=oU x.key;rw[nR,nR,nR,nR,nR,nR,nR,nR,List.length_cons];generalize bkt x.key=q at h8 ⊢
  match q,h8 with
  |0,_=>simp;omega
  |1,_=>simp;omega
  |2,_=>simp;omega
  |3,_=>simp;omega
  |4,_=>simp;omega
  |5,_=>simp;omega
  |6,_=>simp;omega
  |7,_=>simp;omega
  |q+8,h=>omega
theorem Qv{L:Lks}(h:srt L):L.Nodup:=h.imp λ{a b} hk e=>by rw[e,lD]at hk;cases hk
theorem kJ.perm{L:Lks}{t:iJ}(h:kJ L t){b:Nat}(hb:b<8):((List.range (t b).n).map (t b).lk).Perm (bkL L b):=by
 refine(List.perm_ext_iff_of_nodup ?_ ((Qv h.srt).filter _)).2 λx=> ?_
 ·refine List.pairwise_map.2 (List.nodup_range.imp_of_mem λ{i j} hi hj hne e=>hne ?_)
  exact h.inj b hb i j (List.mem_range.1 hi) (List.mem_range.1 hj) (by rw[e])
 ·rw[List.mem_map,List.mem_filter,decide_eq_true_iff]
  constructor
  ·rintro ⟨j,hj,rfl⟩
   exact h.mem b hb j (List.mem_range.1 hj)
  ·rintro ⟨hx,hxb⟩
   obtain⟨j,h1,h2⟩:=h.all x hx;rw[hxb]at h1 h2;exact⟨j,List.mem_range.2 h1,h2⟩
theorem kJ.n{L:Lks}{t:iJ}(h:kJ L t){b:Nat}(hb:b<8):(t b).n=(bkL L b).length:=by
 have:=(h.perm hb).length_eq;rw[List.length_map,List.length_range]at this;exact this
theorem kJ.sum{L:Lks}{t:iJ}(h:kJ L t):(t 0).n+(t 1).n+(t 2).n+(t 3).n+(t 4).n+(t 5).n+(t 6).n+(t 7).n=L.length:=by
 rw[h.n (by decide),h.n (by decide),h.n (by decide),h.n (by decide),h.n (by decide),h.n (by decide),h.n (by decide),h.n (by decide)];exact ahb L
structure ZLq where
 L:Lks
noncomputable def arR:abv:={X:=ZLq,args:=λ_=>[.ptr 0 0],L:=λx=>x.L,pre:=λ_=>True,outs:=[
 {Y:=Unit,post:=λ_ _=>True,ret:=λx _=>i64 x.L.length,L:=λx _=>x.L,m:=1,ex:=λ_ _=>[]}]}
def w8(k:Nat):Prop:=(0:Int)<=(k:Int)/\(0:Int)<=(7:Int)-(k:Int)
def alk(x:ZLq×iJ):Nat->Nat->Int->Prop
 |0,_,acc=> ∃y:Unit×iJ,(True/\Hd (kJ x.1.L y.2))/\((x.1.L.length:Nat):Int)=acc/\Qq y.2 x.2
 |r+1,k,acc=>w8 k/\I64 (acc+(((x.2 k).n:Nat):Int))/\I64 ((k:Int)+1)/\alk x r (k+1) (acc+(((x.2 k).n:Nat):Int))
theorem apE(x:ZLq×iJ):alk x 8 0 0=wpF Tryz.prog [] tt (noA x) 200 6 38 (arR.E.args x) (hO 9 (flatP 1 (arR.E.l x))) (λv h'=>endsPK 1 x v h' arR.E.outs):=by kernel_rfl
theorem abG{x:ZLq×iJ}(h:kJ x.1.L x.2):alk x 8 0 0:=by
 have hs:=h.sum;have hz:=h.size;have w: ∀k:Nat,k<8->w8 k:=λk hk=>⟨by omega,by omega⟩
 have i: ∀z:Int,0<=z->z<=10000->I64 z:=λz a b=>by unfold I64;omega
 simp only[alk,Nat.reduceAdd,aA];refine⟨w 0 (by decide),i _ (by omega) (by omega),i _ (by omega) (by omega),w 1 (by decide),i _ (by omega) (by omega),i _ (by omega) (by omega),w 2 (by decide),i _ (by omega) (by omega),i _ (by omega) (by omega),w 3 (by decide),i _ (by omega) (by omega),i _ (by omega) (by omega),w 4 (by decide),i _ (by omega) (by omega),i _ (by omega) (by omega),w 5 (by decide),i _ (by omega) (by omega),i _ (by omega) (by omega),w 6 (by decide),i _ (by omega) (by omega),i _ (by omega) (by omega),w 7 (by decide),i _ (by omega) (by omega),i _ (by omega) (by omega),((),x.2),⟨trivial,aZ.2 h⟩,?_,jB⟩;have e:((x.1.L.length:Nat):Int)=(0:Int)+((x.2 0).n:Int)+((x.2 1).n:Int)+((x.2 2).n:Int)+((x.2 3).n:Int)+((x.2 4).n:Int)+((x.2 5).n:Int)+((x.2 6).n:Int)+((x.2 7).n:Int):=by omega
 simpa using e
theorem apF:bZ Tryz.prog 38 arR.C:=y9 ⟨Tryz.f38,by kernel_rfl,by kernel_rfl,by kernel_rfl⟩ (List.forall_mem_cons.2 ⟨λ_ _=>rfl,λ_ h=>(List.not_mem_nil h).elim⟩) (cO dF mixed .nil 9 noA 200 6 (λ_=>⟨rfl,rfl,rfl,rfl⟩) λx hx=>Eq.mp (apE x) (abG (aZ.1 hx.2)))
end Go.Proofs.YtenfleoejgjklaaGreat
end
section
namespace Go.Proofs.YtenfleoejgjklaaGreat
open Go.RowKit Go.Maps Go.Sort Go.Shelf
def Tryz.keysA_ren:Go.Shelf.Ren:=⟨λ|7=>231|10=>266|n=>n,λ|23=>169|26=>9|3=>41|28=>342|0=>0|27=>341|33=>359|4=>4|n=>n,λ|n=>n⟩
theorem Tryz.keysA:Go.Proofs.SlLaysZ.n7 Tryz.prog Tryz.keysA_ren:={
 mixed:=by kernel_rfl
 f7:=⟨Tryz.f231.name,by decide,Tryz.func231.trans (congrArg some (by kernel_rfl))⟩
 f10:=⟨Tryz.f266.name,by decide,Tryz.func266.trans (congrArg some (by kernel_rfl))⟩
 t0:=Tryz.underlying0
 a0:=Tryz.isAgg0
 z0:=Tryz.sizeOf0
 v0:=Tryz.zeroValue0
 t4:=Tryz.underlying4
 a4:=Tryz.isAgg4
 z4:=Tryz.sizeOf4
 v4:=Tryz.zeroValue4
 t23:=Tryz.underlying169
 a23:=Tryz.isAgg169
 z23:=Tryz.sizeOf169
 v23:=Tryz.zeroValue169
 t26:=Tryz.underlying9
 a26:=Tryz.isAgg9
 z26:=Tryz.sizeOf9
 v26:=Tryz.zeroValue9
 t27:=Tryz.underlying341
 a27:=Tryz.isAgg341
 z27:=Tryz.sizeOf341
 v27:=Tryz.zeroValue341
 t28:=Tryz.underlying342
 a28:=Tryz.isAgg342
 z28:=Tryz.sizeOf342
 v28:=Tryz.zeroValue342
 t33:=Tryz.underlying359
 a33:=Tryz.isAgg359
 z33:=Tryz.sizeOf359
 v33:=Tryz.zeroValue359}
def Tryz.sortedA_ren:Go.Shelf.Ren:=⟨λ|6=>230|8=>264|9=>265|11=>287|13=>175|12=>288|23=>225|24=>226|14=>302|15=>303|16=>304|17=>305|18=>306|19=>307|20=>308|21=>309|22=>310|25=>312|26=>259|27=>260|28=>313|29=>314|30=>315|31=>317|n=>n,λ|26=>9|28=>342|24=>65|0=>0|3=>3|37=>114|48=>135|50=>31|4=>4|40=>330|39=>329|45=>334|5=>5|9=>9|51=>362|55=>365|57=>380|58=>381|33=>359|n=>n,λ|n=>n⟩
theorem Tryz.sortedA:Go.Proofs.SlLaysZ.n6 Tryz.prog Tryz.sortedA_ren:={
 mixed:=by kernel_rfl
 f6:=⟨Tryz.f230.name,by decide,Tryz.func230.trans (congrArg some (by kernel_rfl))⟩
 f8:=⟨Tryz.f264.name,by decide,Tryz.func264.trans (congrArg some (by kernel_rfl))⟩
 f11:=⟨Tryz.f287.name,by decide,Tryz.func287.trans (congrArg some (by kernel_rfl))⟩
 t0:=Tryz.underlying0
 a0:=Tryz.isAgg0
 z0:=Tryz.sizeOf0
 v0:=Tryz.zeroValue0
 t24:=Tryz.underlying65
 a24:=Tryz.isAgg65
 z24:=Tryz.sizeOf65
 v24:=Tryz.zeroValue65
 t26:=Tryz.underlying9
 a26:=Tryz.isAgg9
 z26:=Tryz.sizeOf9
 v26:=Tryz.zeroValue9
 t28:=Tryz.underlying342
 a28:=Tryz.isAgg342
 z28:=Tryz.sizeOf342
 v28:=Tryz.zeroValue342
 i26:=by kernel_rfl}
end Go.Proofs.YtenfleoejgjklaaGreat
end
section
namespace Go.Proofs.YtenfleoejgjklaaGreat
open Go Go.RowKit Go.Maps Go.Sort Go.Shelf
def Tryz.sortA_ren:Go.Shelf.Ren:=⟨λ|6=>265|8=>175|9=>288|19=>225|20=>226|21=>302|22=>303|23=>304|24=>305|25=>306|26=>307|27=>308|28=>309|29=>310|36=>312|31=>259|32=>260|37=>313|38=>314|39=>315|41=>317|n=>n,λ|27=>65|29=>9|3=>3|32=>114|26=>65|0=>0|44=>135|46=>31|4=>4|36=>330|35=>329|41=>334|5=>5|9=>9|53=>362|57=>365|63=>380|64=>381|n=>n,λ|n=>n⟩
theorem Tryz.sortA:Go.Proofs.SlLaysM.n6 Tryz.prog Tryz.sortA_ren:={
 mixed:=by kernel_rfl
 f6:=⟨Tryz.f265.name,by decide,Tryz.func265.trans (congrArg some (by kernel_rfl))⟩
 f8:=Tryz.func175.trans (congrArg some (by kernel_rfl))
 f9:=⟨Tryz.f288.name,by decide,Tryz.func288.trans (congrArg some (by kernel_rfl))⟩
 f19:=Tryz.func225.trans (congrArg some (by kernel_rfl))
 f20:=Tryz.func226.trans (congrArg some (by kernel_rfl))
 f21:=⟨Tryz.f302.name,by decide,Tryz.func302.trans (congrArg some (by kernel_rfl))⟩
 f22:=⟨Tryz.f303.name,by decide,Tryz.func303.trans (congrArg some (by kernel_rfl))⟩
 f23:=⟨Tryz.f304.name,by decide,Tryz.func304.trans (congrArg some (by kernel_rfl))⟩
 f24:=⟨Tryz.f305.name,by decide,Tryz.func305.trans (congrArg some (by kernel_rfl))⟩
 f25:=⟨Tryz.f306.name,by decide,Tryz.func306.trans (congrArg some (by kernel_rfl))⟩
 f26:=⟨Tryz.f307.name,by decide,Tryz.func307.trans (congrArg some (by kernel_rfl))⟩
 f27:=⟨Tryz.f308.name,by decide,Tryz.func308.trans (congrArg some (by kernel_rfl))⟩
 f28:=⟨Tryz.f309.name,by decide,Tryz.func309.trans (congrArg some (by kernel_rfl))⟩
 f29:=⟨Tryz.f310.name,by decide,Tryz.func310.trans (congrArg some (by kernel_rfl))⟩
 f31:=Tryz.func259.trans (congrArg some (by kernel_rfl))
 f32:=Tryz.func260.trans (congrArg some (by kernel_rfl))
 f36:=⟨Tryz.f312.name,by decide,Tryz.func312.trans (congrArg some (by kernel_rfl))⟩
 f37:=⟨Tryz.f313.name,by decide,Tryz.func313.trans (congrArg some (by kernel_rfl))⟩
 f38:=⟨Tryz.f314.name,by decide,Tryz.func314.trans (congrArg some (by kernel_rfl))⟩
 f39:=⟨Tryz.f315.name,by decide,Tryz.func315.trans (congrArg some (by kernel_rfl))⟩
 f41:=⟨Tryz.f317.name,by decide,Tryz.func317.trans (congrArg some (by kernel_rfl))⟩
 t0:=Tryz.underlying0
 a0:=Tryz.isAgg0
 z0:=Tryz.sizeOf0
 v0:=Tryz.zeroValue0
 t3:=Tryz.underlying3
 a3:=Tryz.isAgg3
 z3:=Tryz.sizeOf3
 v3:=Tryz.zeroValue3
 t4:=Tryz.underlying4
 a4:=Tryz.isAgg4
 z4:=Tryz.sizeOf4
 v4:=Tryz.zeroValue4
 t5:=Tryz.underlying5
 a5:=Tryz.isAgg5
 z5:=Tryz.sizeOf5
 v5:=Tryz.zeroValue5
 t9:=Tryz.underlying9
 a9:=Tryz.isAgg9
 z9:=Tryz.sizeOf9
 v9:=Tryz.zeroValue9
 t26:=Tryz.underlying65
 a26:=Tryz.isAgg65
 z26:=Tryz.sizeOf65
 v26:=Tryz.zeroValue65
 t27:=Tryz.underlying65
 a27:=Tryz.isAgg65
 z27:=Tryz.sizeOf65
 v27:=Tryz.zeroValue65
 t29:=Tryz.underlying9
 a29:=Tryz.isAgg9
 z29:=Tryz.sizeOf9
 v29:=Tryz.zeroValue9
 t32:=Tryz.underlying114
 a32:=Tryz.isAgg114
 z32:=Tryz.sizeOf114
 v32:=Tryz.zeroValue114
 t35:=Tryz.underlying329
 a35:=Tryz.isAgg329
 z35:=Tryz.sizeOf329
 v35:=Tryz.zeroValue329
 t36:=Tryz.underlying330
 a36:=Tryz.isAgg330
 z36:=Tryz.sizeOf330
 v36:=Tryz.zeroValue330
 t41:=Tryz.underlying334
 a41:=Tryz.isAgg334
 z41:=Tryz.sizeOf334
 v41:=Tryz.zeroValue334
 t44:=Tryz.underlying135
 a44:=Tryz.isAgg135
 z44:=Tryz.sizeOf135
 v44:=Tryz.zeroValue135
 t46:=Tryz.underlying31
 a46:=Tryz.isAgg31
 z46:=Tryz.sizeOf31
 v46:=Tryz.zeroValue31
 t53:=Tryz.underlying362
 a53:=Tryz.isAgg362
 z53:=Tryz.sizeOf362
 v53:=Tryz.zeroValue362
 t57:=Tryz.underlying365
 a57:=Tryz.isAgg365
 z57:=Tryz.sizeOf365
 v57:=Tryz.zeroValue365
 t63:=Tryz.underlying380
 a63:=Tryz.isAgg380
 z63:=Tryz.sizeOf380
 v63:=Tryz.zeroValue380
 t64:=Tryz.underlying381
 a64:=Tryz.isAgg381
 z64:=Tryz.sizeOf381
 v64:=Tryz.zeroValue381}
theorem sortsA(m:Nat):AnyZ.SortsIn Tryz.prog Tryz.sortedA_ren Fence.wide m:=
 ⟨λblk off cap ss W hH hblk hsz=>callsIn_wide.2 (AnyM.slices_Sort_string Tryz.sortA blk off cap ss W hH hblk hsz),
  λp cap W=>callsIn_wide.2 (AnyM.slices_Sort_string_none Tryz.sortA p cap W)⟩
end Go.Proofs.YtenfleoejgjklaaGreat
end
section
namespace Go.Proofs.YtenfleoejgjklaaGreat.SE
open Go
theorem Zo{h:Heap}{ρ:Ren}{T:Nat->Prop}{w w':World}(hR:Rel h ρ T w)(hb:Go.RowKit.Below w.heap.size w w'){a:Loc}{S0:Nat->Prop}(hg: ∀b,S0 b->w.heap.size<=b/\b<w'.heap.size){o:dB}
  (ho: ∀ρ',dH ρ' w' T a S0 o): ∃ρ',ρ.le ρ'/\ρ' h.next=some a/\(∀i,i<h.next->ρ' i=ρ i)/\Rel (h.push o) ρ' T w'/\Keeps T w w':=by
 obtain⟨S,h1,h2,h3,h4,h5⟩:=hR;let ρ':Ren:=λi=>if i=h.next then some a else ρ i
 have hle:ρ.le ρ':=λi x hx=>by
  by_cases hi:i=h.next
  ·subst hi;rw[h4 _ (aY _)]at hx;cases hx
  ·simp only[ρ',if_neg hi];exact hx
 have hkeep:Keeps T w w':=⟨hb.size,hb.os,hb.tape,hb.output,λb hbT=>hb.block b (by
  rcases Nat.lt_or_ge b w.heap.size with h'|h'
  ·exact h'
  ·exact(hbT (h5 b h')).elim)⟩
 refine⟨ρ',hle,by simp[ρ'],λi hi=>by simp[ρ',Nat.ne_of_lt hi],⟨λi b=>if i=h.next then S0 b else S i b,λi o' hi=> ?_,λi j o1 o2 b hi hj hij hSi hSj=> ?_,λi o' b hi hS=> ?_,λi hi=> ?_,λb hb'=>h5 b (Nat.le_trans hb.size hb')⟩,hkeep⟩
 ·rw[Heap.fC]at hi
  by_cases hin:i=h.next
  ·subst hin
   simp only[if_pos]at hi;cases hi;exact⟨a,by simp[ρ'],by simpa using ho ρ'⟩
  ·simp only[if_neg hin]at hi ⊢
   obtain⟨x,hx,hh⟩:=h1 i o' hi;refine⟨x,hle _ _ hx,dH.mono hle (hh.stays λb hbS=>hb.block b ?_)⟩;rcases hbS with hbS|hbS
   ·exact(h3 i o' b hi hbS).2
   ·rcases Nat.lt_or_ge b w.heap.size with h'|h'
    ·exact h'
    ·exact(hbS (h5 b h')).elim
 ·rw[Heap.fC]at hi hj
  by_cases hi':i=h.next<;>by_cases hj':j=h.next
  ·exact hij (hi'.trans hj'.symm)
  ·simp only[if_pos hi',if_neg hj']at hSi hSj hj
   have:=(h3 j o2 b hj hSj).2;have:=hg b hSi;omega
  ·simp only[if_neg hi',if_pos hj']at hSi hSj hi
   have:=(h3 i o1 b hi hSi).2;have:=hg b hSj;omega
  ·simp only[if_neg hi',if_neg hj']at hSi hSj hi hj
   exact h2 i j o1 o2 b hi hj hij hSi hSj
 ·rw[Heap.fC]at hi
  by_cases hin:i=h.next
  ·simp only[if_pos hin]at hS
   exact⟨h5 _ (hg b hS).1,(hg b hS).2⟩
  ·simp only[if_neg hin]at hi hS
   obtain⟨g1,g2⟩:=h3 i o' b hi hS;exact⟨g1,Nat.lt_of_lt_of_le g2 hb.size⟩
 ·have hn:(h.push o).next=h.next+1:=by simp
  rw[hn]at hi;simp only[ρ',if_neg (by omega: ¬i=h.next)];exact h4 i (by omega)
end Go.Proofs.YtenfleoejgjklaaGreat.SE
end
section
namespace Go.Proofs.YtenfleoejgjklaaGreat
open Go SE
structure ZMs.good (m:ZMs):Prop where
 size:m.n<=258
 key: ∀j,j<m.n->(m.lk j).key.size<1099511627776
 inj: ∀i j,i<m.n->j<m.n->(m.lk i).key=(m.lk j).key->i=j
 born: ∀j,j<m.n->m.born j<m.clk
 bi: ∀i j,i<m.n->j<m.n->m.born i=m.born j->i=j
structure ahc (m:ZMs) (ks:List ByteArray):Prop where
 srt:ks.Pairwise λa b=>kl a b=true
 len:ks.length=m.n
 mem: ∀s,s∈ks↔ ∃j,j<m.n/\(m.lk j).key=s
def ED(ks:List ByteArray)(i:Nat):ByteArray:=ks.getD i ⟨#[]⟩
def ahd(z:Bool)(ks:List ByteArray):dB:= .iF z 9 (.row 1 ks.length (λi=>[.string (ED ks i)]) [])
noncomputable def ahe:Ctr:={X:=ZMs,args:=λ_=>[.fn (.func 266) [] [.ptr 0 0]],k:=2,os:=λm=>[.cells 169 (.av [.mp 1]),.nC m.ms],pre:=λm=>Hd m.good,outs:=[
 {Y:=Bool×List ByteArray,post:=λm y=>Hd (ahc m y.2/\(y.1=true->y.2=[])),ret:=λ_ y=> .slV y.1 2 1 y.2.length,m:=3,os:=λm y=>[.cells 169 (.av [.mp 1]),.nC m.ms,ahd y.1 y.2]}]}
def rdN:Value->Option (DataW Unit×List MemPlace):=λ_=>some (.lit (.bool true),[])
theorem kl_lt(a b:List UInt8):kl ⟨a.toArray⟩ ⟨b.toArray⟩=decide (a<b):=by
 unfold kl;rw[iy,iy,Go.Proofs.bytesLess_eq]
theorem ownsS{w:World}{b:Nat}{m:ZMs}{arr:Array MapEntry}(hm:m.good)(hb:w.heap[b]? =some (.map arr m.clk))(hr:Ir m.ms arr):
  ∃D0:DataW Unit,w.ownsMap Tryz.prog 9 rdN b m.n D0/\Maps.size D0=m.n/\(strKeys D0).Perm ((List.range m.n).map λj=>(m.lk j).key.data.toList):=by
 obtain⟨r1,r2⟩:=hr;have r1:arr.size=m.n:=r1;have ent: ∀j,j<m.n->arr[j]? =some {key:= .string (m.lk j).key,val:= .agg (m.lk j).cs.toArray,born:=m.born j}:=r2;have htl:arr.toList=(List.range m.n).map λj=>({key:= .string (m.lk j).key,val:= .agg (m.lk j).cs.toArray,born:=m.born j}:MapEntry):=by
  apply List.ext_getElem?;intro j;rw[Array.getElem?_toList,List.getElem?_map];rcases Nat.lt_or_ge j m.n with hj|hj
  ·rw[ent j hj,List.getElem?_range hj];rfl
  ·rw[Array.getElem?_eq_none (by omega),List.getElem?_eq_none (by simpa using hj)];rfl
 have hk: ∀j,j<m.n->Go.keyOf Tryz.prog 9 (.string (m.lk j).key)=some (.string (m.lk j).key.data.toList):=λj hj=>by
  have:=hm.key j hj;have hs:(m.lk j).key.size<=maxLen:=by unfold maxLen;omega
  simp[Go.keyOf,Tryz.underlying9,mapKey,hs]
 have hrd: ∀j,j<m.n->Go.WideElems.rd Tryz.prog 9 rdN {key:= .string (m.lk j).key,val:= .agg (m.lk j).cs.toArray,born:=m.born j}=some (.string (m.lk j).key.data.toList,.lit (.bool true)):=λj hj=>by simp[Go.WideElems.rd,hk j hj,rdN]
 have hmap:arr.toList.map (Go.WideElems.rg Tryz.prog 9 rdN)=(List.range m.n).map λj=>((.string (m.lk j).key.data.toList,.lit (.bool true)):Lit×DataW Unit):=by
  rw[htl,List.map_map];refine List.map_congr_left λj hj=> ?_
  rw[Function.comp_apply,Go.WideElems.rg,hrd j (List.mem_range.1 hj),Option.getD_some]
 have hz:=hm.size;refine⟨.map ((arr.toList.map (Go.WideElems.rg Tryz.prog 9 rdN)).foldr DataW.insert []),⟨arr,m.clk,hb,⟨by rw[r1];unfold maxLen;omega,⟨λx hx=> ?_,?_,?_⟩,λx hx=> ?_⟩,by rw[r1];exact aY _,rfl⟩,?_,?_⟩
 ·rw[htl]at hx
  obtain⟨j,hj,rfl⟩:=List.mem_map.1 hx;exact hm.born j (List.mem_range.1 hj)
 ·rw[htl,List.map_map]
  exact List.pairwise_map.2 (List.nodup_range.imp_of_mem λ{i j} hi hj hne e=>hne (hm.bi i j (List.mem_range.1 hi) (List.mem_range.1 hj) e))
 ·rw[htl,List.map_map]
  exact List.pairwise_map.2 (List.nodup_range.imp_of_mem λ{i j} hi hj hne e=>hne (hm.inj i j (List.mem_range.1 hi) (List.mem_range.1 hj) (by injection e)))
 ·rw[htl]at hx
  obtain⟨j,hj,rfl⟩:=List.mem_map.1 hx;exact⟨_,hrd j (List.mem_range.1 hj)⟩
 ·show((arr.toList.map (Go.WideElems.rg Tryz.prog 9 rdN)).foldr DataW.insert []).length=_
  rw[(Go.WideShapes.sorted_perm _).length_eq,hmap];simp
 ·show(((arr.toList.map (Go.WideElems.rg Tryz.prog 9 rdN)).foldr DataW.insert []).map λp=>strOf p.1).Perm _
  refine((Go.WideShapes.sorted_perm _).map _).trans ?_;rw[hmap,List.map_map];exact List.Perm.refl _
theorem apG{m:ZMs}(hm:m.good){ss:List (List UInt8)}(hp:ss.Perm ((List.range m.n).map λj=>(m.lk j).key.data.toList)):ahc m ((ss.mergeSort (λx y=>decide (x<=y))).map λl=>(⟨l.toArray⟩:ByteArray)):=by
 have tr: ∀a b c:List UInt8,decide (a<=b)=true->decide (b<=c)=true->decide (a<=c)=true:=λa b c h1 h2=>by simp only[decide_eq_true_eq]at*;exact List.le_trans h1 h2
 have to: ∀a b:List UInt8,(decide (a<=b)||decide (b<=a))=true:=λa b=>by simp only[Bool.or_eq_true,decide_eq_true_eq];exact List.le_total a b
 have hq:(ss.mergeSort (λx y=>decide (x<=y))).Perm ((List.range m.n).map λj=>(m.lk j).key.data.toList):=(List.mergeSort_perm ss _).trans hp;have nd:((List.range m.n).map λj=>(m.lk j).key.data.toList).Nodup:=List.pairwise_map.2 (List.nodup_range.imp_of_mem λ{i j} hi hj hne e=>hne (hm.inj i j (List.mem_range.1 hi) (List.mem_range.1 hj) (ByteArray.ext (Array.toList_inj.1 e))));refine⟨List.pairwise_map.2 ?_,by rw[List.length_map,hq.length_eq];simp,λs=> ?_⟩
 ·have h1:=List.pairwise_mergeSort tr to ss
  have h2:=hq.symm.nodup nd;refine(List.pairwise_and_iff.2 ⟨h1,h2⟩).imp λ{a b} h=> ?_
  rw[kl_lt,decide_eq_true_eq];have h1:=aS h.1;by_cases h':a<b
  ·exact h'
  ·exact absurd (List.le_antisymm h1 (List.not_lt.1 h')) h.2
 ·rw[List.mem_map]
  constructor
  ·rintro ⟨l,hl,rfl⟩
   obtain⟨j,hj,rfl⟩:=List.mem_map.1 (hq.mem_iff.1 hl);exact⟨j,List.mem_range.1 hj,ByteArray.ext (by simp)⟩
  ·rintro ⟨j,hj,rfl⟩
   exact⟨_,hq.mem_iff.2 (List.mem_map.2 ⟨j,List.mem_range.2 hj,rfl⟩),ByteArray.ext (by simp)⟩
theorem Vh{m:ZMs}(hm:m.good){w:World}{Bm b:Nat}{arr:Array MapEntry}(hB:w.cell? ⟨Bm,0,none⟩=some (.map (some b)))(hBl:Bm<w.heap.size)(hb:w.heap[b]? =some (.map arr m.clk))(hr:Ir m.ms arr):
  Calls Tryz.prog 230 #[.func (.func 266) #[] #[.pointer (some ⟨Bm,0,none⟩)]] w λe w'=>
   ∃(v:Value) (ss:List (List UInt8)),e= .returned v/\ss.Perm ((List.range m.n).map λj=>(m.lk j).key.data.toList)/\
    w'.ownsRow w.heap.size 9 1 v ss.length ((ss.mergeSort (λx y=>decide (x<=y))).map encStr)/\(v= .slice none 0 0↔ss=[])/\Go.RowKit.Below w.heap.size w w':=by
 obtain⟨D0,d1,d2,d3⟩:=ownsS hm hb hr;have hz:=hm.size;have hseq:=AnyZ.keys_gives (ρ:=Tryz.keysA_ren) (H:=Unit) {Tryz.keysA with} Fence.wide 2 trivial rfl (by omega) Bm b m.n D0 w hBl hB d1;have h:=AnyZ.sorted_in Tryz.sortedA Fence.wide 5 trivial trivial trivial trivial rfl (by omega) (sortsA _) (enters_of Tryz.func265 (by kernel_rfl) rfl) 266 #[.pointer (some ⟨Bm,0,none⟩)] trivial (enters_of Tryz.func266 (by kernel_rfl) rfl) _ _ (by rw[d2];unfold maxLen;omega) (by rw[d2];omega) w hseq;refine(callsIn_wide.1 h).mono ?_
 rintro e w' ⟨v,ss,rfl,hp,hrow,hnil,hbel⟩
 exact⟨v,ss,rfl,hp.trans d3,hrow,hnil,hbel⟩
set_option maxRecDepth 20000 in
theorem ahf:bZ Tryz.prog 230 ahe:=λm hp=>by
 have hm:=aZ.1 hp;refine⟨rfl,⟨Tryz.f230,by kernel_rfl,by kernel_rfl,by kernel_rfl⟩,λρ T w vs hR hl=> ?_⟩;obtain⟨u1,us,hvs,hu1,hus⟩:=hl;obtain rfl:us=[]:=hus;obtain⟨fa,ca,rfl,hfa,hca⟩:=hu1;obtain⟨u,us,hca2,hu,hus⟩:=hca;obtain rfl:us=[]:=hus;obtain⟨a,ha,rfl⟩:=hu;have hfa:fa.toList=[]:=hfa;obtain rfl:fa= #[]:=by cases fa;simp_all
 obtain rfl:ca= #[.pointer (some ⟨a.blk,a.base+0,none⟩)]:=by cases ca;simp_all
 obtain rfl:vs= #[.func (.func 266) #[] #[.pointer (some ⟨a.blk,a.base+0,none⟩)]]:=by cases vs;simp_all
 have hR':=hR;obtain⟨S,h1,h2,h3,h4,h5⟩:=hR;obtain⟨a',ha',hO⟩:=h1 0 (.cells 169 (.av [.mp 1])) rfl;rw[ha]at ha';cases ha';obtain⟨hb0,hS,arr,ha1,ha2,ha3,ha4⟩:=hO;obtain⟨um,hm1,hm2⟩:=ha4 0 (.mp 1) rfl;obtain⟨aj,haj,rfl⟩:=hm2;obtain⟨aj',haj',hOj⟩:=h1 1 (.nC m.ms) rfl;rw[haj]at haj';cases haj';obtain⟨hSj,marr,hmb,hmr⟩:=hOj;have hBl:a.blk<w.heap.size:=(h3 0 _ _ rfl hS).2;have hcell:w.cell? ⟨a.blk,0,none⟩=some (.map (some aj.blk)):=by
  simp[World.cell?,ha1,hb0]at hm1 ⊢;simpa using hm1
 rw[hb0];refine(Vh hm hcell hBl hmb hmr).mono ?_
 rintro e w' ⟨v,ss,rfl,hperm,⟨hlen,hrow⟩,hnil,hbel⟩
 have hk:=apG hm hperm;have hl:((ss.mergeSort (λx y=>decide (x<=y))).map λl=>(⟨l.toArray⟩:ByteArray)).length=ss.length:=by simp
 rcases hrow with ⟨rfl,h0⟩|⟨g,cap,cur,rfl,r1,r2,r3,r4,r5,r6⟩
 ·have hss:ss=[]:=List.eq_nil_of_length_eq_zero h0
  subst hss;obtain⟨ρ',l1,l2,l3,l4,l5⟩:=Zo (a:=⟨0,0,0⟩) (S0:=λ_=>False) (o:=ahd true []) hR' hbel (λb h=>h.elim) (λρ'=> .inl ⟨rfl,rfl⟩);refine⟨ρ',.slV true 2 1 0,_,hO 3 [.cells 169 (.av [.mp 1]),.nC m.ms,ahd true []],l3,by show 2<=3;decide,?_,.inl ⟨rfl,rfl,rfl⟩,rfl,l5,fE ⟨(true,[]),aZ.2 ⟨by simpa using hk,λ_=>rfl⟩,rfl,rfl⟩⟩;exact l4
 ·have hgl:g<w'.heap.size:=(Array.getElem?_eq_some_iff.1 r2).1
  generalize hks:(ss.mergeSort (λx y=>decide (x<=y))).map (λl=>(⟨l.toArray⟩:ByteArray))=ks at hk hl;have hne:ss≠[]:=λe=>by have:=hnil.2 e;cases this
  have hcur: ∀i,i<ks.length->cur[i]? =some (.string (ED ks i)):=λi hi=>by
   have e1:(cur.toList.take (ss.length*1))[i]? =cur.toList[i]? :=List.getElem?_take_of_lt (by omega);rw[<-Array.getElem?_toList,<-e1,r6];subst hks;unfold ED;rw[List.length_map]at hi;rw[List.getElem?_map,List.getElem?_eq_getElem hi,List.getD_eq_getElem?_getD,List.getElem?_map,List.getElem?_eq_getElem hi];rfl
  obtain⟨ρ',l1,l2,l3,l4,l5⟩:=Zo (a:=⟨g,0,cap⟩) (S0:=λb=>b=g) (o:=ahd false ks) hR' hbel (λb h=>by subst h;exact⟨r1,hgl⟩) (λρ'=> .inr ⟨rfl,rfl,rfl,cur,r2,by show cur.size=cap;omega,by show ks.length*1<=cap;omega,λk x hk=>by
   unfold Cs.get at hk;cases hb:Nat.blt k (ks.length*1)with
   |false=>rw[hb]at hk;cases hk
   |true=>
    rw[hb]at hk;have hb:=bg.1 hb;have hi:k<ks.length:=by omega
    have e1:k/1=k:=Nat.div_one k;have e2:k%1=0:=Nat.mod_one k;rw[e1,e2]at hk;cases hk
    exact⟨_,by rw[aA];exact hcur k hi,rfl⟩⟩)
  rw[<-hl];refine⟨ρ',.slV false 2 1 ks.length,_,hO 3 [.cells 169 (.av [.mp 1]),.nC m.ms,ahd false ks],l3,by show 2<=3;decide,?_,.inr ⟨rfl,⟨g,0,cap⟩,_,_,l2,rfl,?_,?_⟩,rfl,l5,fE ⟨(false,ks),aZ.2 ⟨hk,λh=>nomatch h⟩,rfl,rfl⟩⟩
  ·exact l4
  ·omega
  ·exactλ_=>⟨rfl,by show cap*1<=cap;omega⟩
structure ZNx where
 L:Lks
 pos:ByteArray
 past:Bool
noncomputable def alm(b:Nat):abv:={X:=ZNx,args:=λx=>[.ptr 0 0,i64 b,.lit (.string x.pos),boo x.past],L:=λx=>x.L,pre:=λx=>Hd (x.pos.size<1099511627776),outs:=[
 {Y:=Unit,post:=λx _=>Hd (nextL x.L b x.pos x.past=none),ret:=λ_ _=> .tup [iI.av,boo false],L:=λx _=>x.L,m:=1,ex:=λ_ _=>[]},
 {Y:=ZLnk,post:=λx y=>Hd (nextL x.L b x.pos x.past=some y),ret:=λ_ y=> .tup [y.av,boo true],L:=λx _=>x.L,m:=1,ex:=λ_ _=>[]}]}
def txtV:List Value->ByteArray
 |[.string s]=>s
 |_=>⟨#[]⟩
def am8(x:ZNx×iJ):FuncId->qA:=λf=>bif Nat.beq f 182 then(λb _ h=>bif Nat.beq b 0 then(match h.get 11 with
 |some (.iF _ _ (.row _ n g _))=>[{σ:=Nat,fr:=λi=>[(34,i64 i)],ob:=λ_=>[],inv:=λi=>Hd (i<=n/\ ∀j,j<i->x.1.past=true/\kl x.1.pos (txtV (g j))=false),meas:=λi=>n-i}]
 |_=>[])else [])elseλ_ _ _=>[]
noncomputable def arS:jf:=[(230,ctrT ahe)]
def nEnd(b:Nat)(x:ZNx×iJ)(m:ZMs)(l:ZLnk)(f:Bool):Prop:=(∃y:Unit×iJ,(Hd (nextL x.1.L b x.1.pos x.1.past=none)/\Hd (kJ x.1.L y.2))/\(Va iI l/\false=f/\True)/\Gj y.2 x.2 b m.ms)\/ ∃y:ZLnk×iJ,(Hd (nextL x.1.L b x.1.pos x.1.past=some y.1)/\Hd (kJ x.1.L y.2))/\(Va y.1 l/\true=f/\True)/\Gj y.2 x.2 b m.ms
def nInv(x:ZNx×iJ)(y:Bool×List ByteArray)(s:Nat):Prop:=Hd (s<=y.2.length/\ ∀j,j<s->x.1.past=true/\kl x.1.pos (ED y.2 j)=false)
def apH(b:Nat)(x:ZNx×iJ)(m:ZMs)(y:Bool×List ByteArray):Prop:=(y.1=y.1/\y.2.length=y.2.length/\ ∀q:Nat,q<y.2.length->[Value.string (ED y.2 q)]=[Value.string (ED y.2 q)])/\(True/\True)/\Va iI iI/\
 (bif Nat.beq b 7 then m.ms else(x.2 7).ms)=(bif Nat.beq b 7 then m.ms else(x.2 7).ms)/\(bif Nat.beq b 6 then m.ms else(x.2 6).ms)=(bif Nat.beq b 6 then m.ms else(x.2 6).ms)/\(bif Nat.beq b 5 then m.ms else(x.2 5).ms)=(bif Nat.beq b 5 then m.ms else(x.2 5).ms)/\(bif Nat.beq b 4 then m.ms else(x.2 4).ms)=(bif Nat.beq b 4 then m.ms else(x.2 4).ms)/\(bif Nat.beq b 3 then m.ms else(x.2 3).ms)=(bif Nat.beq b 3 then m.ms else(x.2 3).ms)/\(bif Nat.beq b 2 then m.ms else(x.2 2).ms)=(bif Nat.beq b 2 then m.ms else(x.2 2).ms)/\(bif Nat.beq b 1 then m.ms else(x.2 1).ms)=(bif Nat.beq b 1 then m.ms else(x.2 1).ms)/\(bif Nat.beq b 0 then m.ms else(x.2 0).ms)=(bif Nat.beq b 0 then m.ms else(x.2 0).ms)/\aqh/\True
def nHit(b:Nat)(x:ZNx×iJ)(m:ZMs)(y:Bool×List ByteArray)(s:Nat):Prop:=am4 m (ED y.2 (0+s)) (λj=>nEnd b x m (m.lk j) true)/\kNo m (ED y.2 (0+s)) (nEnd b x m iI true)
def gtrB(a b:ByteArray):Bool:= !(Op.bytesLess a.toList b.toList||a.toList==b.toList)
def arT(b:Nat)(x:ZNx×iJ):Prop:=((0:Int)<=b/\(0:Int)<=(7:Int)-b)/\ ∃m:ZMs,Hd m.good/\((Fn.func 266=Fn.func 266/\True/\0=0/\True)/\True)/\((True/\True)/\m.ms=(x.2 b).ms/\True)/\
 ∀y:Bool×List ByteArray,Hd (ahc m y.2/\(y.1=true->y.2=[]))->(∃s:Nat,nInv x y s/\True/\((s:Int)=0/\True)/\apH b x m y)/\
  (∀s:Nat,nInv x y s->cP (decide ((s:Int)<((y.2.length:Nat):Int))) ((0<=(s:Int)/\(s:Int)<((y.2.length:Nat):Int))/\0+s<y.2.length/\cP (!x.1.past) (nHit b x m y s) (cP (gtrB (ED y.2 (0+s)) x.1.pos) (nHit b x m y s)
   (I64 ((s:Int)+1)/\ ∃s1:Nat,nInv x y s1/\y.2.length-s1<y.2.length-s/\((s1:Int)=(s:Int)+1/\True)/\apH b x m y))) (nEnd b x m iI false))/\True
theorem aln: ∀b,b<8-> ∀x,arT b x=wpF Tryz.prog arS tt (am8 x) 200 6 182 ((alm b).E.args x) (hO 9 (flatP 1 ((alm b).E.l x))) (λv h'=>endsPK 1 x v h' (alm b).E.outs)
 |0,_=>λx=>by kernel_rfl
 |1,_=>λx=>by kernel_rfl
 |2,_=>λx=>by kernel_rfl
 |3,_=>λx=>by kernel_rfl
 |4,_=>λx=>by kernel_rfl
 |5,_=>λx=>by kernel_rfl
 |6,_=>λx=>by kernel_rfl
 |7,_=>λx=>by kernel_rfl
 |b+8,h=>absurd h (by omega)
theorem ahg(a b:ByteArray):gtrB a b=kl b a:=by
 unfold gtrB kl;cases h1:Op.bytesLess a.toList b.toList with
 |true=>
  have:Op.bytesLess b.toList a.toList=false:=by
   cases h2:Op.bytesLess b.toList a.toList with
   |false=>rfl
   |true=>have:=JR h1 h2;rw[Zb]at this;cases this
  rw[this];rfl
 |false=>
  cases h2:Op.bytesLess b.toList a.toList with
  |true=>
   have hne:(a.toList==b.toList)=false:=by
    rw[beq_eq_false_iff_ne];intro e;rw[e,Zb]at h2;cases h2
   rw[hne];rfl
  |false=>
   have:=agG _ _ h1 h2;rw[this];simp
theorem abH{L:Lks}(hs:srt L){p:ZLnk->Bool}{l:ZLnk}(hl:l∈L)(hp:p l=true)(hn: ∀l'∈L,kl l'.key l.key=true->p l'=false):L.find? p=some l:=by
 induction L with
 |nil=>cases hl
 |cons x L ih=>
  obtain⟨h1,h2⟩:=List.pairwise_cons.1 hs;rcases List.mem_cons.1 hl with rfl|hl
  ·rw[List.find?_cons_of_pos hp]
  ·rw[List.find?_cons_of_neg (by rw[hn x List.mem_cons_self (h1 l hl)];decide)]
   exact ih h2 hl λl' hl'=>hn l' (List.mem_cons_of_mem _ hl')
theorem apI{ks:List ByteArray}{i:Nat}(h:i<ks.length):ED ks i∈ks:=by
 unfold ED;rw[List.getD_eq_getElem?_getD,List.getElem?_eq_getElem h];exact List.getElem_mem h
theorem apJ{ks:List ByteArray}{s:ByteArray}(h:s∈ks): ∃i,i<ks.length/\ED ks i=s:=by
 obtain⟨i,hi,rfl⟩:=List.mem_iff_getElem.1 h;exact⟨i,hi,by unfold ED;rw[List.getD_eq_getElem?_getD,List.getElem?_eq_getElem hi];rfl⟩
theorem arU{ks:List ByteArray}(h:ks.Pairwise λa b=>kl a b=true){i j:Nat}(hi:i<ks.length)(hj:j<ks.length)(hk:kl (ED ks i) (ED ks j)=true):i<j:=by
 rcases Nat.lt_trichotomy i j with h'|h'|h'
 ·exact h'
 ·subst h';rw[lD]at hk;cases hk
 ·have e: ∀q,q<ks.length->ED ks q=ks[q]! :=λq hq=>by unfold ED;rw[List.getD_eq_getElem?_getD,List.getElem!_eq_getElem?_getD];rfl
  have:=List.pairwise_iff_getElem.1 h j i hj hi h';have e1:ED ks i=ks[i]:=by unfold ED;rw[List.getD_eq_getElem?_getD,List.getElem?_eq_getElem hi];rfl
  have e2:ED ks j=ks[j]:=by unfold ED;rw[List.getD_eq_getElem?_getD,List.getElem?_eq_getElem hj];rfl
  rw[e1,e2]at hk;have:=jm this hk;rw[lD]at this;cases this
theorem kJ.good{L:Lks}{t:iJ}(h:kJ L t){b:Nat}(hb:b<8):(t b).good:=by
 refine⟨?_,λj hj=>h.key _ (h.mem b hb j hj).1,h.inj b hb,h.born b hb,h.bi b hb⟩;rw[h.n hb];exact Nat.le_trans (List.length_filter_le _ _) h.size
theorem Qw{t:iJ}{b:Nat}(hb:b<8):Gj t t b (t b).ms:=by
 have e: ∀k,k<8->(t k).ms=(bif Nat.beq b k then(t b).ms else(t k).ms):=λk hk=>by
  rw[dA];by_cases h:b=k
  ·subst h;simp
  ·rw[decide_eq_false h];rfl
 exact⟨AL,e 0 (by decide),e 1 (by decide),e 2 (by decide),e 3 (by decide),e 4 (by decide),e 5 (by decide),e 6 (by decide),e 7 (by decide),trivial⟩
theorem abI{b:Nat}(hb:b<8)(x:ZNx×iJ)(h:kJ x.1.L x.2):arT b x:=by
 have hz:=(h.good hb).size;refine⟨⟨by omega,by omega⟩,x.2 b,aZ.2 (h.good hb),⟨⟨rfl,trivial,rfl,trivial⟩,trivial⟩,⟨⟨trivial,trivial⟩,rfl,trivial⟩,λy hy=> ?_⟩;obtain⟨⟨k1,k2,k3⟩,_⟩:=aZ.1 hy;have keep:apH b x (x.2 b) y:=⟨⟨rfl,rfl,λ_ _=>rfl⟩,⟨trivial,trivial⟩,ku,rfl,rfl,rfl,rfl,rfl,rfl,rfl,rfl,AL,trivial⟩;have key: ∀l∈x.1.L,bkt l.key=b-> ∃i,i<y.2.length/\ED y.2 i=l.key:=λl hl hlb=>by
  obtain⟨j,h1,h2⟩:=h.all l hl;rw[hlb]at h1 h2;exact apJ ((k3 l.key).2 ⟨j,h1,by rw[h2]⟩)
 refine⟨⟨0,aZ.2 ⟨Nat.zero_le _,λj hj=>absurd hj (Nat.not_lt_zero j)⟩,trivial,⟨rfl,trivial⟩,keep⟩,λs hs=> ?_,trivial⟩;obtain⟨s1,s2⟩:=aZ.1 hs;refine bf (λhc=> ?_) λhc=> ?_
 ·have hlt:s<y.2.length:=by have:=aS hc;omega
  have hit:((!x.1.past)||kl x.1.pos (ED y.2 s))=true->nHit b x (x.2 b) y s:=λhp=>by
   unfold nHit;rw[aA];refine⟨λj hj hk=> .inr ⟨((x.2 b).lk j,x.2),⟨aZ.2 ?_,aZ.2 h⟩,⟨ku,rfl,trivial⟩,Qw hb⟩,λhn=> ?_⟩
   ·obtain⟨m1,m2⟩:=h.mem b hb j hj
    refine abH h.srt m1 ?_ λl' hl' hk'=> ?_
    ·rw[decide_eq_true m2,hk,aH];exact hp
    ·by_cases hlb:bkt l'.key=b
     ·obtain⟨i,hi,he⟩:=key l' hl' hlb
      rw[hk,<-he]at hk';have:=arU k1 hi hlt hk';obtain⟨p1,p2⟩:=s2 i this;rw[<-he,p1,p2];simp
     ·rw[decide_eq_false hlb];rfl
   ·obtain⟨j,hj,hk⟩:=(k3 _).1 (apI hlt)
    exact(hn j hj hk).elim
  refine⟨⟨by omega,by omega⟩,by omega,bf (λhp=>hit (by rw[hp];rfl)) λhp=>bf (λhq=> ?_) λhq=> ?_⟩
  ·rw[ahg,aA]at hq
   exact hit (by rw[hq];simp)
  ·rw[ahg,aA]at hq
   refine⟨by unfold I64;omega,s+1,aZ.2 ⟨by omega,λj hj=> ?_⟩,by omega,⟨by omega,trivial⟩,keep⟩;by_cases e:j=s
   ·subst e;exact⟨by simpa using hp,hq⟩
   ·exact s2 j (by omega)
 ·have hge:y.2.length<=s:=by have:=aT hc;omega
  refine .inl ⟨((),x.2),⟨aZ.2 (List.find?_eq_none.2 λl hl=> ?_),aZ.2 h⟩,⟨ku,rfl,trivial⟩,Qw hb⟩;by_cases hlb:bkt l.key=b
  ·obtain⟨i,hi,he⟩:=key l hl hlb
   obtain⟨p1,p2⟩:=s2 i (by omega);rw[<-he,p1,p2];simp
  ·rw[decide_eq_false hlb];simp
theorem alo:dX Tryz.prog arS:= .cons (bP ahf) .nil
theorem ahh{b:Nat}(hb:b<8):bZ Tryz.prog 182 (alm b).C:=y9 ⟨Tryz.f182,by kernel_rfl,by kernel_rfl,by kernel_rfl⟩ (List.forall_mem_cons.2 ⟨λ_ _=>rfl,List.forall_mem_cons.2 ⟨λ_ _=>rfl,λ_ h=>(List.not_mem_nil h).elim⟩⟩) (cO dF mixed alo 9 am8 200 6 (λ_=>⟨rfl,rfl,rfl,rfl⟩) λx hx=>Eq.mp (aln b hb x) (abI hb x (aZ.1 hx.2)))
structure ZNk where
 L:Lks
 s:ByteArray
 pos:ByteArray
 past:Bool
noncomputable def nextK:abv:={X:=ZNk,args:=λx=>[.ptr 0 0,i64 (bkt x.s),.lit (.string x.pos),boo x.past],L:=λx=>x.L,pre:=λx=>Hd (x.pos.size<1099511627776),outs:=[
 {Y:=Unit,post:=λx _=>Hd (nextL x.L (bkt x.s) x.pos x.past=none),ret:=λ_ _=> .tup [iI.av,boo false],L:=λx _=>x.L,m:=1,ex:=λ_ _=>[]},
 {Y:=ZLnk,post:=λx y=>Hd (nextL x.L (bkt x.s) x.pos x.past=some y),ret:=λ_ y=> .tup [y.av,boo true],L:=λx _=>x.L,m:=1,ex:=λ_ _=>[]}]}
theorem alp:bZ Tryz.prog 182 nextK.C:=jS λx hx=>⟨_,ahh (oU x.s),rfl,⟨x.L,x.pos,x.past⟩,hx,rfl,rfl,λv h' hh=>by
 rcases qG hh with ⟨y,h0,e1,e2⟩|⟨y,h0,e1,e2⟩
 ·exact fE ⟨(),h0,e1,e2⟩
 ·exact D7 ⟨y,h0,e1,e2⟩⟩
end Go.Proofs.YtenfleoejgjklaaGreat
end
section
namespace Go.Proofs.YtenfleoejgjklaaGreat
open Go Go.Shelf Go.RowKit Go.Lib Go.Sort
def Tryz.sortFA_ren:Go.Shelf.Ren:=⟨λ|6=>118|15=>175|14=>174|28=>225|29=>226|20=>217|21=>218|22=>219|23=>220|24=>221|25=>222|26=>223|27=>224|46=>258|47=>259|48=>260|49=>261|50=>262|57=>286|n=>n,λ|22=>123|24=>41|25=>240|3=>3|39=>114|0=>0|53=>135|55=>31|4=>4|46=>330|45=>329|50=>334|5=>5|9=>9|66=>362|70=>365|76=>380|77=>381|n=>n,λ|n=>n⟩
theorem Tryz.sortFA:Go.Proofs.SlLaysF0.n6 Tryz.prog Tryz.sortFA_ren:={
 mixed:=by kernel_rfl
 f6:=⟨Tryz.f118.name,by decide,Tryz.func118.trans (congrArg some (by kernel_rfl))⟩
 f14:=⟨Tryz.f174.name,by decide,Tryz.func174.trans (congrArg some (by kernel_rfl))⟩
 f15:=Tryz.func175.trans (congrArg some (by kernel_rfl))
 f20:=⟨Tryz.f217.name,by decide,Tryz.func217.trans (congrArg some (by kernel_rfl))⟩
 f21:=⟨Tryz.f218.name,by decide,Tryz.func218.trans (congrArg some (by kernel_rfl))⟩
 f22:=⟨Tryz.f219.name,by decide,Tryz.func219.trans (congrArg some (by kernel_rfl))⟩
 f23:=⟨Tryz.f220.name,by decide,Tryz.func220.trans (congrArg some (by kernel_rfl))⟩
 f24:=⟨Tryz.f221.name,by decide,Tryz.func221.trans (congrArg some (by kernel_rfl))⟩
 f25:=⟨Tryz.f222.name,by decide,Tryz.func222.trans (congrArg some (by kernel_rfl))⟩
 f26:=⟨Tryz.f223.name,by decide,Tryz.func223.trans (congrArg some (by kernel_rfl))⟩
 f27:=⟨Tryz.f224.name,by decide,Tryz.func224.trans (congrArg some (by kernel_rfl))⟩
 f28:=Tryz.func225.trans (congrArg some (by kernel_rfl))
 f29:=Tryz.func226.trans (congrArg some (by kernel_rfl))
 f46:=⟨Tryz.f258.name,by decide,Tryz.func258.trans (congrArg some (by kernel_rfl))⟩
 f47:=Tryz.func259.trans (congrArg some (by kernel_rfl))
 f48:=Tryz.func260.trans (congrArg some (by kernel_rfl))
 f49:=⟨Tryz.f261.name,by decide,Tryz.func261.trans (congrArg some (by kernel_rfl))⟩
 f50:=⟨Tryz.f262.name,by decide,Tryz.func262.trans (congrArg some (by kernel_rfl))⟩
 f57:=⟨Tryz.f286.name,by decide,Tryz.func286.trans (congrArg some (by kernel_rfl))⟩
 t0:=Tryz.underlying0
 a0:=Tryz.isAgg0
 z0:=Tryz.sizeOf0
 v0:=Tryz.zeroValue0
 t3:=Tryz.underlying3
 a3:=Tryz.isAgg3
 z3:=Tryz.sizeOf3
 v3:=Tryz.zeroValue3
 t4:=Tryz.underlying4
 a4:=Tryz.isAgg4
 z4:=Tryz.sizeOf4
 v4:=Tryz.zeroValue4
 t5:=Tryz.underlying5
 a5:=Tryz.isAgg5
 z5:=Tryz.sizeOf5
 v5:=Tryz.zeroValue5
 t9:=Tryz.underlying9
 a9:=Tryz.isAgg9
 z9:=Tryz.sizeOf9
 v9:=Tryz.zeroValue9
 t22:=Tryz.underlying123
 a22:=Tryz.isAgg123
 z22:=Tryz.sizeOf123
 v22:=Tryz.zeroValue123
 t25:=Tryz.underlying240
 a25:=Tryz.isAgg240
 z25:=Tryz.sizeOf240
 v25:=Tryz.zeroValue240
 t39:=Tryz.underlying114
 a39:=Tryz.isAgg114
 z39:=Tryz.sizeOf114
 v39:=Tryz.zeroValue114
 t45:=Tryz.underlying329
 a45:=Tryz.isAgg329
 z45:=Tryz.sizeOf329
 v45:=Tryz.zeroValue329
 t46:=Tryz.underlying330
 a46:=Tryz.isAgg330
 z46:=Tryz.sizeOf330
 v46:=Tryz.zeroValue330
 t50:=Tryz.underlying334
 a50:=Tryz.isAgg334
 z50:=Tryz.sizeOf334
 v50:=Tryz.zeroValue334
 t53:=Tryz.underlying135
 a53:=Tryz.isAgg135
 z53:=Tryz.sizeOf135
 v53:=Tryz.zeroValue135
 t55:=Tryz.underlying31
 a55:=Tryz.isAgg31
 z55:=Tryz.sizeOf31
 v55:=Tryz.zeroValue31
 t66:=Tryz.underlying362
 a66:=Tryz.isAgg362
 z66:=Tryz.sizeOf362
 v66:=Tryz.zeroValue362
 t70:=Tryz.underlying365
 a70:=Tryz.isAgg365
 z70:=Tryz.sizeOf365
 v70:=Tryz.zeroValue365
 t76:=Tryz.underlying380
 a76:=Tryz.isAgg380
 z76:=Tryz.sizeOf380
 v76:=Tryz.zeroValue380
 t77:=Tryz.underlying381
 a77:=Tryz.isAgg381
 z77:=Tryz.sizeOf381
 v77:=Tryz.zeroValue381}
def Tryz.cmpStrA_ren:Go.Shelf.Ren:=⟨λ|106=>120|213=>176|265=>227|n=>n,λ|9=>9|3=>3|n=>n,λ|n=>n⟩
theorem Tryz.cmpStrA:Go.Proofs.Lays.n106 Tryz.prog Tryz.cmpStrA_ren:={
 mixed:=by kernel_rfl
 f106:=Tryz.func120.trans (congrArg some (by kernel_rfl))
 f213:=Tryz.func176.trans (congrArg some (by kernel_rfl))
 f265:=Tryz.func227.trans (congrArg some (by kernel_rfl))
 t3:=Tryz.underlying3
 a3:=Tryz.isAgg3
 z3:=Tryz.sizeOf3
 v3:=Tryz.zeroValue3
 t9:=Tryz.underlying9
 a9:=Tryz.isAgg9
 z9:=Tryz.sizeOf9
 v9:=Tryz.zeroValue9}
instance:Inhabited ZLnk:=⟨iI⟩
def aiU(l:ZLnk):List Value:=l.cs
def cfL(a b:ZLnk):Int:=Lib.compareBytes a.key.data.toList b.key.data.toList
set_option maxHeartbeats 1000000 in
theorem ahi(x y:ZLnk)(W:World):Calls Tryz.prog 119 #[.agg (aiU x).toArray,.agg (aiU y).toArray] W λe w'=>e= .returned (.int .i64 (cfL x y))/\ ∃q os',w'=grow (W.drewN q) os':=by
 have hcon:=λa b W'=>Any.strings_Compare Tryz.cmpStrA a b W'
 change∀a b W',Calls Tryz.prog 120 _ _ _ at hcon;unfold cfL;generalize hr:(λa b:ByteArray=>Lib.compareBytes a.data.toList b.data.toList)=r;have hcon: ∀(a b:ByteArray) (W':World),Calls Tryz.prog 120 #[.string a,.string b] W' λe w'=>e= .returned (.int .i64 (r a b))/\w'=W':=by subst hr;exact hcon
 have hg:Lib.compareBytes x.key.data.toList y.key.data.toList=r x.key y.key:=by subst hr;rfl
 rw[hg];clear hg hr;obtain⟨xk,x1,x2,x3,x4⟩:=x;obtain⟨yk,y1,y2,y3,y4⟩:=y;simp only[aiU,ZLnk.cs]
 go_enter Tryz.func119,Tryz.ntmps119
 go_wp2_with (go_at_call 120;refine(hcon _ _ _).mono ?_;rintro e w' ⟨rfl,rfl⟩)
 go_ret
 exact⟨rfl,0,_,by rw[alloc_eq_grow,alloc_eq_grow,grow_grow];rfl⟩
end Go.Proofs.YtenfleoejgjklaaGreat
end
section
namespace Go.Proofs.YtenfleoejgjklaaGreat
open Go SE
noncomputable def Zp:Ctr:=det Unit (λ_=>[gY,.fn (.func 119) [] []]) 1 (λ_=>[.abs Bf]) (λ_=>True) (λ_=> .tup []) 1 (λ_=>[.abs Bf])
def Vj(x:Unit):Prop:=
 ((0:Int)<=0/\(0:Int)<=255)/\I64 (0:Int)/\I64 (0:Int)/\I64 (0:Int)/\I64 (1:Int)/\ ∃y:Unit,True/\True/\Bf=Bf/\True
theorem abJ(x:Unit):Vj x=wpF Tryz.prog [] tt (noA x) 200 6 118 (Zp.args x) (hO 1 (Zp.os x)) (λv h'=>eX 1 x v h' Zp.outs):=by kernel_rfl
end Go.Proofs.YtenfleoejgjklaaGreat
end
section
namespace Go.Proofs.YtenfleoejgjklaaGreat
open Go SE
open Go.Shelf Go.RowKit Go.Lib Go.Sort
theorem Qy(x:Unit):Vj x:=by
 unfold Vj;simp only[aZ,aV,aU,aA,aI,bT,bF,aO,aK,ay,aX,aW,I64];omega
theorem alq:bZ Tryz.prog 118 Zp:=dR dF mixed .nil noA 200 6 (λ_=>rfl) (λ_=>rfl) λx _=>Eq.mp (abJ x) (Qy x)
theorem J7(x y:ZLnk):ltOf cfL x y=kl x.key y.key:=by
 unfold ltOf cfL kl;rw[iy,iy];have h:=(nN x.key.data.toList y.key.data.toList).1;cases hb:Op.bytesLess x.key.data.toList y.key.data.toList with
 |true=>exact decide_eq_true (h.2 hb)
 |false=>exact decide_eq_false λhc=>by rw[h.1 hc]at hb;cases hb
theorem swoL:SWO (ltOf cfL):={
 irrefl x:=by rw[J7];exact lD _
 trans x y z h1 h2:=by rw[J7]at*;exact jm h1 h2
 ntrans x y z h1 h2:=by
  rw[J7]at*
  cases hz:kl x.key z.key with
  |false=>rfl
  |true=>
   cases hy:kl y.key x.key with
   |true=>rw[jm hy hz]at h2;cases h2
   |false=>rw[Zc h1 hy]at hz;rw[hz]at h2;cases h2}
theorem alr{h:Heap}{ρ:SE.Ren}{T:Nat->Prop}{w w':World}(hR:Rel h ρ T w)(hs:w.heap.size<=w'.heap.size)(hw: ∀b,b<w.heap.size->w'.heap[b]? =w.heap[b]?):Rel h ρ T w':=by
 obtain⟨S,h1,h2,h3,h4,h5⟩:=hR;refine⟨S,λi o hi=> ?_,h2,λi o b hi hS=>⟨(h3 i o b hi hS).1,Nat.lt_of_lt_of_le (h3 i o b hi hS).2 hs⟩,h4,λb hb=>h5 b (Nat.le_trans hs hb)⟩;obtain⟨a,ha,ho⟩:=h1 i o hi;refine⟨a,ha,ho.stays λb hb=>hw b ?_⟩;rcases hb with hb|hb
 ·exact(h3 i o b hi hb).2
 ·rcases Nat.lt_or_ge b w.heap.size with h'|h'
  ·exact h'
  ·exact(hb (h5 b h')).elim
theorem als{L M:Lks}(hs:srt L)(hp:M.Perm L)(hm:M.Pairwise λa b=>kl b.key a.key=false):M=L:=by
 refine List.Perm.eq_of_pairwise (le:=λa b=>kl b.key a.key=false) (λa b ha hb h1 h2=> ?_) hm (hs.imp λ{a b} h=>U2 h) hp;exact JU hs (hp.mem_iff.1 ha) hb (Zc h2 h1)
theorem Qz(g:Nat->ZLnk){n k:Nat}(hk:k<n*5):(Cs.row 5 n (λq=>(g q).cs) []).get k=some (.lit ((g (k/5)).cs[k%5]!)):=by
 unfold Cs.get;rw[bg.2 hk,aP];have hl:(g (k/5)).cs.length=5:=rfl;have hm:k%5<5:=Nat.mod_lt _ (by decide);have he:Cs.eff (λq=>(g q).cs) [] (k/5)=(g (k/5)).cs:=rfl;rw[he,List.getElem?_eq_getElem (by rw[hl];exact hm),List.getElem!_eq_getElem?_getD,List.getElem?_eq_getElem (by rw[hl];exact hm)];rfl
structure ZSl where
 z:Bool
 M:Lks
 L:Lks
noncomputable def am9:Ctr:=det ZSl (λx=>[.slV x.z 0 5 x.M.length,.fn (.func 119) [] []]) 1 (λx=>[uX x.z x.M]) (λx=>Hd (srt x.L/\x.M.Perm x.L/\x.M.length<=300)) (λ_=> .tup []) 1 (λx=>[uX x.z x.L])
theorem ahj(M:Lks)(i:Nat)(h:i<M.length):(M.toArray)[i]! =nthL M i:=by
 unfold nthL;rw[getElem!_pos _ i (by simpa using h),List.getD_eq_getElem?_getD,List.getElem?_eq_getElem h];simp
set_option maxRecDepth 20000 in
theorem alu{M L:Lks}(hs:srt L)(hp:M.Perm L)(hlen:M.length<=300){w:World}{blk off cap:Nat}(hoff:M.length≠0->off=0){arr:Array Value}(hb:w.heap[blk]? =some (.cells arr 41 (0,0)))(hsz:M.length*5<=arr.size)(hc: ∀k,k<M.length*5->arr[k]? =some ((nthL M (k/5)).cs[k%5]!)):
  Calls Tryz.prog 118 #[.slice (some ⟨blk,off,none⟩) M.length cap,.func (.func 119) #[] #[]] w λe w'=>e= .returned (.tuple #[])/\
   (∃arr',w'.heap[blk]? =some (.cells arr' 41 (0,0))/\arr'.size=arr.size/\ ∀k,k<L.length*5->arr'[k]? =some ((nthL L (k/5)).cs[k%5]!))/\w.heap.size<=w'.heap.size/\(w'.os=w.os/\w'.tape=w.tape/\w'.output=w.output)/\ ∀b,b≠blk->b<w.heap.size->w'.heap[b]? =w.heap[b]? :=by
 have hbl:blk<w.heap.size:=(Array.getElem?_eq_some_iff.1 hb).1;have hdz:(M.toArray).size=M.length:=by simp
 have nth: ∀i,i<M.length->(M.toArray)[i]! =nthL M i:=λi hi=>ahj M i hi
 have hH:HoldsK aiU 5 w blk off M.toArray:=by
  intro t ht;rw[size_flatK,hdz]at ht;obtain rfl:=hoff (by omega);rw[get_flatK _ _ _ _ (by rw[hdz];exact ht),nth _ (by omega)];refine⟨?_,by simp[World.frozen?,hb]⟩;have:=hc t ht;simp only[World.cell?,hb,aA];simpa[aiU]using this
 have h:=AnyQ.slices_SortFunc Tryz.sortFA 5 Tryz.isAgg41 Tryz.sizeOf41 aiU (λ_=>rfl) (λx v hv=>by simp[aiU,ZLnk.cs]at hv;rcases hv with rfl|rfl|rfl|rfl|rfl<;>rfl) cfL swoL 119 #[] blk off cap M.toArray w (enters_of Tryz.func119 (by kernel_rfl) rfl) (λ_ _ _ _ x y=>ahi x y _) hH hbl (by rw[hdz];omega);rw[hdz]at h;refine Calls.mono h ?_
 rintro e w' ⟨rfl,d',n,os,⟨p1,p2,p3⟩,hso,rfl⟩
 have hd':d'.size=M.length:=by rw[p1,hdz]
 have hDL:d'.toList=L:=by
  refine als hs ?_ ?_
  ·have e1:(d'.extract 0 M.length).toList=d'.toList:=by simp[<-hd']
   have e2:((M.toArray).extract 0 M.length).toList=M:=by simp
   rw[e1,e2]at p3;exact p3.trans hp
  ·refine List.pairwise_iff_getElem.2 λi j hi hj hij=> ?_
   have hi':i<d'.size:=by simpa using hi
   have hj':j<d'.size:=by simpa using hj
   have:=hso i j (Nat.zero_le _) hij (by omega);rw[J7,getElem!_pos _ i hi',getElem!_pos _ j hj']at this;simpa using this
 have hdA:d'=L.toArray:=by rw[<-hDL]
 have hLl:L.length=M.length:=hp.symm.length_eq;subst hdA;have e2:(sortWorldK aiU 5 w blk off n L.toArray os).heap[blk]? =some (.cells (putCells id off (flatK aiU 5 L.toArray) arr) 41 (0,0)):=by
  unfold sortWorldK putRowK;rw[heap_grow_old _ _ (by simpa using hbl)];simp[Sort.putRow,mapBlock,Sort.ahead,Array.getElem?_modify,hb,onCells]
 refine⟨rfl,⟨_,e2,by simp[putCells],λk hk=> ?_⟩,?_,⟨rfl,rfl,rfl⟩,λb hne hlt=> ?_⟩
 ·have hka:k<arr.size:=by omega
  obtain rfl:=hoff (by omega);have hfl:=get_flatK aiU 5 L.toArray k (by simpa using hk);simp only[putCells,Array.getElem?_mapIdx,Nat.zero_le,aU,aA,aN,size_flatK];rw[Array.getElem?_eq_getElem hka];simp only[Option.map_some];rw[if_pos (by simpa using hk),hfl,ahj L _ (by omega)];rfl
 ·unfold sortWorldK putRowK
  simp[grow,Sort.putRow,mapBlock,Sort.ahead]
 ·unfold sortWorldK putRowK
  rw[heap_grow_old _ _ (by simpa using hlt)];simp[Sort.putRow,mapBlock,Sort.ahead,Array.getElem?_modify,Ne.symm hne]
end Go.Proofs.YtenfleoejgjklaaGreat
end
section
namespace Go.Proofs.YtenfleoejgjklaaGreat
open Go SE
set_option maxRecDepth 20000 in
theorem alv:bZ Tryz.prog 118 am9:=λx hx=>⟨rfl,by
 obtain⟨hs,hp,hlen⟩:=aZ.1 hx;have hcall:nJ Tryz.prog 118:=⟨Tryz.f118,by kernel_rfl,by kernel_rfl,by kernel_rfl⟩;obtain⟨z,M,L⟩:=x;simp only at hs hp hlen;have hLl:L.length=M.length:=hp.symm.length_eq;refine agT (k:=1) (os:=[]) rfl hcall (λhz hn=> ?_) λhz=> ?_
 ·have hM:M=[]:=List.eq_nil_of_length_eq_zero hn
  have hL:L=[]:=List.eq_nil_of_length_eq_zero (by rw[hLl];exact hn);have hz:z=true:=hz;subst hz hM hL;refine Ak (((alq () trivial).2).mono λv h' hh=> ?_);have hh:(∃y:Unit,True/\v= .tup []/\h'=hO 1 [.abs Bf])\/False:=by with_unfolding_all exact hh
  rcases hh with ⟨_,_,rfl,rfl⟩|hh
  ·refine⟨.tup [],hO 1 [uX true []],?_,by with_unfolding_all exact Or.inl ⟨(),trivial,rfl,rfl⟩⟩
   refine tq (m:=1) rfl rfl (aY _) λi o o' hi hi'=> ?_
   match i,hi,hi' with
   |0,hi,hi'=>cases hi;cases hi';exactλ_ _ _ _ _ _=> .inl ⟨rfl,rfl⟩
  ·exact hh.elim
 ·have hz:z=false:=hz
  subst hz;refine⟨hcall,λρ T w vs hR hl=> ?_⟩;obtain⟨u1,us,hvs,hu1,hl2⟩:=hl;obtain⟨u2,us2,rfl,hu2,hus⟩:=hl2;obtain rfl:us2=[]:=hus;obtain⟨a,p,c,ha,rfl,hnc,hpc⟩:=hu1;obtain⟨fa,ca,rfl,hfa,hca⟩:=hu2;have hfa:fa.toList=[]:=hfa;have hca:ca.toList=[]:=hca;obtain rfl:fa= #[]:=by cases fa;simp_all
  obtain rfl:ca= #[]:=by cases ca;simp_all
  obtain rfl:=vs2 hvs;obtain⟨S,h1,h2,h3,h4,h5⟩:=id hR;obtain⟨a',ha',hO⟩:=h1 0 _ rfl;rw[ha]at ha';cases ha';obtain⟨hb0,hS,arr,ha1,ha2,ha3,ha4⟩:=hO;have hbl:a.blk<w.heap.size:=(h3 0 _ _ rfl hS).2;have hTa:=(h3 0 _ _ rfl hS).1;have ha3:M.length*5<=a.lim:=ha3;have ha2:arr.size=a.lim:=ha2;have hnc:M.length<=c:=hnc;have hb0':a.base=0:=hb0;have hc: ∀k,k<M.length*5->arr[k]? =some ((nthL M (k/5)).cs[k%5]!):=λk hk=>by
   obtain⟨u,hu,hr⟩:=ha4 k _ (Qz (nthL M) hk);rw[aA]at hu;have hr:u=_:=hr;rw[hu,hr]
  refine(alu hs hp hlen (off:=p+0) (cap:=c) (λhne=>by obtain⟨e,_⟩:=hpc (by omega);have e:p=a.base:=e;omega) ha1 (by omega) hc).mono ?_
  rintro e w' ⟨rfl,⟨arr',g1,g2,g3⟩,g4,⟨g5,g6,g7⟩,g8⟩
  have hRel:Rel (hO 1 [uX false L]) ρ T w':=by
   let w1:World:={w with heap:=w.heap.setIfInBounds a.blk (.cells arr' 41 (0,0))}
   have r1:Rel ((hO 1 [.room 41 (.row 5 M.length (λq=>(nthL M q).cs) [])]).set 0 (uX false L)) ρ T w1:=hR.upd rfl ha (by simp[w1]) (λb hb=>by simp[w1,Array.getElem?_setIfInBounds,Ne.symm hb]) (λS hS=>hS.2.1) λS hS _=> .inr ⟨rfl,hb0,hS,arr',by simp[w1,hbl],by rw[g2];exact ha2,by show L.length*5<=a.lim;rw[hLl];exact ha3,λk v hk=>by
    rcases Nat.lt_or_ge k (L.length*5)with hk'|hk'
    ·rw[Qz (nthL L) hk']at hk
     cases hk;exact⟨_,by rw[aA];exact g3 k hk',rfl⟩
    ·unfold Cs.get at hk
     rw[show Nat.blt k (L.length*5)=false by rw[bQ];exact decide_eq_false (by omega)]at hk
     cases hk⟩
   have r2:Rel (hO 1 [uX false L]) ρ T w1:=r1.less (by simp;exact aY _) λj y hj=>by rw[y8 (by rfl)];exact hj
   refine alr r2 (by simpa[w1]using g4) λb hb=> ?_
   have hb:b<w.heap.size:=by simpa[w1]using hb
   by_cases e:b=a.blk
   ·subst e;rw[g1];simp[w1,hbl]
   ·rw[g8 b e hb];simp[w1,Array.getElem?_setIfInBounds,Ne.symm e]
  refine⟨ρ,.tup [],_,hO 1 [uX false L],λ_ _=>rfl,aY _,hRel,⟨#[],rfl,rfl⟩,rfl,⟨g4,g5,g6,g7,λb hb=> ?_⟩,by with_unfolding_all exact Or.inl ⟨(),trivial,rfl,rfl⟩⟩;rcases Nat.lt_or_ge b w.heap.size with h'|h'
  ·exact g8 b (λe=>hb (e▸hTa)) h'
  ·exact(hb (h5 b h')).elim⟩
noncomputable def allT:abv:={X:=ZLq,args:=λ_=>[.ptr 0 0],L:=λx=>x.L,pre:=λ_=>True,outs:=[
 {Y:=Bool,post:=λx z=>Hd (z=true->x.L=[]),ret:=λx z=> .slV z 1 5 x.L.length,L:=λx _=>x.L,m:=2,ex:=λx z=>[uX z x.L]}]}
def ZMs.all(m:ZMs):Lks:=(List.range m.n).map m.lk
def nS(t:iJ):Nat->Lks
 |0=>[]
 |k+1=>nS t k++(t k).all
structure ZAl where
 z:Bool
 M:Lks
 seen:List Nat
def allI(t:iJ)(k:Nat)(s:ZAl):Prop:=(s.z=true->s.M=[])/\ ∃ps:List Nat,ps.Nodup/\(∀p∈ps,p<(t k).n)/\s.seen=ps.map (t k).born/\s.M.Perm (nS t k++ps.map (t k).lk)
def aqj:AV->Nat
 | .lit (.int _ (Int.ofNat n))=>n
 | .slV _ i _ _=>i
 | .ptr i _=>i
 |_=>100000
def gone9:List (Nat×Option dB):=[(9,none),(10,none),(11,none),(12,none),(13,none),(14,none),(15,none),(16,none),(17,none),(18,none),(19,none),(20,none),(21,none),(22,none),(23,none),(24,none),(25,none),(26,none),(27,none),(28,none),(29,none),(30,none)]
noncomputable def ana(x:ZLq×iJ):FuncId->qA:=λf=>bif Nat.beq f 68 then(λb fr h=>bif Nat.beq b 2 then [
 {σ:=ZAl,fr:=λs=>[(3,.slV s.z h.next 5 s.M.length)],ob:=λs=>(aqj (SE.look fr 19),some (.iter (some (aqj (SE.look fr 15)+1)) (x.2 (aqj (SE.look fr 15))).clk s.seen (x.2 (aqj (SE.look fr 15))).clk))::(h.next,some (uX s.z s.M))::gone9,nx:=1,inv:=λs=>Hd (allI x.2 (aqj (SE.look fr 15)) s),meas:=λs=>(x.2 (aqj (SE.look fr 15))).n-s.seen.length}]else [])elseλ_ _ _=>[]
noncomputable def ahk:jf:=[(118,ctrT am9)]
def ahl(a b:Lks):Prop:= ∀q:Nat,q<a.length->(nthL a q).cs=(nthL b q).cs
def Vk(x:ZLq×iJ)(k:Nat):Prop:=(x.2 k).clk=(x.2 k).clk
def ms8d(x:ZLq×iJ):Prop:=(x.2 7).ms=(x.2 7).ms/\(x.2 6).ms=(x.2 6).ms/\(x.2 5).ms=(x.2 5).ms/\(x.2 4).ms=(x.2 4).ms/\(x.2 3).ms=(x.2 3).ms/\(x.2 2).ms=(x.2 2).ms/\(x.2 1).ms=(x.2 1).ms/\(x.2 0).ms=(x.2 0).ms/\aqh/\True
def ms8u(y t:iJ):Prop:=(y 0).ms=(t 0).ms/\(y 1).ms=(t 1).ms/\(y 2).ms=(t 2).ms/\(y 3).ms=(t 3).ms/\(y 4).ms=(t 4).ms/\(y 5).ms=(t 5).ms/\(y 6).ms=(t 6).ms/\(y 7).ms=(t 7).ms/\True
def arV(x:ZLq×iJ)(k:Nat)(s:ZAl)(j j1:Nat):Prop:=s.z=s.z/\s.M.length=s.M.length/\List.all [List.take 5 ((x.2 k).lk j1).cs] (λl=>Nat.beq l.length 5&&l.all Value.oneCell')=true/\(2*(s.M.length+1)+1000)*48<=281474976710656/\
 ∃s1:ZAl,Hd (allI x.2 k s1)/\(x.2 k).n-s1.seen.length<(x.2 k).n-s.seen.length/\((s1.z=false/\s1.M.length=s.M.length+1)/\True)/\(s1.z=false/\s1.M.length=s.M.length+[List.take 5 ((x.2 k).lk j1).cs].length/\ ∀q:Nat,q<s1.M.length->(nthL s1.M q).cs=Cs.eff (λq=>(nthL s.M q).cs) [(s.M.length,List.take 5 ((x.2 k).lk j1).cs)] q)/\(Vk x k/\s1.seen=s.seen++[(x.2 k).born j]/\Vk x k)/\ms8d x
def ahm(x:ZLq×iJ)(k:Nat)(s:ZAl)(R:Prop):Prop:=(∀j:Nat,j<(x.2 k).n->(x.2 k).born j<(x.2 k).clk)/\Vk x k/\Vk x k/\
 (∀j:Nat,j<(x.2 k).n->((x.2 k).born j∈s.seen->False)->Vk x k/\(∃j1:Nat,j1<(x.2 k).n/\(s.seen++[(x.2 k).born j]).getLast? =some ((x.2 k).born j1))/\ ∀j1:Nat,j1<(x.2 k).n->(s.seen++[(x.2 k).born j]).getLast? =some ((x.2 k).born j1)->arV x k s j j1)/\
 ((∀j:Nat,j<(x.2 k).n->(x.2 k).born j∈s.seen)->R)
def anb(x:ZLq×iJ)(s:ZAl):Prop:= ∃x1:ZSl,Hd (srt x1.L/\x1.M.Perm x1.L/\x1.M.length<=300)/\((x1.z=s.z/\x1.M.length=s.M.length)/\(Fn.func 119=Fn.func 119/\True/\True)/\True)/\((x1.z=s.z/\x1.M.length=s.M.length/\ahl x1.M s.M)/\True)/\
 ∀_:Unit,True-> ∃y1:Bool×iJ,(Hd (y1.1=true->x.1.L=[])/\Hd (kJ x.1.L y1.2))/\(y1.1=s.z/\x.1.L.length=s.M.length)/\aqh/\(y1.1=x1.z/\x.1.L.length=x1.L.length/\ahl x.1.L x1.L)/\ms8u y1.2 x.2
def ent0(s:ZAl):Prop:=s.z=true/\s.M.length=0/\ ∀q:Nat,q<s.M.length->(nthL s.M q).cs=[]
def entS(p s:ZAl):Prop:=s.z=p.z/\s.M.length=p.M.length/\ahl s.M p.M
def sizA(z:Bool)(n:Nat)(s:ZAl):Prop:=(s.z=z/\s.M.length=n)/\True
def apK(x:ZLq×iJ):Nat->Nat->Bool->Nat->(ZAl->Prop)->Prop
 |0,_,_,_,_=>True
 |r+1,k,z,n,ent=>w8 k/\(∃s:ZAl,Hd (allI x.2 k s)/\True/\sizA z n s/\ent s/\(Vk x k/\s.seen=[]/\Vk x k)/\ms8d x)/\
  (∀s:ZAl,Hd (allI x.2 k s)->ahm x k s (I64 ((k:Int)+1)/\(match r with
   |0=>anb x s
   |r'+1=>apK x (r'+1) (k+1) s.z s.M.length (entS s))))/\True
theorem apL(x:ZLq×iJ):apK x 8 0 true 0 ent0=wpF Tryz.prog ahk tt (ana x) 200 6 68 (allT.E.args x) (hO 9 (flatP 1 (allT.E.l x))) (λv h'=>endsPK 1 x v h' allT.E.outs):=by kernel_rfl
theorem apM{m:ZMs}{l:ZLnk}:l∈m.all↔ ∃j,j<m.n/\m.lk j=l:=by
 unfold ZMs.all;rw[List.mem_map];exact⟨λ⟨j,hj,e⟩=>⟨j,List.mem_range.1 hj,e⟩,λ⟨j,hj,e⟩=>⟨j,List.mem_range.2 hj,e⟩⟩
section
variable{L:Lks}{t:iJ}
theorem kJ.front(h:kJ L t): ∀k,k<=8->(nS t k).Nodup/\ ∀l,l∈nS t k↔l∈L/\bkt l.key<k
 |0,_=>⟨List.nodup_nil,λl=>⟨λhl=>absurd hl List.not_mem_nil,λhl=>absurd hl.2 (Nat.not_lt_zero _)⟩⟩
 |k+1,hk=>by
  obtain⟨h1,h2⟩:=h.front k (by omega);have hm: ∀l,l∈(t k).all↔l∈L/\bkt l.key=k:=λl=>by
   rw[apM];constructor
   ·rintro ⟨j,hj,rfl⟩;exact h.mem k (by omega) j hj
   ·rintro ⟨hl,hb⟩
    obtain⟨j,j1,j2⟩:=h.all l hl;rw[hb]at j1 j2;exact⟨j,j1,j2⟩
  refine⟨List.nodup_append.2 ⟨h1,List.pairwise_map.2 (List.nodup_range.imp_of_mem λ{i j} hi hj hne e=>hne (h.inj k (by omega) i j (List.mem_range.1 hi) (List.mem_range.1 hj) (by rw[e]))),λa ha b hb e=> ?_⟩,λl=> ?_⟩
  ·subst e
   have e1:=((h2 a).1 ha).2;have e2:=((hm a).1 hb).2;omega
  ·show l∈nS t k++(t k).all↔_
   rw[List.mem_append,h2,hm];constructor
   ·rintro (⟨a,b⟩|⟨a,b⟩)
    ·exact⟨a,by omega⟩
    ·exact⟨a,by omega⟩
   ·rintro ⟨a,b⟩
    rcases Nat.lt_or_ge (bkt l.key) k with h'|h'
    ·exact .inl ⟨a,h'⟩
    ·exact .inr ⟨a,by omega⟩
theorem kJ.arW(h:kJ L t):(nS t 8).Perm L:=by
 obtain⟨h1,h2⟩:=h.front 8 (aY _);exact(List.perm_ext_iff_of_nodup h1 (Qv h.srt)).2 λl=>by
  rw[h2];exact⟨λh=>h.1,λh=>⟨h,oU _⟩⟩
theorem kJ.apN(h:kJ L t){k:Nat}(hk:k<=8):(nS t k).length<=258:=by
 obtain⟨h1,h2⟩:=h.front k hk;exact Nat.le_trans (List.Nodup.length_le_of_subset h1 λl hl=>((h2 l).1 hl).1) h.size
theorem alx{n:Nat}{ps:List Nat}(h1:ps.Nodup)(h2: ∀p∈ps,p<n):ps.length<=n:=by
 have:=List.Nodup.length_le_of_subset h1 (λp hp=>List.mem_range.2 (h2 p hp):ps ⊆ List.range n);simpa using this
theorem ahn{n:Nat}{ps:List Nat}(h1:ps.Nodup)(h2: ∀p∈ps,p<n)(h3: ∀p,p<n->p∈ps):ps.Perm (List.range n):=
 (List.perm_ext_iff_of_nodup h1 List.nodup_range).2 λp=>⟨λh=>List.mem_range.2 (h2 p h),λh=>h3 p (List.mem_range.1 h)⟩
theorem aly{M:Lks}{l:ZLnk}{q:Nat}(hq:q<(M++[l]).length):nthL (M++[l]) q=if q=M.length then l else nthL M q:=by
 unfold nthL;rw[List.length_append]at hq;have hq:q<M.length+1:=hq;rw[List.getD_eq_getElem?_getD,List.getD_eq_getElem?_getD];by_cases e:q=M.length
 ·subst e;rw[if_pos rfl,List.getElem?_append_right (aY _)];simp
 ·rw[if_neg e,List.getElem?_append_left (by omega)]
theorem AO{x:ZLq×iJ}(h:kJ x.1.L x.2){k:Nat}(hk:k<8){s:ZAl}(hs:allI x.2 k s){R:Prop}(hR:(s.z=true->s.M=[])->s.M.Perm (nS x.2 (k+1))->R):ahm x k s R:=by
 obtain⟨hz,ps,p1,p2,p3,p4⟩:=hs;have hsl:s.seen.length=ps.length:=by rw[p3,List.length_map]
 have hML:s.M.length=(nS x.2 k).length+ps.length:=by rw[p4.length_eq,List.length_append,List.length_map]
 have notin: ∀j,j<(x.2 k).n->(x.2 k).born j ∉ s.seen->j ∉ ps:=λj hj hn hp=>hn (by rw[p3];exact List.mem_map_of_mem hp)
 refine⟨λj hj=>h.born k hk j hj,rfl,rfl,λj hj hn=>⟨rfl,⟨j,hj,by simp⟩,λj1 hj1 he=> ?_⟩,λhall=> ?_⟩
 ·have he:(x.2 k).born j=(x.2 k).born j1:=by simpa using he
  obtain rfl:=h.bi k hk j j1 hj hj1 he;have hjp:=notin j hj hn;have hlt:ps.length+1<=(x.2 k).n:=alx (ps:=j::ps) (List.nodup_cons.2 ⟨hjp,p1⟩) λp hp=>by
   rcases List.mem_cons.1 hp with rfl|hp
   ·exact hj
   ·exact p2 p hp
  have hfl:(nS x.2 (k+1)).length<=258:=h.apN (by omega);have hfe:(nS x.2 (k+1)).length=(nS x.2 k).length+(x.2 k).n:=by
   show(nS x.2 k++(x.2 k).all).length=_;rw[List.length_append];unfold ZMs.all;simp
  refine⟨rfl,rfl,rfl,by omega,⟨false,s.M++[(x.2 k).lk j],s.seen++[(x.2 k).born j]⟩,aZ.2 ⟨λh=>(by cases h),ps++[j],?_,?_,?_,?_⟩,?_,⟨⟨rfl,by simp⟩,trivial⟩,⟨rfl,by simp,λq hq=> ?_⟩,⟨rfl,rfl,rfl⟩,⟨rfl,rfl,rfl,rfl,rfl,rfl,rfl,rfl,AL,trivial⟩⟩
  ·exact List.nodup_append.2 ⟨p1,by simp,λa ha b hb e=>by simp at hb;subst hb;subst e;exact hjp ha⟩
  ·intro p hp
   rcases List.mem_append.1 hp with hp|hp
   ·exact p2 p hp
   ·simp at hp;subst hp;exact hj
  ·show s.seen++_=_;rw[p3,List.map_append];rfl
  ·show(s.M++[_]).Perm _
   rw[List.map_append,<-List.append_assoc];exact p4.append_right _
  ·show(x.2 k).n-(s.seen++[_]).length<_
   rw[List.length_append,hsl];simp only[List.length_cons,List.length_nil];omega
  ·show(nthL (s.M++[(x.2 k).lk j]) q).cs=bif Nat.beq q s.M.length then List.take 5 ((x.2 k).lk j).cs else(nthL s.M q).cs
   rw[aly hq,dA];by_cases e:q=s.M.length
   ·rw[if_pos e,decide_eq_true e];rfl
   ·rw[if_neg e,decide_eq_false e];rfl
 ·have hp:ps.Perm (List.range (x.2 k).n):=ahn p1 p2 λp hp=>by
   have:=hall p hp;rw[p3]at this;obtain⟨q,hq,he⟩:=List.mem_map.1 this;exact h.bi k hk q p (p2 q hq) hp he▸hq
  exact hR hz (p4.trans ((hp.map _).append_left _))
theorem Vl{x:ZLq×iJ}(h:kJ x.1.L x.2){s:ZAl}(hz:s.z=true->s.M=[])(hp:s.M.Perm x.1.L):anb x s:=by
 have hsz:=h.size;have hl:=hp.length_eq
 exact⟨⟨s.z,s.M,x.1.L⟩,aZ.2 ⟨h.srt,hp,by show s.M.length<=300;omega⟩,⟨⟨rfl,rfl⟩,⟨rfl,trivial,trivial⟩,trivial⟩,⟨⟨rfl,rfl,λ_ _=>rfl⟩,trivial⟩,λ_ _=>⟨(s.z,x.2),⟨aZ.2 λe=>by
  have e:=hz e;rw[e]at hp
  exact hp.symm.eq_nil,aZ.2 h⟩,⟨rfl,hl.symm⟩,AL,⟨rfl,rfl,λ_ _=>rfl⟩,⟨rfl,rfl,rfl,rfl,rfl,rfl,rfl,rfl,trivial⟩⟩⟩
theorem abK{x:ZLq×iJ}(h:kJ x.1.L x.2)(r:Nat): ∀k z n ent,k+(r+1)=8->(∃s:ZAl,s.seen=[]/\allI x.2 k s/\s.z=z/\s.M.length=n/\ent s)->apK x (r+1) k z n ent:=by
 induction r with
 |zero=>
  rintro k z n ent hk ⟨s0,e1,e2,e3,e4,e5⟩
  refine⟨⟨by omega,by omega⟩,⟨s0,aZ.2 e2,trivial,⟨⟨e3,e4⟩,trivial⟩,e5,⟨rfl,e1,rfl⟩,⟨rfl,rfl,rfl,rfl,rfl,rfl,rfl,rfl,AL,trivial⟩⟩,λs hs=>AO h (by omega) (aZ.1 hs) λhz hp=>⟨by unfold I64;omega,?_⟩,trivial⟩;obtain rfl:k=7:=by omega
  exact Vl h hz (hp.trans h.arW)
 |succ r ih=>
  rintro k z n ent hk ⟨s0,e1,e2,e3,e4,e5⟩
  refine⟨⟨by omega,by omega⟩,⟨s0,aZ.2 e2,trivial,⟨⟨e3,e4⟩,trivial⟩,e5,⟨rfl,e1,rfl⟩,⟨rfl,rfl,rfl,rfl,rfl,rfl,rfl,rfl,AL,trivial⟩⟩,λs hs=>AO h (by omega) (aZ.1 hs) λhz hp=>⟨by unfold I64;omega,?_⟩,trivial⟩;exact ih (k+1) _ _ _ (by omega) ⟨⟨s.z,s.M,[]⟩,rfl,⟨hz,[],List.nodup_nil,λp hp=>absurd hp List.not_mem_nil,rfl,by simpa using hp⟩,rfl,rfl,rfl,rfl,λ_ _=>rfl⟩
end
theorem abL:dX Tryz.prog ahk:= .cons (bP alv) .nil
theorem apO:bZ Tryz.prog 68 allT.C:=y9 ⟨Tryz.f68,by kernel_rfl,by kernel_rfl,by kernel_rfl⟩ (List.forall_mem_cons.2 ⟨λ_ _=>rfl,λ_ h=>(List.not_mem_nil h).elim⟩) (cO dF mixed abL 9 ana 200 6 (λ_=>⟨rfl,rfl,rfl,rfl⟩) λx hx=>Eq.mp (apL x) (abK (aZ.1 hx.2) 7 0 true 0 ent0 rfl ⟨⟨true,[],[]⟩,rfl,⟨λ_=>rfl,[],List.nodup_nil,λp hp=>absurd hp List.not_mem_nil,rfl,by simp[nS]⟩,rfl,rfl,rfl,rfl,λq hq=>absurd hq (Nat.not_lt_zero q)⟩))
def fO(a:iM):Prop:=a.now=a.now/\a.dur=a.dur/\a.OL=a.OL/\(0=0/\a.t=a.t/\a.t=a.t)/\True
def lF(a:iM):Prop:=258=258/\ ∀q:Nat,q<258->[Value.bool (a.L q)]=[Value.bool (a.L q)]
def AP(a:uO):Prop:=(a.c.t=a.c.t/\ ∀q:Nat,q<a.c.t->[Value.int .i64 (ite (q=a.t/\0<=a.l/\a.l<258) (a.c.o q+1) (a.c.o q))]=[Value.int .i64 (a.c.o q)])/\True
def AQ(a:uO):Prop:=258=258/\ ∀q:Nat,q<258->[Value.bool (Bool.or (a.c.N q) (decide (a.l=(q:Int))))]=[Value.bool (a.c.N q)]
def jP(a:iM):Prop:=(a.t=a.t/\ ∀q:Nat,q<a.t->[Value.int .i64 (a.o q)]=[Value.int .i64 (a.o q)])/\True
def gW(a:iM):Prop:=258=258/\ ∀q:Nat,q<258->[Value.bool (a.N q)]=[Value.bool (a.N q)]
def qP(a:uO):Prop:=(a.c.t=a.c.t/\ ∀q:Nat,q<a.c.t->[Value.int .i64 (ite (q=a.t/\0<=a.l/\a.l<258) (a.c.o q+1) (a.c.o q))]=Cs.eff (λ(k:Nat)=>[Value.int .i64 (a.c.o k)]) [(0+a.t,[Value.int .i64 (a.c.o (0+a.t)+1)])] q)/\True
def qQ(a:iM):Prop:=lF a/\(@Fn.func (107: @FuncId)= @Fn.func (107: @FuncId)/\(0=0/\True)/\True)/\True
def qR(a:iM):Prop:=lF a/\(@Fn.func (165: @FuncId)= @Fn.func (165: @FuncId)/\(0=0/\True)/\True)/\True
def qU(a:iM):Prop:=lF a/\(@Fn.func (212: @FuncId)= @Fn.func (212: @FuncId)/\(0=0/\True)/\True)/\True
def qV(a:iM):Prop:=lF a/\(@Fn.func (57: @FuncId)= @Fn.func (57: @FuncId)/\(0=0/\True)/\True)/\True
def qW(a:uO):Prop:=258=258/\ ∀q:Nat,q<258->[Value.bool (Bool.or (a.c.N q) (decide (a.l=(q:Int))))]=Cs.eff (λ(k:Nat)=>[Value.bool (a.c.N k)]) [(Int.toNat a.l,[Value.bool true])] q
def qX(a:iM):Prop:=(0=a.t*1/\ ∀q:Nat,q<a.t->[Value.int .i64 (a.o q)]=List.take 1 (List.drop (q*1) (@List.nil Value)))/\jP a
def qY(a:iM):Prop:=(a.t=0+a.t/\ ∀q:Nat,q<a.t->[Value.int .i64 (a.o q)]=[Value.int .i64 (a.o (0+(q-0)))])/\jP a
def mV(a:Int):Prop:=ite (0<=a/\a<258) (0:Int) (2:Int)=2
def kN(a:uO):Prop:=0<=(a.t:Int)/\(a.t:Int)<(a.c.t:Int)
def qZ(a:Int):Prop:=ite (0<=a/\a<258) (0:Int) (2:Int)=1
def ru(a:Int):Prop:=ite (0<=a/\a<258) (0:Int) (2:Int)=0
def rC(a:Nat):Prop:=(2*(0+a)+1000)*8<=281474976710656
def Vm(a:uO):Prop:=(fO a.c/\AQ a/\qV a.c)/\AP a
def J8(a:uO):Prop:=(fO a.c/\AQ a/\qQ a.c)/\AP a
def J9(a:uO):Prop:=(fO a.c/\AQ a/\qR a.c)/\AP a
def Ko(a:uO):Prop:=(fO a.c/\AQ a/\qU a.c)/\AP a
def Vo(a:uO):Prop:= ∃y:Unit,True/\mV a.l/\Vm a
def Vp(x:uO):Prop:=
 cP (decide ((x.t:Int)>=(x.c.t:Int))) (∃y:Unit,True/\qZ x.l/\Vm x) (cP (decide (x.l<0)) (Vo x) (cP (decide (x.l>=(258:Int))) (Vo x) (kN x/\0+x.t<x.c.t/\I64 (x.c.o (0+x.t)+1)/\kN x/\0+x.t<x.c.t/\(0<=x.l/\x.l<258)/\Int.toNat x.l<258/\ ∃y:Unit,True/\ru x.l/\(fO x.c/\qW x/\qV x.c)/\qP x)))
theorem abM(x:uO):Vp x=wpF Tryz.prog pI tt (noA x) 200 5 64 ((og 1).args x) (hO 2 (flatP 1 ((og 1).l x))) (λv h'=>endsPK 1 x v h' (og 1).outs):=by kernel_rfl
def Vq(x:iM):Prop:=
 ∃y:Unit,True/\x.now=x.now/\(fO x/\gW x/\qV x)/\jP x
theorem abN(x:iM):Vq x=wpF Tryz.prog pI tt (noA x) 200 5 45 ((oh 1).args x) (hO 2 (flatP 1 ((oh 1).l x))) (λv h'=>endsPK 1 x v h' (oh 1).outs):=by kernel_rfl
def Vr(x:iM):Prop:=
 0+x.t<=x.t/\cP (Nat.beq x.t 0) (∃y:Unit,True/\(x.t=0/\0=0/\0=0)/\(fO x/\gW x/\qV x)/\qX x) (rC x.t/\ ∃y:Unit,True/\(0=0/\x.t=0+x.t)/\(fO x/\gW x/\qV x)/\qY x)
theorem abO(x:iM):Vr x=wpF Tryz.prog pI tt (noA x) 200 5 204 ((ou 1).args x) (hO 2 (flatP 1 ((ou 1).l x))) (λv h'=>endsPK 1 x v h' (ou 1).outs):=by kernel_rfl
def Vs(x:uO):Prop:=
 cP (decide ((x.t:Int)>=(x.c.t:Int))) (∃y:Unit,True/\qZ x.l/\J8 x) (cP (decide (x.l<0)) (∃y:Unit,True/\mV x.l/\J8 x) (cP (decide (x.l>=(258:Int))) (∃y:Unit,True/\mV x.l/\J8 x) (kN x/\0+x.t<x.c.t/\I64 (x.c.o (0+x.t)+1)/\kN x/\0+x.t<x.c.t/\(0<=x.l/\x.l<258)/\Int.toNat x.l<258/\ ∃y:Unit,True/\ru x.l/\(fO x.c/\qW x/\qQ x.c)/\qP x)))
theorem abP(x:uO):Vs x=wpF Tryz.prog pI tt (noA x) 200 5 64 ((og 2).args x) (hO 2 (flatP 1 ((og 2).l x))) (λv h'=>endsPK 1 x v h' (og 2).outs):=by kernel_rfl
def Vt(x:iM):Prop:=
 ∃y:Unit,True/\x.now=x.now/\(fO x/\gW x/\qQ x)/\jP x
theorem abQ(x:iM):Vt x=wpF Tryz.prog pI tt (noA x) 200 5 45 ((oh 2).args x) (hO 2 (flatP 1 ((oh 2).l x))) (λv h'=>endsPK 1 x v h' (oh 2).outs):=by kernel_rfl
def Vu(x:iM):Prop:=
 0+x.t<=x.t/\cP (Nat.beq x.t 0) (∃y:Unit,True/\(x.t=0/\0=0/\0=0)/\(fO x/\gW x/\qQ x)/\qX x) (rC x.t/\ ∃y:Unit,True/\(0=0/\x.t=0+x.t)/\(fO x/\gW x/\qQ x)/\qY x)
theorem abR(x:iM):Vu x=wpF Tryz.prog pI tt (noA x) 200 5 204 ((ou 2).args x) (hO 2 (flatP 1 ((ou 2).l x))) (λv h'=>endsPK 1 x v h' (ou 2).outs):=by kernel_rfl
def Vw(x:uO):Prop:=
 cP (decide ((x.t:Int)>=(x.c.t:Int))) (∃y:Unit,True/\qZ x.l/\J9 x) (cP (decide (x.l<0)) (∃y:Unit,True/\mV x.l/\J9 x) (cP (decide (x.l>=(258:Int))) (∃y:Unit,True/\mV x.l/\J9 x) (kN x/\0+x.t<x.c.t/\I64 (x.c.o (0+x.t)+1)/\kN x/\0+x.t<x.c.t/\(0<=x.l/\x.l<258)/\Int.toNat x.l<258/\ ∃y:Unit,True/\ru x.l/\(fO x.c/\qW x/\qR x.c)/\qP x)))
theorem abS(x:uO):Vw x=wpF Tryz.prog pI tt (noA x) 200 5 64 ((og 3).args x) (hO 2 (flatP 1 ((og 3).l x))) (λv h'=>endsPK 1 x v h' (og 3).outs):=by kernel_rfl
def Vx(x:iM):Prop:=
 ∃y:Unit,True/\x.now=x.now/\(fO x/\gW x/\qR x)/\jP x
theorem abT(x:iM):Vx x=wpF Tryz.prog pI tt (noA x) 200 5 45 ((oh 3).args x) (hO 2 (flatP 1 ((oh 3).l x))) (λv h'=>endsPK 1 x v h' (oh 3).outs):=by kernel_rfl
def Vy(x:iM):Prop:=
 0+x.t<=x.t/\cP (Nat.beq x.t 0) (∃y:Unit,True/\(x.t=0/\0=0/\0=0)/\(fO x/\gW x/\qR x)/\qX x) (rC x.t/\ ∃y:Unit,True/\(0=0/\x.t=0+x.t)/\(fO x/\gW x/\qR x)/\qY x)
theorem abU(x:iM):Vy x=wpF Tryz.prog pI tt (noA x) 200 5 204 ((ou 3).args x) (hO 2 (flatP 1 ((ou 3).l x))) (λv h'=>endsPK 1 x v h' (ou 3).outs):=by kernel_rfl
def Vz(x:uO):Prop:=
 cP (decide ((x.t:Int)>=(x.c.t:Int))) (∃y:Unit,True/\qZ x.l/\Ko x) (cP (decide (x.l<0)) (∃y:Unit,True/\mV x.l/\Ko x) (cP (decide (x.l>=(258:Int))) (∃y:Unit,True/\mV x.l/\Ko x) (kN x/\0+x.t<x.c.t/\I64 (x.c.o (0+x.t)+1)/\kN x/\0+x.t<x.c.t/\(0<=x.l/\x.l<258)/\Int.toNat x.l<258/\ ∃y:Unit,True/\ru x.l/\(fO x.c/\qW x/\qU x.c)/\qP x)))
theorem abV(x:uO):Vz x=wpF Tryz.prog pI tt (noA x) 200 5 64 ((og 4).args x) (hO 2 (flatP 1 ((og 4).l x))) (λv h'=>endsPK 1 x v h' (og 4).outs):=by kernel_rfl
def VA(x:iM):Prop:=
 ∃y:Unit,True/\x.now=x.now/\(fO x/\gW x/\qU x)/\jP x
theorem abW(x:iM):VA x=wpF Tryz.prog pI tt (noA x) 200 5 45 ((oh 4).args x) (hO 2 (flatP 1 ((oh 4).l x))) (λv h'=>endsPK 1 x v h' (oh 4).outs):=by kernel_rfl
def VB(x:iM):Prop:=
 0+x.t<=x.t/\cP (Nat.beq x.t 0) (∃y:Unit,True/\(x.t=0/\0=0/\0=0)/\(fO x/\gW x/\qU x)/\qX x) (rC x.t/\ ∃y:Unit,True/\(0=0/\x.t=0+x.t)/\(fO x/\gW x/\qU x)/\qY x)
theorem abX(x:iM):VB x=wpF Tryz.prog pI tt (noA x) 200 5 204 ((ou 4).args x) (hO 2 (flatP 1 ((ou 4).l x))) (λv h'=>endsPK 1 x v h' (ou 4).outs):=by kernel_rfl
theorem QA(x:uO)(hx:x.c.ok/\x.t<x.c.t):Vp x:=by
 obtain⟨⟨h1,h2,h3,h4,h5,h6⟩,ht⟩:=hx;have hs:=h6 x.t;unfold small at hs;unfold Vp;simp only[qZ,Vm,Vo,kN,ru,fO,qW,qV,qP,lF,mV,AQ,AP];simp only[aZ,aV,aU,aA,aI,bT,bF,aO,aK,ay,aX,aW,bU,bH,bI,bJ,bV,bD,bK,bC,eY,aH,aN,ah,ak,aB,aF,aC,aG];refine bf (λh=>absurd (aS h) (by omega)) λ_=>bf (λh=> ?_) λh=>bf (λh2=> ?_) λh2=> ?_
 ·have h:=aS h
  exact⟨by rw[if_neg (by omega)],λq hq=>by simp;intro;omega,λq hq=>by rw[if_neg (by omega)]⟩
 ·have h:=aS h2
  exact⟨by rw[if_neg (by omega)],λq hq=>by simp;intro;omega,λq hq=>by rw[if_neg (by omega)]⟩
 ·have h:=aT h
  have h2:=aT h2;have hl:0<=x.l/\x.l<258:=by omega
  refine⟨by omega,by omega,by unfold I64;omega,by omega,by omega,hl,by omega,by rw[if_pos hl],λq hq=> ?_,λq hq=> ?_⟩
  ·simp only[Cs.eff,bQ,dw,dA,dI,<-Bool.decide_and]
   by_cases e:q=x.l.toNat
   ·rw[if_pos e,show decide (x.l=(q:Int))=true by simp;omega,Bool.or_true]
   ·rw[if_neg e,show decide (x.l=(q:Int))=false by simp;omega,Bool.or_false]
  ·simp only[Cs.eff,bQ,dw,dA,dI,<-Bool.decide_and]
   by_cases e:q=x.t
   ·subst e;rw[if_pos ⟨rfl,hl⟩,if_pos rfl]
   ·rw[if_neg (by omega),if_neg e]
theorem QB(x:iM)(hx:x.ok):Vq x:=by
 unfold Vq;simp only[fO,gW,qV,jP,lF];simp only[aZ,aV,aU,aA,aI,bT,bF,aO,aK,ay,aX,aW,bU,bH,bI,bJ,bV,bD,bK,bC,eY,aH,aN,ah,ak,aB,aF,aC,aG]
theorem QC(x:iM)(hx:x.ok):Vr x:=by
 have:=hx.1;have:=hx.2.1;unfold Vr;simp only[fO,gW,qV,qX,rC,qY,jP,lF];simp only[aZ,aV,aU,aA,aI,bT,bF,aO,aK,ay,aX,aW,bU,bH,bI,bJ,bV,bD,bK,bC,eY,aH,aN,ah,ak,aB,aF,aC,aG];exact⟨by omega,bf (λh=>absurd (au h) (by omega)) λ_=>by omega⟩
theorem alz:bZ Tryz.prog 64 (og 1).ctr:=cO dF mixed dS 2 noA 200 5 (λ_=>⟨rfl,rfl,rfl,rfl⟩) λx hx=>Eq.mp (abM x) (QA x (aZ.1 hx))
theorem alA:bZ Tryz.prog 45 (oh 1).ctr:=cO dF mixed dS 2 noA 200 5 (λ_=>⟨rfl,rfl,rfl,rfl⟩) λx hx=>Eq.mp (abN x) (QB x (aZ.1 hx))
theorem alB:bZ Tryz.prog 204 (ou 1).ctr:=cO dF mixed dS 2 noA 200 5 (λ_=>⟨rfl,rfl,rfl,rfl⟩) λx hx=>Eq.mp (abO x) (QC x (aZ.1 hx))
theorem QD(x:uO)(hx:x.c.ok/\x.t<x.c.t):Vs x:=by
 obtain⟨⟨h1,h2,h3,h4,h5,h6⟩,ht⟩:=hx;have hs:=h6 x.t;unfold small at hs;unfold Vs;simp only[qZ,J8,mV,kN,ru,fO,qW,qQ,qP,lF,AQ,AP];simp only[aZ,aV,aU,aA,aI,bT,bF,aO,aK,ay,aX,aW,bU,bH,bI,bJ,bV,bD,bK,bC,eY,aH,aN,ah,ak,aB,aF,aC,aG];refine bf (λh=>absurd (aS h) (by omega)) λ_=>bf (λh=> ?_) λh=>bf (λh2=> ?_) λh2=> ?_
 ·have h:=aS h
  exact⟨by rw[if_neg (by omega)],λq hq=>by simp;intro;omega,λq hq=>by rw[if_neg (by omega)]⟩
 ·have h:=aS h2
  exact⟨by rw[if_neg (by omega)],λq hq=>by simp;intro;omega,λq hq=>by rw[if_neg (by omega)]⟩
 ·have h:=aT h
  have h2:=aT h2;have hl:0<=x.l/\x.l<258:=by omega
  refine⟨by omega,by omega,by unfold I64;omega,by omega,by omega,hl,by omega,by rw[if_pos hl],λq hq=> ?_,λq hq=> ?_⟩
  ·simp only[Cs.eff,bQ,dw,dA,dI,<-Bool.decide_and]
   by_cases e:q=x.l.toNat
   ·rw[if_pos e,show decide (x.l=(q:Int))=true by simp;omega,Bool.or_true]
   ·rw[if_neg e,show decide (x.l=(q:Int))=false by simp;omega,Bool.or_false]
  ·simp only[Cs.eff,bQ,dw,dA,dI,<-Bool.decide_and]
   by_cases e:q=x.t
   ·subst e;rw[if_pos ⟨rfl,hl⟩,if_pos rfl]
   ·rw[if_neg (by omega),if_neg e]
theorem QE(x:iM)(hx:x.ok):Vt x:=by
 unfold Vt;simp only[fO,gW,qQ,jP,lF];simp only[aZ,aV,aU,aA,aI,bT,bF,aO,aK,ay,aX,aW,bU,bH,bI,bJ,bV,bD,bK,bC,eY,aH,aN,ah,ak,aB,aF,aC,aG]
theorem QF(x:iM)(hx:x.ok):Vu x:=by
 have:=hx.1;have:=hx.2.1;unfold Vu;simp only[fO,gW,qQ,qX,rC,qY,jP,lF];simp only[aZ,aV,aU,aA,aI,bT,bF,aO,aK,ay,aX,aW,bU,bH,bI,bJ,bV,bD,bK,bC,eY,aH,aN,ah,ak,aB,aF,aC,aG];exact⟨by omega,bf (λh=>absurd (au h) (by omega)) λ_=>by omega⟩
theorem alC:bZ Tryz.prog 64 (og 2).ctr:=cO dF mixed dS 2 noA 200 5 (λ_=>⟨rfl,rfl,rfl,rfl⟩) λx hx=>Eq.mp (abP x) (QD x (aZ.1 hx))
theorem alD:bZ Tryz.prog 45 (oh 2).ctr:=cO dF mixed dS 2 noA 200 5 (λ_=>⟨rfl,rfl,rfl,rfl⟩) λx hx=>Eq.mp (abQ x) (QE x (aZ.1 hx))
theorem alE:bZ Tryz.prog 204 (ou 2).ctr:=cO dF mixed dS 2 noA 200 5 (λ_=>⟨rfl,rfl,rfl,rfl⟩) λx hx=>Eq.mp (abR x) (QF x (aZ.1 hx))
theorem QG(x:uO)(hx:x.c.ok/\x.t<x.c.t):Vw x:=by
 obtain⟨⟨h1,h2,h3,h4,h5,h6⟩,ht⟩:=hx;have hs:=h6 x.t;unfold small at hs;unfold Vw;simp only[qZ,J9,mV,kN,ru,fO,qW,qR,qP,lF,AQ,AP];simp only[aZ,aV,aU,aA,aI,bT,bF,aO,aK,ay,aX,aW,bU,bH,bI,bJ,bV,bD,bK,bC,eY,aH,aN,ah,ak,aB,aF,aC,aG];refine bf (λh=>absurd (aS h) (by omega)) λ_=>bf (λh=> ?_) λh=>bf (λh2=> ?_) λh2=> ?_
 ·have h:=aS h
  exact⟨by rw[if_neg (by omega)],λq hq=>by simp;intro;omega,λq hq=>by rw[if_neg (by omega)]⟩
 ·have h:=aS h2
  exact⟨by rw[if_neg (by omega)],λq hq=>by simp;intro;omega,λq hq=>by rw[if_neg (by omega)]⟩
 ·have h:=aT h
  have h2:=aT h2;have hl:0<=x.l/\x.l<258:=by omega
  refine⟨by omega,by omega,by unfold I64;omega,by omega,by omega,hl,by omega,by rw[if_pos hl],λq hq=> ?_,λq hq=> ?_⟩
  ·simp only[Cs.eff,bQ,dw,dA,dI,<-Bool.decide_and]
   by_cases e:q=x.l.toNat
   ·rw[if_pos e,show decide (x.l=(q:Int))=true by simp;omega,Bool.or_true]
   ·rw[if_neg e,show decide (x.l=(q:Int))=false by simp;omega,Bool.or_false]
  ·simp only[Cs.eff,bQ,dw,dA,dI,<-Bool.decide_and]
   by_cases e:q=x.t
   ·subst e;rw[if_pos ⟨rfl,hl⟩,if_pos rfl]
   ·rw[if_neg (by omega),if_neg e]
theorem QH(x:iM)(hx:x.ok):Vx x:=by
 unfold Vx;simp only[fO,gW,qR,jP,lF];simp only[aZ,aV,aU,aA,aI,bT,bF,aO,aK,ay,aX,aW,bU,bH,bI,bJ,bV,bD,bK,bC,eY,aH,aN,ah,ak,aB,aF,aC,aG]
theorem QI(x:iM)(hx:x.ok):Vy x:=by
 have:=hx.1;have:=hx.2.1;unfold Vy;simp only[fO,gW,qR,qX,rC,qY,jP,lF];simp only[aZ,aV,aU,aA,aI,bT,bF,aO,aK,ay,aX,aW,bU,bH,bI,bJ,bV,bD,bK,bC,eY,aH,aN,ah,ak,aB,aF,aC,aG];exact⟨by omega,bf (λh=>absurd (au h) (by omega)) λ_=>by omega⟩
theorem alF:bZ Tryz.prog 64 (og 3).ctr:=cO dF mixed dS 2 noA 200 5 (λ_=>⟨rfl,rfl,rfl,rfl⟩) λx hx=>Eq.mp (abS x) (QG x (aZ.1 hx))
theorem alG:bZ Tryz.prog 45 (oh 3).ctr:=cO dF mixed dS 2 noA 200 5 (λ_=>⟨rfl,rfl,rfl,rfl⟩) λx hx=>Eq.mp (abT x) (QH x (aZ.1 hx))
theorem alH:bZ Tryz.prog 204 (ou 3).ctr:=cO dF mixed dS 2 noA 200 5 (λ_=>⟨rfl,rfl,rfl,rfl⟩) λx hx=>Eq.mp (abU x) (QI x (aZ.1 hx))
theorem QJ(x:uO)(hx:x.c.ok/\x.t<x.c.t):Vz x:=by
 obtain⟨⟨h1,h2,h3,h4,h5,h6⟩,ht⟩:=hx;have hs:=h6 x.t;unfold small at hs;unfold Vz;simp only[qZ,Ko,mV,kN,ru,fO,qW,qU,qP,lF,AQ,AP];simp only[aZ,aV,aU,aA,aI,bT,bF,aO,aK,ay,aX,aW,bU,bH,bI,bJ,bV,bD,bK,bC,eY,aH,aN,ah,ak,aB,aF,aC,aG];refine bf (λh=>absurd (aS h) (by omega)) λ_=>bf (λh=> ?_) λh=>bf (λh2=> ?_) λh2=> ?_
 ·have h:=aS h
  exact⟨by rw[if_neg (by omega)],λq hq=>by simp;intro;omega,λq hq=>by rw[if_neg (by omega)]⟩
 ·have h:=aS h2
  exact⟨by rw[if_neg (by omega)],λq hq=>by simp;intro;omega,λq hq=>by rw[if_neg (by omega)]⟩
 ·have h:=aT h
  have h2:=aT h2;have hl:0<=x.l/\x.l<258:=by omega
  refine⟨by omega,by omega,by unfold I64;omega,by omega,by omega,hl,by omega,by rw[if_pos hl],λq hq=> ?_,λq hq=> ?_⟩
  ·simp only[Cs.eff,bQ,dw,dA,dI,<-Bool.decide_and]
   by_cases e:q=x.l.toNat
   ·rw[if_pos e,show decide (x.l=(q:Int))=true by simp;omega,Bool.or_true]
   ·rw[if_neg e,show decide (x.l=(q:Int))=false by simp;omega,Bool.or_false]
  ·simp only[Cs.eff,bQ,dw,dA,dI,<-Bool.decide_and]
   by_cases e:q=x.t
   ·subst e;rw[if_pos ⟨rfl,hl⟩,if_pos rfl]
   ·rw[if_neg (by omega),if_neg e]
theorem QK(x:iM)(hx:x.ok):VA x:=by
 unfold VA;simp only[fO,gW,qU,jP,lF];simp only[aZ,aV,aU,aA,aI,bT,bF,aO,aK,ay,aX,aW,bU,bH,bI,bJ,bV,bD,bK,bC,eY,aH,aN,ah,ak,aB,aF,aC,aG]
theorem QL(x:iM)(hx:x.ok):VB x:=by
 have:=hx.1;have:=hx.2.1;unfold VB;simp only[fO,gW,qU,qX,rC,qY,jP,lF];simp only[aZ,aV,aU,aA,aI,bT,bF,aO,aK,ay,aX,aW,bU,bH,bI,bJ,bV,bD,bK,bC,eY,aH,aN,ah,ak,aB,aF,aC,aG];exact⟨by omega,bf (λh=>absurd (au h) (by omega)) λ_=>by omega⟩
theorem alI:bZ Tryz.prog 64 (og 4).ctr:=cO dF mixed dS 2 noA 200 5 (λ_=>⟨rfl,rfl,rfl,rfl⟩) λx hx=>Eq.mp (abV x) (QJ x (aZ.1 hx))
theorem alJ:bZ Tryz.prog 45 (oh 4).ctr:=cO dF mixed dS 2 noA 200 5 (λ_=>⟨rfl,rfl,rfl,rfl⟩) λx hx=>Eq.mp (abW x) (QK x (aZ.1 hx))
theorem alK:bZ Tryz.prog 204 (ou 4).ctr:=cO dF mixed dS 2 noA 200 5 (λ_=>⟨rfl,rfl,rfl,rfl⟩) λx hx=>Eq.mp (abX x) (QL x (aZ.1 hx))
structure ZCk where
 c:iM
 ph:Nat
noncomputable def ZCk.os(k:ZCk):List dB:=k.c.os k.ph
structure aiV where
 k:ZCk
 t:Nat
 l:Int
noncomputable def arX:Ctr:=det aiV (λx=>[.ptr 0 0,i64 x.t,i64 x.l]) 1 (λx=>[.abs (ownM x.k.os)]) (λx=>Hd (x.k.ph<=4/\x.k.c.ok/\x.t<x.k.c.t)) (λx=>i64 (if 0<=x.l/\x.l<258 then 0 else 2)) 1 (λx=>[.abs (ownM (ZCk.os ⟨x.k.c.note x.t x.l,x.k.ph⟩))])
noncomputable def aho:Ctr:=det ZCk (λ_=>[.ptr 0 0]) 1 (λk=>[.abs (ownM k.os)]) (λk=>Hd (k.ph<=4/\k.c.ok)) (λk=>u64 k.c.now) 1 (λk=>[.abs (ownM k.os)])
noncomputable def apP:Ctr:=det ZCk (λ_=>[.ptr 0 0]) 1 (λk=>[.abs (ownM k.os)]) (λk=>Hd (k.ph<=4/\k.c.ok)) (λk=> .slW 1 0 1 k.c.t) 2 (λk=>[.abs (ownM k.os),.room 3 (.row 1 k.c.t (λq=>[.int .i64 (k.c.o q)]) [])])
theorem Kq{p:Nat}(h:p<=4):p=0\/p=1\/p=2\/p=3\/p=4:=by omega
theorem alL{p:Nat}(h:p<=4):bZ Tryz.prog 64 (og p).ctr:=by
 rcases Kq h with rfl|rfl|rfl|rfl|rfl
 ·exact akf
 ·exact alz
 ·exact alC
 ·exact alF
 ·exact alI
theorem alM{p:Nat}(h:p<=4):bZ Tryz.prog 45 (oh p).ctr:=by
 rcases Kq h with rfl|rfl|rfl|rfl|rfl
 ·exact akg
 ·exact alA
 ·exact alD
 ·exact alG
 ·exact alJ
theorem alN{p:Nat}(h:p<=4):bZ Tryz.prog 204 (ou p).ctr:=by
 rcases Kq h with rfl|rfl|rfl|rfl|rfl
 ·exact akh
 ·exact alB
 ·exact alE
 ·exact alH
 ·exact alK
theorem alO:bZ Tryz.prog 64 arX:=jS λx hx=>by
 obtain⟨h1,h2⟩:=aZ.1 hx
 exact⟨_,alL h1,rfl,⟨x.k.c,x.t,x.l⟩,aZ.2 h2,rfl,rfl,λv h' hh=>by
  obtain⟨y,h0,e1,e2⟩:=jT hh
  exact fE ⟨y,h0,e1,e2⟩⟩
theorem tZ:bZ Tryz.prog 45 aho:=jS λx hx=>by
 obtain⟨h1,h2⟩:=aZ.1 hx
 exact⟨_,alM h1,rfl,x.c,aZ.2 h2,rfl,rfl,λv h' hh=>by
  obtain⟨y,h0,e1,e2⟩:=jT hh
  exact fE ⟨y,h0,e1,e2⟩⟩
theorem Kr:bZ Tryz.prog 204 apP:=jS λx hx=>by
 obtain⟨h1,h2⟩:=aZ.1 hx
 exact⟨_,alN h1,rfl,x.c,aZ.2 h2,rfl,rfl,λv h' hh=>by
  obtain⟨y,h0,e1,e2⟩:=jT hh
  exact fE ⟨y,h0,e1,e2⟩⟩
structure ZSto where
 d:DevM
 p:ZPool
 r:ZRd
 c:iM
 ph:Nat
 b:iw
 l:ZLn
 L:Lks
 id:Int
 ver:Int
 n:Nat
 e:Nat->ZEff
namespace ZSto
def ck(a:ZSto):ZCk:=⟨a.c,a.ph⟩
noncomputable def os(a:ZSto):List dB:=[.cells 113 (.av [.ptr 1 0,.ptr 3 0,.ptr 4 0,.ptr 5 0,.ptr 6 0,.ptr 7 0,.ptr 8 0,.ptr 9 0,u64 a.id,u64 a.ver,.slV (Nat.beq a.n 0) 10 7 a.n]),
 .cells 145 (.av [.ptr 2 0,u32 1,.lit (.int .i32 0),u32 0]),.abs (ownM a.d.os),.abs (ownM a.p.os),.abs (ownM a.r.os),.abs (ownM a.ck.os),.abs (ownM a.b.os),.abs (tabA a.L),.abs (ordA a.L),.abs (ownM a.l.os),.iF (Nat.beq a.n 0) 95 (.row 7 a.n (λi=>(a.e i).cs) [])]
end ZSto
noncomputable def newSto(n t:Nat)(d:DevM):ZSto:=⟨d,gy ((n-2)/8) ((n-2)/8),akb t,aeN t 0,0,Y4,akz,[],0,0,0,λ_=>⟨0,⟨#[]⟩,⟨#[]⟩,0,0,0,0⟩⟩
noncomputable def ahp:jE:={X:=ZNew,args:=λx=>[i64 x.n,i64 x.t],k:=0,l:=λ_=>[],pre:=λx=>Hd (10<=x.n/\x.n<=258/\1<=x.t/\x.t<=4),outs:=[
 {Y:=DevM,post:=λx d=>Hd (d.ok/\d.n=x.n/\d.st=2/\d.fl=2/\d.fe=1),ret:=λ_ _=> .tup [.ptr 0 0,i64 0],m:=1,l:=λx d=>[.m (newSto x.n x.t d).os]}]}
noncomputable def arY:jf:=pI++[(48,ctrT agi.ctr),(79,ctrT agj.ctr),(80,ctrT P5.ctr),(81,ctrT agk.ctr),(82,ctrT agl.ctr),(85,ctrT newT),(86,ctrT newO),(84,ctrT agm.ctr),(87,ctrT agn.ctr),(148,ao4 arp)]
def ahq(a:ZNew)(b:Nat)(c:DevM)(d:Prod Nat Int):Prop:=ownM (ZRd.os (akb a.t))=ownM (ZRd.os (akb b))/\ownM (ZCk.os (ZSto.ck (newSto a.n a.t c)))=ownM (iM.os (aeN d.1 d.2) 0)/\ownM Y4.os=ownM Y4.os/\tabA (@List.nil ZLnk)=tabA (@List.nil ZLnk)/\ordA (@List.nil ZLnk)=ordA (@List.nil ZLnk)/\ownM akz.os=ownM akz.os/\(Nat.beq 0 0=true/\0=0/\ ∀q:Nat,q<0->[Value.int .i64 0,Value.string (ByteArray.mk #[]),Value.string (ByteArray.mk #[]),Value.int .u64 0,Value.int .u64 0,Value.int .u64 0,Value.int .i64 0]= @List.nil Value)/\True
def ahr:Prop:=0=0/\0=0/\0=0/\0=0/\0=0/\0=0/\0=0/\0=0/\(0:Int)=0/\(0:Int)=0/\(Nat.beq 0 0=true/\0=0)/\True
def Kt(a:DevM)(b:Nat):Prop:=Hd (a.ok/\a.n=b/\a.st=2/\a.fl=2/\a.fe=1)
def ahs(x:ZNew):Prop:=
 ∃x_1:Nat,Hd (1<=x_1/\x_1<=258)/\((x_1:Int)=(x.n:Int)/\True)/\True/\ ∀y:Unit,True-> ∃x_2:Nat,Hd (1<=x_2/\x_2<=4)/\((x_2:Int)=(x.t:Int)/\True)/\True/\ ∀y_1:Unit,True-> ∃x_3:DevM,Hd x_3.ok/\(0=0/\True)/\(ownM x_3.os=ownM (DevM.os (xA x_1))/\True)/\ ∀y_2:Unit,True->cP (decide ((x_3.n:Int)<10)) (∃y_3:DevM,Kt y_3 x.n/\(False/\(0:Int)=2/\True)/\False/\False/\False/\False/\False/\False/\False/\False/\False/\False/\False/\True) (∃x_4:Prod Nat Int,Hd (1<=x_4.1/\x_4.1<=4/\0<=x_4.2/\x_4.2<=1152921504606846976)/\((x_4.1:Int)=(x.t:Int)/\x_4.2=0/\True)/\True/\ ∀y_3:Unit,True-> ∃x_5:DevM,Hd x_5.ok/\(0=0/\True)/\(ownM x_5.os=ownM x_3.os/\True)/\ ∀y_4:Unit,True->cP (decide ((x_5.n:Int)<10)) (∃x_6:Nat,Hd (1<=x_6/\x_6<=32)/\((x_6:Int)=0/\True)/\True/\ ∀y_5:Unit,True-> ∃x_7:Unit,Hd True/\True/\True/\ ∀y_6:Unit,True-> ∃x_8:Unit,True/\True/\True/\ ∀y_7:Unit,True-> ∃x_9:Unit,True/\True/\True/\ ∀y_8:Unit,True-> ∃x_10:Unit,Hd True/\True/\True/\ ∀y_9:Unit,True-> ∃x_11:DevM,Hd (x_11.ok/\10<=x_11.n/\x_11.wide (10:Int))/\(0=0/\True)/\(ownM x_11.os=ownM x_5.os/\True)/\ ∀y_10:DevM,Hd (y_10.ok/\y_10.n=x_11.n/\y_10.st=x_11.st+2/\y_10.fl=x_11.fl+2/\y_10.fe=x_11.fe+1)-> ∃apQ:DevM,Kt apQ x.n/\(0=0/\(0:Int)=0/\True)/\ahr/\(0=0/\(1:Int)=1/\(0:Int)=0/\(0:Int)=0/\True)/\ownM apQ.os=ownM y_10.os/\ownM (ZPool.os (gy ((x.n-2)/8) ((x.n-2)/8)))=ownM (ZPool.os (gy x_6 x_6))/\ahq x x_2 apQ x_4) (I64 (Cj (x_5.n:Int) (258:Int)-2)/\((8:Int)=0->False)/\
 I64 (Int.tdiv (Cj (x_5.n:Int) (258:Int)-2) (8:Int))/\ ∃x_6:Nat,Hd (1<=x_6/\x_6<=32)/\((x_6:Int)=Int.tdiv (Cj (x_5.n:Int) (258:Int)-2) (8:Int)/\True)/\True/\ ∀y_5:Unit,True-> ∃x_7:Unit,Hd True/\True/\True/\ ∀y_6:Unit,True-> ∃x_8:Unit,True/\True/\True/\ ∀y_7:Unit,True-> ∃x_9:Unit,True/\True/\True/\ ∀y_8:Unit,True-> ∃x_10:Unit,Hd True/\True/\True/\ ∀y_9:Unit,True-> ∃x_11:DevM,Hd (x_11.ok/\10<=x_11.n/\x_11.wide (10:Int))/\(0=0/\True)/\(ownM x_11.os=ownM x_5.os/\True)/\ ∀y_10:DevM,Hd (y_10.ok/\y_10.n=x_11.n/\y_10.st=x_11.st+2/\y_10.fl=x_11.fl+2/\y_10.fe=x_11.fe+1)-> ∃apQ:DevM,Kt apQ x.n/\(0=0/\(0:Int)=0/\True)/\ahr/\(0=0/\(1:Int)=1/\(0:Int)=0/\(0:Int)=0/\True)/\ownM apQ.os=ownM y_10.os/\ownM (ZPool.os (gy ((x.n-2)/8) ((x.n-2)/8)))=ownM (ZPool.os (gy x_6 x_6))/\ahq x x_2 apQ x_4))
theorem aht(x:ZNew):ahs x=wpF Tryz.prog arY tt (noA x) 200 5 13 (ahp.args x) (hO 0 (flatP 0 (ahp.l x))) (λv h'=>endsPK 0 x v h' ahp.outs):=by kernel_rfl
theorem VD(x:ZNew)(hx:10<=x.n/\x.n<=258/\1<=x.t/\x.t<=4):ahs x:=by
 unfold ahs;simp only[Kt,ahr,ahq];simp only[aZ,aV,aU,aA,aI,bT,bF,aO,aK,ay,aX,aW,bU,bH,bI,bJ,bV,bD,bK,bC,eY,aH,aN,ah,ak,aB,aF,aC,aG];have h1:=UZ x.n hx.2.1;have hm:Cj (x.n:Int) 258=x.n:=by unfold Cj;omega
 have hd:((x.n:Int)-2).tdiv 8=(((x.n-2)/8:Nat):Int):=by
  rw[show(x.n:Int)-2=((x.n-2:Nat):Int) by omega];exact(Int.ofNat_tdiv (x.n-2) 8).symm
 refine⟨x.n,⟨by omega,by omega⟩,rfl,x.t,⟨by omega,by omega⟩,rfl,xA x.n,h1,rfl,bf (λh=>absurd (aS h) (by show¬((x.n:Int)<10);omega)) λ_=>⟨(x.t,0),⟨by show 1<=x.t;omega,by show x.t<=4;omega,Int.le_refl 0,show(0:Int)<=1152921504606846976 by decide⟩,⟨rfl,rfl⟩,xA x.n,h1,rfl,bf (λh=>absurd (aS h) (by show¬((x.n:Int)<10);omega)) λ_=> ?_⟩⟩;show I64 (Cj (x.n:Int) 258-2)/\_;rw[show Cj ((xA x.n).n:Int) 258=x.n from hm,hd];refine⟨by show I64 (Cj (x.n:Int) 258-2);rw[hm];unfold I64;omega,by omega,by unfold I64;omega,(x.n-2)/8,by omega,rfl,xA x.n,⟨h1,by show 10<=x.n;omega,⟨show(0:Int)+10<1099511627776 by decide,show(0:Int)+10<1099511627776 by decide,show(0:Int)+10<1099511627776 by decide⟩⟩,rfl,λy hy=>⟨y,⟨hy.1,hy.2.1,hy.2.2.1,hy.2.2.2.1,hy.2.2.2.2⟩,?_⟩⟩
 repeat' (first|exact rfl|exactλq hq=>absurd hq (Nat.not_lt_zero q)|refine And.intro ?_ ?_)
theorem alP:dX Tryz.prog arY:= .append dS (.cons (bP akA) (.cons (bP akB) (.cons (bP akE) (.cons (bP akC) (.cons (bP akD) (.cons (bP apC) (.cons (bP apD) (.cons (bP akF) (.cons (bP akG) (.cons (λ_ _ _ hq=>akt akH _ _ _ hq) .nil))))))))))
theorem apR:bZ Tryz.prog 13 ahp.ctr:=cO dF mixed alP 0 noA 200 5 (λ_=>⟨rfl,rfl,rfl,rfl⟩) λx hx=>Eq.mp (aht x) (VD x (aZ.1 hx))
structure ZCh where
 kind:Int
 key:ByteArray
 value:ByteArray
 had:Bool
 old:ZLnk
 line:Int
 cls:Int
namespace ZCh
def av(x:ZCh):AV:= .agg [i64 x.kind,.lit (.string x.key),.lit (.string x.value),boo x.had,.lit (.string x.old.key),u64 x.old.id,u64 x.old.ver,i64 x.old.line,i64 x.old.cls,i64 x.line,i64 x.cls]
end ZCh
structure ZCg where
 a:ZSto
 t:Nat
 e:Int
 x:ZCh
 ln:Nat
 g:Int
namespace ZCg
def av(y:ZCg)(k:Int)(had:Bool):AV:=({y.x with kind:=k,had:=had,line:=y.ln}:ZCh).av
def gr(y:ZCg):Int:=if y.g=0 then y.a.ver+1 else y.g
def idP(y:ZCg)(had:Bool):Int:=bif had then y.x.old.id else y.a.id+1
def blk(y:ZCg)(k:Int)(had:Bool):ZBlk:=if k=2 then⟨y.x.cls,1,y.idP had,y.a.ver+1,y.e,y.x.key,y.x.value⟩else if k=4 then⟨y.x.cls,2,y.a.id+1,y.a.ver+1,y.e,⟨#[]⟩,y.x.value⟩else⟨0,3,y.x.old.id,y.a.ver+1,y.e,⟨#[]⟩,⟨#[]⟩⟩
def lnk(y:ZCg)(k:Int)(had:Bool):ZLnk:=⟨(y.blk k had).key,(y.blk k had).id,y.a.ver+1,y.ln,(y.blk k had).cls⟩
def eff(y:ZCg)(k:Int)(had:Bool):ZEff:=if k=2 then⟨1,y.x.key,y.x.value,y.idP had,y.a.ver+1,y.e,y.gr⟩else if k=3 then⟨2,y.x.key,⟨#[]⟩,y.x.old.id,y.a.ver+1,y.e,y.gr⟩else if k=4 then⟨3,⟨#[]⟩,y.x.value,y.a.id+1,y.a.ver+1,y.e,y.gr⟩else⟨4,⟨#[]⟩,⟨#[]⟩,y.x.old.id,y.a.ver+1,y.e,y.gr⟩
def ent(y:ZCg)(k:Int):gX:=⟨y.x.old.line,y.x.old.cls,y.a.r.now,y.e,if k=2 then-1 else y.ln⟩
noncomputable def res(y:ZCg)(k:Int)(had:Bool):ZSto:={y.a with
 d:=y.a.d.store y.ln 0 64 (y.blk k had).enc
 c:=y.a.c.notes y.t y.ln (y.blk k had).dK
 b:=if had=true/\k≠4 then y.a.b.put (y.ent k)else y.a.b
 l:=if k=4 then y.a.l.push (y.lnk k had)else if k=5 then y.a.l.pop else y.a.l
 L:=if k=2 then iW y.a.L (y.lnk k had)else if k=3 then fQ y.a.L y.x.key else y.a.L
 id:=if k=4\/k=2/\had=false then y.a.id+1 else y.a.id
 ver:=y.a.ver+1
 n:=y.a.n+1
 e:=λi=>if i=y.a.n then y.eff k had else y.a.e i}
def ok(y:ZCg)(k:Int)(had:Bool):Prop:=y.a.d.ok/\y.a.c.ok/\y.a.ph<=4/\y.t<y.a.c.t/\y.ln<y.a.d.n/\y.a.d.n<=258/\(y.blk k had).may/\y.x.key.size<1099511627776/\y.x.value.size<1099511627776/\0<=y.a.ver/\y.a.ver<1152921504606846976/\0<=y.a.id/\y.a.id<1152921504606846976/\0<=y.g/\y.g<1152921504606846977/\y.a.n<1099511627776/\
 (∀q,y.a.c.o q+8<1099511627776)/\(had=true->y.a.b.ok/\y.a.r.ok/\(y.ent k).may)/\(k=2->(iW y.a.L (y.lnk k had)).length<=258)/\(k=4\/k=5->y.a.l.ok)
end ZCg
noncomputable def alQ(k:Int)(had:Bool):jE:=qE ZCg (λy=>[.ptr 0 0,i64 y.t,u64 y.e,y.av k had,u64 y.g]) 1 (λy=>[.m y.a.os]) (λy=>Hd (y.ok k had)) (λy=>u64 (y.a.ver+1)) 1 (λy=>[.m (y.res k had).os])
noncomputable def anCg(k:Int)(had:Bool)(y:ZCg):FuncId->qA:=λf=>bif Nat.beq f 210 then(λb _ _=>
 bif Nat.beq b 1007 then [{σ:=Unit,fr:=λ_=>[(4,u64 y.gr)],ob:=λ_=>[],inv:=λ_=>Hd True,meas:=λ_=>0}]else
 bif Nat.beq b 0 then [{σ:=Nat,fr:=λi=>[(67,i64 i)],ob:=λi=>[(5,some (.abs (ownM (ZCk.os ⟨y.a.c.notes y.t y.ln i,y.a.ph⟩))))],inv:=λi=>Hd (i<=(y.blk k had).dK),meas:=λi=>(y.blk k had).dK-i}]else [])elseλ_ _ _=>[]
noncomputable def ane:abv:={X:=ZTq,args:=λx=>[.ptr 0 0,.lit (.string x.s)],L:=λx=>x.L,pre:=λx=>Hd (x.s.size<1099511627776),outs:=[
 {Y:=ZLnk×Bool,post:=λ_ _=>True,ret:=λ_ y=> .tup [y.1.av,boo y.2],L:=λx _=>fQ x.L x.s,m:=1,ex:=λ_ _=>[]}]}
theorem alR{L:Lks}{s:ByteArray}(h:fF L s=none):fQ L s=L:=List.filter_eq_self.2 λl hl=>by
 have:=tV h l hl;rw[decide_eq_false this];rfl
theorem ahu:bZ Tryz.prog 252 ane.C:=jS λx hx=>⟨_,alb,rfl,x,hx,rfl,rfl,λv h' hh=>by
 rcases qG hh with ⟨y,h0,e1,e2⟩|⟨y,h0,e1,e2⟩
 ·have e2:h'=hO 1 [.abs (tabA x.L)]:=e2
  refine fE ⟨(iI,false),trivial,e1,?_⟩;show h'=hO 1 [.abs (tabA (fQ x.L x.s))];rw[alR (aZ.1 h0)];exact e2
 ·exact fE ⟨(y,true),trivial,e1,e2⟩⟩
noncomputable def apS:jf:=pI++[(113,agt),(180,ctrT amU),(62,ctrT Hq.ctr),(64,ctrT arX),(250,ctrT arJ.C),(251,ctrT setO.C),(252,ctrT ane.C),(253,ctrT arQ.C),(254,ctrT Pq.ctr),(255,ctrT YO.ctr),(66,ctrT afz.ctr),(67,ctrT aq7.ctr)]
def uY(a:Nat):Prop:=Nat.beq a 0=Nat.beq a 0
def AU(a:ZSto):Prop:=uY a.n/\a.n=a.n/\ ∀q:Nat,q<a.n->[Value.int .i64 (ZEff.kind (a.e q)),Value.string (ZEff.key (a.e q)),Value.string (ZEff.value (a.e q)),Value.int .u64 (ZEff.id (a.e q)),Value.int .u64 (ZEff.ver (a.e q)),Value.int .u64 (ZEff.epoch (a.e q)),Value.int .i64 (ZEff.group (a.e q))]=[Value.int .i64 (ZEff.kind (a.e q)),Value.string (ZEff.key (a.e q)),Value.string (ZEff.value (a.e q)),Value.int .u64 (ZEff.id (a.e q)),Value.int .u64 (ZEff.ver (a.e q)),Value.int .u64 (ZEff.epoch (a.e q)),Value.int .i64 (ZEff.group (a.e q))]
def Zq(a:ZCg):Prop:=a.x.old.key=a.x.old.key/\a.x.old.id=a.x.old.id/\a.x.old.ver=a.x.old.ver/\a.x.old.line=a.x.old.line/\a.x.old.cls=a.x.old.cls/\(a.ln:Int)=(a.ln:Int)/\a.x.cls=a.x.cls/\True
def EF(a:Int):Prop:=IntKind.wrap .u64 (a+1)=IntKind.wrap .u64 (a+1)
def EG(a:Int):Prop:=a+1=IntKind.wrap .u64 (a+1)
def rD(a:ZPool):Prop:=ownM a.os=ownM a.os
def zi:Prop:=0=0/\(1:Int)=1/\(0:Int)=0/\(0:Int)=0/\True
def Ku(a:Nat):Prop:=AV.slV (Nat.beq a 0) 10 7 a=AV.slV (Nat.beq a 0) 10 7 a/\True
def VE(a:Int):Prop:=AV.lit (Value.int .i64 a)=AV.lit (Value.int .i64 a)
def ahv(a:ZLnk):Prop:=VE a.cls/\VE a.line/\AV.ptr 6 0=AV.ptr 6 0/\True
def yh(a:Nat):Prop:=Nat.beq (a+1) 0=false
def Kv(a:ZSto):Prop:=EG a.ver/\(yh a.n/\a.n+1=a.n+1)/\True
def pK(a:Int)(b:Int):Prop:=a=IntKind.wrap .u64 (b+1)
def EH(a:ZLnk)(b:ZCg):Prop:=pK a.ver b.a.ver/\a.line=(b.ln:Int)/\a.cls=b.x.cls/\True
def Kw(a:Nat):Prop:=(2*(a+1)+1000)*72<=281474976710656
def VF(a:ZCg)(b:lN)(c:Nat):Prop:=I64 a.gr/\ ∃x_2:Gi,Hd (x_2.l.key.size<1099511627776/\List.length (iW x_2.L x_2.l)<=258)/\(0=0/\(x_2.l.key=a.x.key/\x_2.l.id=a.x.old.id/\EH x_2.l a)/\True)/\(tabA x_2.L=tabA a.a.L/\True)/\ ∀y_3:Unit,True->True/\ ∃x_3:Gi,Hd (x_3.l.key.size<1099511627776/\List.length (iW x_3.L x_3.l)<=300)/\(0=0/\(x_3.l.key=a.x.key/\x_3.l.id=a.x.old.id/\EH x_3.l a)/\True)/\(ordA x_3.L=ordA a.a.L/\True)/\ ∀y_4:Unit,True->True/\ ∃x_4:ZRd,Hd x_4.ok/\(0=0/\True)/\(ownM x_4.os=ownM a.a.r.os/\True)/\ ∀y_5:Unit,True->ahv a.x.old/\ ∃x_5:Bh,Hd (x_5.b.ok/\x_5.x.may)/\(0=0/\(x_5.x.line=a.x.old.line/\x_5.x.cls=a.x.old.cls/\x_5.x.r=x_4.now/\x_5.x.d=a.e/\x_5.x.anti=(-(1:Int))/\True)/\True)/\(ownM x_5.b.os=ownM a.a.b.os/\True)/\ ∀y_6:Unit,True->True/\Ku a.a.n/\uY a.a.n/\a.a.n=a.a.n/\List.all [List.take 7 [Value.int .i64 1,Value.string a.x.key,Value.string a.x.value,Value.int .u64 a.x.old.id,Value.int .u64 (IntKind.wrap .u64 (a.a.ver+1)),Value.int .u64 a.e,Value.int .i64 a.gr]] (λ(l:List Value)=>Nat.beq (List.length l) 7&&List.all l Value.oneCell')=true/\Kw a.a.n/\True/\True/\ ∃y_7:Unit,True/\EG a.a.ver/\(0=0/\0=0/\0=0/\0=0/\0=0/\0=0/\0=0/\0=0/\ite ((2:Int)=4\/(2:Int)=2/\true=false) (a.a.id+1) a.a.id=a.a.id/\Kv a.a)/\zi/\ownM (DevM.os (a.a.d.store a.ln 0 64 (ZBlk.enc (a.blk (2:Int) true))))=ownM (DevM.os (b.d.store b.k b.a b.b.n (λ(q:Nat)=>b.b.g (b.b.q+q))))/\rD a.a.p/\ownM a.a.r.os=ownM x_4.os/\ownM (ZCk.os (ZSto.ck (a.res (2:Int) true)))=ownM (ZCk.os (ZCk.mk (a.a.c.notes a.t (a.ln:Int) c) a.a.ph))/\ownM (iw.os (ite (true=true/\
 (2:Int)≠(4:Int)) (a.a.b.put (a.ent (2:Int))) a.a.b))=ownM (iw.os (x_5.b.put x_5.x))/\tabA (ite ((2:Int)=2) (iW a.a.L (a.lnk (2:Int) true)) (ite ((2:Int)=3) (fQ a.a.L a.x.key) a.a.L))=tabA (iW x_2.L x_2.l)/\ordA (ite ((2:Int)=2) (iW a.a.L (a.lnk (2:Int) true)) (ite ((2:Int)=3) (fQ a.a.L a.x.key) a.a.L))=ordA (iW x_3.L x_3.l)/\ownM (ZLn.os (ite ((2:Int)=4) (a.a.l.push (a.lnk (2:Int) true)) (ite ((2:Int)=5) a.a.l.pop a.a.l)))=ownM a.a.l.os/\(yh a.a.n/\a.a.n+1=a.a.n+List.length [List.take 7 [Value.int .i64 1,Value.string a.x.key,Value.string a.x.value,Value.int .u64 a.x.old.id,Value.int .u64 (IntKind.wrap .u64 (a.a.ver+1)),Value.int .u64 a.e,Value.int .i64 a.gr]]/\ ∀q:Nat,q<a.a.n+1->[Value.int .i64 (ZEff.kind (ite (q=a.a.n) (a.eff (2:Int) true) (a.a.e q))),Value.string (ZEff.key (ite (q=a.a.n) (a.eff (2:Int) true) (a.a.e q))),Value.string (ZEff.value (ite (q=a.a.n) (a.eff (2:Int) true) (a.a.e q))),Value.int .u64 (ZEff.id (ite (q=a.a.n) (a.eff (2:Int) true) (a.a.e q))),Value.int .u64 (ZEff.ver (ite (q=a.a.n) (a.eff (2:Int) true) (a.a.e q))),Value.int .u64 (ZEff.epoch (ite (q=a.a.n) (a.eff (2:Int) true) (a.a.e q))),Value.int .i64 (ZEff.group (ite (q=a.a.n) (a.eff (2:Int) true) (a.a.e q)))]=Cs.eff (λ(i:Nat)=>ZEff.cs (a.a.e i)) [(a.a.n,List.take 7 [Value.int .i64 1,Value.string a.x.key,Value.string a.x.value,Value.int .u64 a.x.old.id,Value.int .u64 (IntKind.wrap .u64 (a.a.ver+1)),Value.int .u64 a.e,Value.int .i64 a.gr])] q)/\True
def Ky(a:lN):Prop:=ownM (DevM.os (a.d.store a.k a.a a.b.n (λ(q:Nat)=>a.b.g (a.b.q+q))))=ownM (DevM.os (a.d.store a.k a.a a.b.n (λ(q:Nat)=>a.b.g (a.b.q+q))))
def VG(a:ZSto):Prop:=zi/\(0=0/\0=0/\0=0/\0=0/\0=0/\0=0/\0=0/\0=0/\EF a.id/\EF a.ver/\(uY a.n/\a.n=a.n)/\True)/\True
def VH(a:ZSto)(b:lN):Prop:=ownM a.r.os=ownM a.r.os/\rD a.p/\Ky b/\VG a
def VI(a:ZSto):Prop:=zi/\(0=0/\0=0/\0=0/\0=0/\0=0/\0=0/\0=0/\0=0/\a.id=a.id/\EF a.ver/\(uY a.n/\a.n=a.n)/\True)/\True
def VJ(a:ZLnk)(b:ZCg):Prop:=pK a.id b.a.id/\EH a b
def VK(a:ZCg)(b:lN)(c:Nat):Prop:=I64 a.gr/\ ∃x_2:Gi,Hd (x_2.l.key.size<1099511627776/\List.length (iW x_2.L x_2.l)<=258)/\(0=0/\(x_2.l.key=a.x.key/\VJ x_2.l a)/\True)/\(tabA x_2.L=tabA a.a.L/\True)/\ ∀y_3:Unit,True->True/\ ∃x_3:Gi,Hd (x_3.l.key.size<1099511627776/\List.length (iW x_3.L x_3.l)<=300)/\(0=0/\(x_3.l.key=a.x.key/\VJ x_3.l a)/\True)/\(ordA x_3.L=ordA a.a.L/\True)/\ ∀y_4:Unit,True->True/\Ku a.a.n/\uY a.a.n/\a.a.n=a.a.n/\List.all [List.take 7 [Value.int .i64 1,Value.string a.x.key,Value.string a.x.value,Value.int .u64 (IntKind.wrap .u64 (a.a.id+1)),Value.int .u64 (IntKind.wrap .u64 (a.a.ver+1)),Value.int .u64 a.e,Value.int .i64 a.gr]] (λ(l:List Value)=>Nat.beq (List.length l) 7&&List.all l Value.oneCell')=true/\Kw a.a.n/\True/\True/\ ∃y_5:Unit,True/\EG a.a.ver/\(0=0/\0=0/\0=0/\0=0/\0=0/\0=0/\0=0/\0=0/\ite ((2:Int)=4\/(2:Int)=2/\false=false) (a.a.id+1) a.a.id=IntKind.wrap .u64 (a.a.id+1)/\Kv a.a)/\zi/\ownM (DevM.os (a.a.d.store a.ln 0 64 (ZBlk.enc (a.blk (2:Int) false))))=ownM (DevM.os (b.d.store b.k b.a b.b.n (λ(q:Nat)=>b.b.g (b.b.q+q))))/\rD a.a.p/\ownM a.a.r.os=ownM a.a.r.os/\ownM (ZCk.os (ZSto.ck (a.res (2:Int) false)))=ownM (ZCk.os (ZCk.mk (a.a.c.notes a.t (a.ln:Int) c) a.a.ph))/\ownM (iw.os (ite (false=true/\(2:Int)≠(4:Int)) (a.a.b.put (a.ent (2:Int))) a.a.b))=ownM a.a.b.os/\tabA (ite ((2:Int)=2) (iW a.a.L (a.lnk (2:Int) false)) (ite ((2:Int)=3) (fQ a.a.L a.x.key) a.a.L))=tabA (iW x_2.L x_2.l)/\ordA (ite ((2:Int)=2) (iW a.a.L (a.lnk (2:Int) false)) (ite ((2:Int)=3) (fQ a.a.L a.x.key) a.a.L))=ordA (iW x_3.L x_3.l)/\
 ownM (ZLn.os (ite ((2:Int)=4) (a.a.l.push (a.lnk (2:Int) false)) (ite ((2:Int)=5) a.a.l.pop a.a.l)))=ownM a.a.l.os/\(yh a.a.n/\a.a.n+1=a.a.n+List.length [List.take 7 [Value.int .i64 1,Value.string a.x.key,Value.string a.x.value,Value.int .u64 (IntKind.wrap .u64 (a.a.id+1)),Value.int .u64 (IntKind.wrap .u64 (a.a.ver+1)),Value.int .u64 a.e,Value.int .i64 a.gr]]/\ ∀q:Nat,q<a.a.n+1->[Value.int .i64 (ZEff.kind (ite (q=a.a.n) (a.eff (2:Int) false) (a.a.e q))),Value.string (ZEff.key (ite (q=a.a.n) (a.eff (2:Int) false) (a.a.e q))),Value.string (ZEff.value (ite (q=a.a.n) (a.eff (2:Int) false) (a.a.e q))),Value.int .u64 (ZEff.id (ite (q=a.a.n) (a.eff (2:Int) false) (a.a.e q))),Value.int .u64 (ZEff.ver (ite (q=a.a.n) (a.eff (2:Int) false) (a.a.e q))),Value.int .u64 (ZEff.epoch (ite (q=a.a.n) (a.eff (2:Int) false) (a.a.e q))),Value.int .i64 (ZEff.group (ite (q=a.a.n) (a.eff (2:Int) false) (a.a.e q)))]=Cs.eff (λ(i:Nat)=>ZEff.cs (a.a.e i)) [(a.a.n,List.take 7 [Value.int .i64 1,Value.string a.x.key,Value.string a.x.value,Value.int .u64 (IntKind.wrap .u64 (a.a.id+1)),Value.int .u64 (IntKind.wrap .u64 (a.a.ver+1)),Value.int .u64 a.e,Value.int .i64 a.gr])] q)/\True
def Kz(a:ZCg):Prop:=EF a.a.ver/\a.e=a.e/\a.x.key=a.x.key/\a.x.value=a.x.value/\True
def VL(a:ZSto)(b:lN):Prop:=ownM a.r.os=ownM a.r.os/\rD a.p/\Ky b/\VI a
def kC(a:ZCg):Prop:=a.x.cls=a.x.cls/\(1:Int)=1/\a.x.old.id=a.x.old.id/\Kz a
def VN(a:ZSto):Prop:=AU a/\ownM a.l.os=ownM a.l.os/\ordA a.L=ordA a.L/\tabA a.L=tabA a.L/\ownM a.b.os=ownM a.b.os/\ownM a.ck.os=ownM a.ck.os/\ownM a.r.os=ownM a.r.os/\rD a.p/\ownM a.d.os=ownM a.d.os/\VG a
def VO(a:ZSto):Prop:=AU a/\ownM a.l.os=ownM a.l.os/\ordA a.L=ordA a.L/\tabA a.L=tabA a.L/\ownM a.b.os=ownM a.b.os/\ownM a.ck.os=ownM a.ck.os/\ownM a.r.os=ownM a.r.os/\rD a.p/\ownM a.d.os=ownM a.d.os/\VI a
def ahw(a:ZCg):Prop:=a.x.key=a.x.key/\a.x.value=a.x.value/\true=true/\Zq a
def ahx(a:ZCg):Prop:=a.x.key=a.x.key/\a.x.value=a.x.value/\false=false/\Zq a
def KA(a:ZCg)(b:Nat)(c:aiV):Prop:=ownM (ZCk.os (ZCk.mk (a.a.c.notes a.t (a.ln:Int) b) a.a.ph))=ownM (ZCk.os (ZCk.mk (c.k.c.note c.t c.l) c.k.ph))
def VP(a:ZCg)(b:Nat)(c:aiV)(d:lN):Prop:=AU a.a/\ownM a.a.l.os=ownM a.a.l.os/\ordA a.a.L=ordA a.a.L/\tabA a.a.L=tabA a.a.L/\ownM a.a.b.os=ownM a.a.b.os/\KA a b c/\VH a.a d
def VQ(a:ZCg)(b:Nat)(c:aiV)(d:lN):Prop:=AU a.a/\ownM a.a.l.os=ownM a.a.l.os/\ordA a.a.L=ordA a.a.L/\tabA a.a.L=tabA a.a.L/\ownM a.a.b.os=ownM a.a.b.os/\KA a b c/\VL a.a d
def zk(a:ZBlk):Prop:=64=64/\ ∀q:Nat,q<64->[Value.int .u8 (a.enc q)]=[Value.int .u8 (a.enc q)]
def zl(a:Nat):Prop:=AV.lit (Value.int .i64 (a:Int))=AV.lit (Value.int .i64 (a:Int))/\True
def kD(a:ZCg):Prop:=a.x.cls=a.x.cls/\(1:Int)=1/\EF a.a.id/\Kz a
def VR(a:ZCg)(b:Nat)(c:lN):Prop:=AU a.a/\ownM a.a.l.os=ownM a.a.l.os/\ordA a.a.L=ordA a.a.L/\tabA a.a.L=tabA a.a.L/\ownM a.a.b.os=ownM a.a.b.os/\ownM (ZCk.os (ZCk.mk (a.a.c.notes a.t (a.ln:Int) b) a.a.ph))=ownM a.a.ck.os/\VH a.a c
def VT(a:ZCg)(b:Nat)(c:lN):Prop:=AU a.a/\ownM a.a.l.os=ownM a.a.l.os/\ordA a.a.L=ordA a.a.L/\tabA a.a.L=tabA a.a.L/\ownM a.a.b.os=ownM a.a.b.os/\ownM (ZCk.os (ZCk.mk (a.a.c.notes a.t (a.ln:Int) b) a.a.ph))=ownM a.a.ck.os/\VL a.a c
def zn(a:lN)(b:Nat):Prop:=0=0/\(a.k:Int)=(b:Int)/\(a.a:Int)=0/\(a.b.q=0/\a.b.n=64)/\True
def zo(a:ZBlk):Prop:=64*a.dK=64*a.dK/\ ∀q:Nat,q<64*a.dK->[Value.int .u8 (a.enc q)]=[Value.int .u8 (a.enc q)]
def KC(a:Bys)(b:ZBlk):Prop:= ∀q:Nat,q<a.N->[Value.int .u8 (a.g q)]=[Value.int .u8 (b.enc q)]
def KD(a:lN)(b:DevM)(c:ZBlk):Prop:=ownM a.d.os=ownM b.os/\(a.b.N=64/\KC a.b c)/\True
def zq(a:ZCk)(b:ZCg)(c:Nat):Prop:=ownM a.os=ownM (ZCk.os (ZCk.mk (b.a.c.notes b.t (b.ln:Int) c) b.a.ph))/\True
def zu(a:aiV)(b:ZCg)(c:Nat):Prop:=0=0/\(a.t:Int)=(b.t:Int)/\a.l=(b.ln:Int)+(c:Int)/\True
def zx(a:lN):Prop:=Hd (a.d.ok/\a.k<a.d.n/\a.b.ok/\a.a+a.b.n<=64)
def EI(a:ByteArray):Prop:=AV.lit (Value.string a)=AV.lit (Value.string a)
def zy(a:aiV):Prop:=Hd (a.k.ph<=4/\a.k.c.ok/\a.t<a.k.c.t)
def zA(a:ByteArray):Prop:=EI a/\True
def mW(a:ZCg):Prop:=(2:Int)=2/\ahx a
def mX(a:ZCg):Prop:=(2:Int)=2/\ahw a
def uZ(a:Nat)(b:ZCg):Prop:=Hd (a<=ZBlk.dK (b.blk (2:Int) false))
def KE(a:ZCg):Prop:=a.gr=IntKind.wrap .u64 (a.a.ver+1)/\True
def zB(a:Nat)(b:Nat):Prop:=(a:Int)=(b:Int)+1/\True
def vg(a:Nat)(b:ZCg):Prop:=Hd (a<=ZBlk.dK (b.blk (2:Int) true))
def KF(a:ZBlk):Prop:=Hd (a.may/\a.key.size<1099511627776/\a.value.size<1099511627776)
def KG:Prop:=0<=64/\64<=64/\64<=64
def KH(a:ZBlk):Prop:=0<=64/\64<=64*a.dK/\64*a.dK<=64*a.dK
def BZ(a:lN)(b:DevM)(c:ZBlk):Prop:=ownM a.d.os=ownM b.os/\(a.b.N=64*c.dK/\KC a.b c)/\True
def uf(a:Nat)(b:Nat):Prop:=I64 ((a:Int)+(b:Int))
def ug(a:Nat):Prop:=(a:Int)=0/\True
def VU(y:ZCg):Prop:=
 cP (BEq.beq y.g (0:Int)) (∃s:Unit,Hd True/\True/\KE y/\mW y/\VN y.a) (∃s:Unit,Hd True/\True/\(y.gr=y.g/\True)/\mW y/\VN y.a)/\(∀s:Unit,Hd True->(EI y.x.value/\zA y.x.key)/\zA y.x.value/\True/\ ∃x:ZBlk,KF x/\((x.cls=y.x.cls/\x.kind=1/\pK x.id y.a.id/\pK x.ver y.a.ver/\x.epoch=y.e/\x.key=y.x.key/\x.value=y.x.value/\True)/\True)/\True/\(∀y_1:Unit,Hd (x.cls=0)->(0:Int)<=64/\KG/\zl y.ln/\ ∃x_1:lN,zx x_1/\zn x_1 y.ln/\KD x_1 y.a.d x/\ ∀y_2:Unit,True->True/\(∃s_1:Nat,uZ s_1 y/\True/\ug s_1/\zk x/\kD y/\kD y/\kD y/\mW y/\mW y/\VR y s_1 x_1)/\(∀s_1:Nat,uZ s_1 y->cP (decide ((s_1:Int)<spn y.x.cls)) (uf y.ln s_1/\ ∃x_2:aiV,zy x_2/\zu x_2 y s_1/\zq x_2.k y s_1/\ ∀y_3:Unit,True->True/\I64 ((s_1:Int)+1)/\ ∃s_2:Nat,uZ s_2 y/\ZBlk.dK (y.blk (2:Int) false)-s_2<ZBlk.dK (y.blk (2:Int) false)-s_1/\zB s_2 s_1/\zk x/\kD y/\kD y/\kD y/\mW y/\mW y/\VP y s_2 x_2 x_1) (VK y x_1 s_1))/\True)/\ ∀y_1:Unit,Hd (x.cls≠(0:Int))->(0:Int)<=64/\KH x/\zl y.ln/\ ∃x_1:lN,zx x_1/\zn x_1 y.ln/\BZ x_1 y.a.d x/\ ∀y_2:Unit,True->True/\(∃s_1:Nat,uZ s_1 y/\True/\ug s_1/\zo x/\kD y/\kD y/\kD y/\mW y/\mW y/\VR y s_1 x_1)/\(∀s_1:Nat,uZ s_1 y->cP (decide ((s_1:Int)<spn y.x.cls)) (uf y.ln s_1/\ ∃x_2:aiV,zy x_2/\zu x_2 y s_1/\zq x_2.k y s_1/\ ∀y_3:Unit,True->True/\I64 ((s_1:Int)+1)/\
 ∃s_2:Nat,uZ s_2 y/\ZBlk.dK (y.blk (2:Int) false)-s_2<ZBlk.dK (y.blk (2:Int) false)-s_1/\zB s_2 s_1/\zo x/\kD y/\kD y/\kD y/\mW y/\mW y/\VP y s_2 x_2 x_1) (VK y x_1 s_1))/\True)/\True
theorem abY(y:ZCg):VU y=wpF Tryz.prog apS tt (anCg 2 false y) 200 6 210 ((alQ 2 false).args y) (hO 11 (flatP 1 ((alQ 2 false).l y))) (λv h'=>endsPK 1 y v h' (alQ 2 false).outs):=by kernel_rfl
def VW(y:ZCg):Prop:=
 cP (BEq.beq y.g (0:Int)) (∃s:Unit,Hd True/\True/\KE y/\mX y/\VO y.a) (∃s:Unit,Hd True/\True/\(y.gr=y.g/\True)/\mX y/\VO y.a)/\(∀s:Unit,Hd True->(EI y.x.value/\zA y.x.key)/\zA y.x.value/\True/\ ∃x:ZBlk,KF x/\((x.cls=y.x.cls/\x.kind=1/\x.id=y.x.old.id/\pK x.ver y.a.ver/\x.epoch=y.e/\x.key=y.x.key/\x.value=y.x.value/\True)/\True)/\True/\(∀y_1:Unit,Hd (x.cls=0)->(0:Int)<=64/\KG/\zl y.ln/\ ∃x_1:lN,zx x_1/\zn x_1 y.ln/\KD x_1 y.a.d x/\ ∀y_2:Unit,True->True/\(∃s_1:Nat,vg s_1 y/\True/\ug s_1/\zk x/\kC y/\kC y/\kC y/\mX y/\mX y/\VT y s_1 x_1)/\(∀s_1:Nat,vg s_1 y->cP (decide ((s_1:Int)<spn y.x.cls)) (uf y.ln s_1/\ ∃x_2:aiV,zy x_2/\zu x_2 y s_1/\zq x_2.k y s_1/\ ∀y_3:Unit,True->True/\I64 ((s_1:Int)+1)/\ ∃s_2:Nat,vg s_2 y/\ZBlk.dK (y.blk (2:Int) true)-s_2<ZBlk.dK (y.blk (2:Int) true)-s_1/\zB s_2 s_1/\zk x/\kC y/\kC y/\kC y/\mX y/\mX y/\VQ y s_2 x_2 x_1) (VF y x_1 s_1))/\True)/\ ∀y_1:Unit,Hd (x.cls≠(0:Int))->(0:Int)<=64/\KH x/\zl y.ln/\ ∃x_1:lN,zx x_1/\zn x_1 y.ln/\BZ x_1 y.a.d x/\ ∀y_2:Unit,True->True/\(∃s_1:Nat,vg s_1 y/\True/\ug s_1/\zo x/\kC y/\kC y/\kC y/\mX y/\mX y/\VT y s_1 x_1)/\(∀s_1:Nat,vg s_1 y->cP (decide ((s_1:Int)<spn y.x.cls)) (uf y.ln s_1/\ ∃x_2:aiV,zy x_2/\zu x_2 y s_1/\zq x_2.k y s_1/\ ∀y_3:Unit,True->True/\I64 ((s_1:Int)+1)/\ ∃s_2:Nat,vg s_2 y/\
 ZBlk.dK (y.blk (2:Int) true)-s_2<ZBlk.dK (y.blk (2:Int) true)-s_1/\zB s_2 s_1/\zo x/\kC y/\kC y/\kC y/\mX y/\mX y/\VQ y s_2 x_2 x_1) (VF y x_1 s_1))/\True)/\True
theorem abZ(y:ZCg):VW y=wpF Tryz.prog apS tt (anCg 2 true y) 200 6 210 ((alQ 2 true).args y) (hO 11 (flatP 1 ((alQ 2 true).l y))) (λv h'=>endsPK 1 y v h' (alQ 2 true).outs):=by kernel_rfl
theorem KI{n:Nat}{e:Nat->ZEff}{E:ZEff}{cs:List Value}(h:cs=E.cs)(q:Nat):(if q=n then E else e q:ZEff).cs=Cs.eff (λi=>(e i).cs) [(n,List.take 7 cs)] q:=by
 subst h;show _=bif Nat.beq q n then List.take 7 E.cs else(e q).cs;rw[dA];by_cases hq:q=n
 ·rw[if_pos hq,decide_eq_true hq];rfl
 ·rw[if_neg hq,decide_eq_false hq];rfl
theorem anf{y:ZCg}(h1:0<=y.a.ver)(h2:y.a.ver<1152921504606846976)(h3:0<=y.g)(h4:y.g<1152921504606846977):I64 y.gr:=by
 unfold ZCg.gr I64;split<;>omega
theorem QM(y:ZCg)(hy:y.ok 2 true):VW y:=by
 obtain⟨o1,o2,o3,o4,o5,o6,o7,o8,o9,o10,o11,o12,o13,o14,o15,o16,o17,o18,o19,o20⟩:=hy;obtain⟨p1,p2,p3⟩:=o18 rfl;have o19:=o19 rfl;have w1:IntKind.u64.wrap (y.a.ver+1)=y.a.ver+1:=iV (by omega) (by omega);have w2:IntKind.u64.wrap (y.a.id+1)=y.a.id+1:=iV (by omega) (by omega);have hg:=anf o10 o11 o14 o15;have hs8:=uV (y.blk 2 true);have hsc:((y.blk 2 true).dK:Int)=spn y.x.cls:=hs8.2;have hsp:=BX o7;have hd: ∀N,(⟨y.a.d,y.ln,0,⟨(y.blk 2 true).enc,0,64,N⟩⟩:lN).d.store y.ln 0 64 (λq=>(y.blk 2 true).enc (0+q))=y.a.d.store y.ln 0 64 (y.blk 2 true).enc:=λ_=>Y5 _ _ _ _ _
 unfold VW;simp only[KE,mX,VO,EI,zA,KF,pK,KG,zl,zx,zn,KD,vg,ug,zk,kC,VT,uf,zy,zu,zq,zB,VQ,VF,KH,BZ,zo,KC,EH,ahv,Ku,uY,Kw,EG,Kv,zi,rD,yh,VE,AU,KA,VL,Ky,VI,EF,Kz,ahw,Zq];simp only[aZ,aV,aU,aA,aI,bT,bF,aO,aK,ay,aX,aW,bU,bH,bI,bJ,bV,bD,bK,bC,eY,aH,aN,ah,ak,aB,aF,aC,aG,w1,w2];refine⟨bf (λh=> ?_) λh=> ?_,y.blk 2 true,⟨o7,o8,o9⟩,⟨rfl,rfl,rfl,rfl,rfl,rfl,rfl⟩,λh0=> ?_,λh0=> ?_⟩
 ·have h:=beq_iff_eq.1 h
  unfold ZCg.gr;rw[if_pos h]
 ·have h:=beq_eq_false_iff_ne.1 h
  unfold ZCg.gr;rw[if_neg h]
 ·refine⟨by decide,⟨by decide,by decide⟩,⟨y.a.d,y.ln,0,⟨(y.blk 2 true).enc,0,64,64⟩⟩,⟨o1,o5,⟨aY _,by show 64<1099511627776;decide,xY o7⟩,aY _⟩,⟨rfl,rfl,rfl,rfl⟩,⟨rfl,rfl,λ_ _=>rfl⟩,⟨0,Nat.zero_le _,rfl,rfl⟩,λs hs=>bf (λh=> ?_) λh=> ?_⟩
  ·have h:=aS h
   exact⟨by unfold I64;omega,⟨⟨y.a.c.notes y.t y.ln s,y.a.ph⟩,y.t,y.ln+s⟩,⟨o3,xZ o2 o17 _ _ (by omega),by show y.t<(y.a.c.notes y.t y.ln s).t;rw[qJ];exact o4⟩,⟨rfl,rfl⟩,rfl,by unfold I64;omega,s+1,by omega,by omega,by omega,rfl⟩
  ·have h:=aT h
   have hs:s<=(y.blk 2 true).dK:=hs;obtain rfl:s=(y.blk 2 true).dK:=by omega
   exact⟨hg,⟨y.a.L,y.lnk 2 true⟩,⟨o8,o19⟩,⟨rfl,rfl,rfl,rfl,rfl⟩,rfl,⟨y.a.L,y.lnk 2 true⟩,⟨o8,Nat.le_trans o19 (by decide)⟩,⟨rfl,rfl,rfl,rfl,rfl⟩,rfl,y.a.r,p2,rfl,⟨y.a.b,y.ent 2⟩,⟨p1,p3⟩,⟨rfl,rfl,rfl,rfl,rfl⟩,rfl,rfl,by omega,⟨rfl,rfl⟩,(congrArg (λd=>ownM (DevM.os d)) (hd 64)).symm,rfl,rfl,rfl,rfl,rfl,rfl,rfl,rfl,λq _=>KI (E:=y.eff 2 true) rfl q⟩
 ·refine⟨by decide,⟨by decide,by omega⟩,⟨y.a.d,y.ln,0,⟨(y.blk 2 true).enc,0,64,64*(y.blk 2 true).dK⟩⟩,⟨o1,o5,⟨by show 0+64<=64*(y.blk 2 true).dK;omega,by show 64<1099511627776;decide,xY o7⟩,aY _⟩,⟨rfl,rfl,rfl,rfl⟩,⟨rfl,rfl,λ_ _=>rfl⟩,⟨0,Nat.zero_le _,rfl,rfl⟩,λs hs=>bf (λh=> ?_) λh=> ?_⟩
  ·have h:=aS h
   exact⟨by unfold I64;omega,⟨⟨y.a.c.notes y.t y.ln s,y.a.ph⟩,y.t,y.ln+s⟩,⟨o3,xZ o2 o17 _ _ (by omega),by show y.t<(y.a.c.notes y.t y.ln s).t;rw[qJ];exact o4⟩,⟨rfl,rfl⟩,rfl,by unfold I64;omega,s+1,by omega,by omega,by omega,rfl⟩
  ·have h:=aT h
   have hs:s<=(y.blk 2 true).dK:=hs;obtain rfl:s=(y.blk 2 true).dK:=by omega
   exact⟨hg,⟨y.a.L,y.lnk 2 true⟩,⟨o8,o19⟩,⟨rfl,rfl,rfl,rfl,rfl⟩,rfl,⟨y.a.L,y.lnk 2 true⟩,⟨o8,Nat.le_trans o19 (by decide)⟩,⟨rfl,rfl,rfl,rfl,rfl⟩,rfl,y.a.r,p2,rfl,⟨y.a.b,y.ent 2⟩,⟨p1,p3⟩,⟨rfl,rfl,rfl,rfl,rfl⟩,rfl,rfl,by omega,⟨rfl,rfl⟩,(congrArg (λd=>ownM (DevM.os d)) (hd (64*(y.blk 2 true).dK))).symm,rfl,rfl,rfl,rfl,rfl,rfl,rfl,rfl,λq _=>KI (E:=y.eff 2 true) rfl q⟩
theorem QN(y:ZCg)(hy:y.ok 2 false):VU y:=by
 obtain⟨o1,o2,o3,o4,o5,o6,o7,o8,o9,o10,o11,o12,o13,o14,o15,o16,o17,o18,o19,o20⟩:=hy;have o19:=o19 rfl;have w1:IntKind.u64.wrap (y.a.ver+1)=y.a.ver+1:=iV (by omega) (by omega);have w2:IntKind.u64.wrap (y.a.id+1)=y.a.id+1:=iV (by omega) (by omega);have hg:=anf o10 o11 o14 o15;have hs8:=uV (y.blk 2 false);have hsc:((y.blk 2 false).dK:Int)=spn y.x.cls:=hs8.2;have hsp:=BX o7;have hd: ∀N,(⟨y.a.d,y.ln,0,⟨(y.blk 2 false).enc,0,64,N⟩⟩:lN).d.store y.ln 0 64 (λq=>(y.blk 2 false).enc (0+q))=y.a.d.store y.ln 0 64 (y.blk 2 false).enc:=λ_=>Y5 _ _ _ _ _
 unfold VU;simp only[KE,mW,VN,EI,zA,KF,pK,KG,zl,zx,zn,KD,uZ,ug,zk,kD,VR,uf,zy,zu,zq,zB,VP,VK,KH,BZ,zo,KC,VJ,Ku,uY,Kw,EG,Kv,zi,rD,yh,EH,AU,KA,VH,Ky,VG,EF,Kz,ahx,Zq];simp only[aZ,aV,aU,aA,aI,bT,bF,aO,aK,ay,aX,aW,bU,bH,bI,bJ,bV,bD,bK,bC,eY,aH,aN,ah,ak,aB,aF,aC,aG,w1,w2];refine⟨bf (λh=> ?_) λh=> ?_,y.blk 2 false,⟨o7,o8,o9⟩,⟨rfl,rfl,rfl,rfl,rfl,rfl,rfl⟩,λh0=> ?_,λh0=> ?_⟩
 ·have h:=beq_iff_eq.1 h
  unfold ZCg.gr;rw[if_pos h]
 ·have h:=beq_eq_false_iff_ne.1 h
  unfold ZCg.gr;rw[if_neg h]
 ·refine⟨by decide,⟨by decide,by decide⟩,⟨y.a.d,y.ln,0,⟨(y.blk 2 false).enc,0,64,64⟩⟩,⟨o1,o5,⟨aY _,by show 64<1099511627776;decide,xY o7⟩,aY _⟩,⟨rfl,rfl,rfl,rfl⟩,⟨rfl,rfl,λ_ _=>rfl⟩,⟨0,Nat.zero_le _,rfl,rfl⟩,λs hs=>bf (λh=> ?_) λh=> ?_⟩
  ·have h:=aS h
   exact⟨by unfold I64;omega,⟨⟨y.a.c.notes y.t y.ln s,y.a.ph⟩,y.t,y.ln+s⟩,⟨o3,xZ o2 o17 _ _ (by omega),by show y.t<(y.a.c.notes y.t y.ln s).t;rw[qJ];exact o4⟩,⟨rfl,rfl⟩,rfl,by unfold I64;omega,s+1,by omega,by omega,by omega,rfl⟩
  ·have h:=aT h
   have hs:s<=(y.blk 2 false).dK:=hs;obtain rfl:s=(y.blk 2 false).dK:=by omega
   exact⟨hg,⟨y.a.L,y.lnk 2 false⟩,⟨o8,o19⟩,⟨rfl,rfl,rfl,rfl,rfl⟩,rfl,⟨y.a.L,y.lnk 2 false⟩,⟨o8,Nat.le_trans o19 (by decide)⟩,⟨rfl,rfl,rfl,rfl,rfl⟩,rfl,rfl,by omega,⟨rfl,rfl⟩,(congrArg (λd=>ownM (DevM.os d)) (hd 64)).symm,rfl,rfl,rfl,rfl,rfl,rfl,rfl,λq _=>KI (E:=y.eff 2 false) rfl q⟩
 ·refine⟨by decide,⟨by decide,by omega⟩,⟨y.a.d,y.ln,0,⟨(y.blk 2 false).enc,0,64,64*(y.blk 2 false).dK⟩⟩,⟨o1,o5,⟨by show 0+64<=64*(y.blk 2 false).dK;omega,by show 64<1099511627776;decide,xY o7⟩,aY _⟩,⟨rfl,rfl,rfl,rfl⟩,⟨rfl,rfl,λ_ _=>rfl⟩,⟨0,Nat.zero_le _,rfl,rfl⟩,λs hs=>bf (λh=> ?_) λh=> ?_⟩
  ·have h:=aS h
   exact⟨by unfold I64;omega,⟨⟨y.a.c.notes y.t y.ln s,y.a.ph⟩,y.t,y.ln+s⟩,⟨o3,xZ o2 o17 _ _ (by omega),by show y.t<(y.a.c.notes y.t y.ln s).t;rw[qJ];exact o4⟩,⟨rfl,rfl⟩,rfl,by unfold I64;omega,s+1,by omega,by omega,by omega,rfl⟩
  ·have h:=aT h
   have hs:s<=(y.blk 2 false).dK:=hs;obtain rfl:s=(y.blk 2 false).dK:=by omega
   exact⟨hg,⟨y.a.L,y.lnk 2 false⟩,⟨o8,o19⟩,⟨rfl,rfl,rfl,rfl,rfl⟩,rfl,⟨y.a.L,y.lnk 2 false⟩,⟨o8,Nat.le_trans o19 (by decide)⟩,⟨rfl,rfl,rfl,rfl,rfl⟩,rfl,rfl,by omega,⟨rfl,rfl⟩,(congrArg (λd=>ownM (DevM.os d)) (hd (64*(y.blk 2 false).dK))).symm,rfl,rfl,rfl,rfl,rfl,rfl,rfl,λq _=>KI (E:=y.eff 2 false) rfl q⟩
theorem Zr:dX Tryz.prog apS:= .append dS (.cons JL (.cons (bP amX) (.cons (bP O9) (.cons (bP alO) (.cons (bP apA) (.cons (bP apB) (.cons (bP ahu) (.cons (bP ald) (.cons (bP UA) (.cons (bP aaT) (.cons (bP afB) (.cons (bP ara) .nil))))))))))))
theorem alS:bZ Tryz.prog 210 (alQ 2 false).ctr:=cO dF mixed Zr 11 (anCg 2 false) 200 6 (λ_=>⟨rfl,rfl,rfl,rfl⟩) λx hx=>Eq.mp (abY x) (QN x (aZ.1 hx))
theorem alT:bZ Tryz.prog 210 (alQ 2 true).ctr:=cO dF mixed Zr 11 (anCg 2 true) 200 6 (λ_=>⟨rfl,rfl,rfl,rfl⟩) λx hx=>Eq.mp (abZ x) (QM x (aZ.1 hx))
def arnS(d p r c b t o l i v:AV):dB:= .ro (.av [d,p,r,c,b,t,o,l,i,v,.any])
structure rE where
 b:iw
 l:ZLn
 L:Lks
 k:Int
namespace rE
def inT(x:rE):Prop:= ∃i,i<x.L.length/\(nthL x.L i).line=x.k
def inL(x:rE):Prop:= ∃i,i<x.l.n/\(x.l.get i).line=x.k
def inB(x:rE):Prop:= ∃i,i<x.b.n/\((x.b.e i).line=x.k\/(x.b.e i).anti=x.k)
def used(x:rE):Prop:=x.inT\/x.inL\/x.inB
noncomputable def os(x:rE):List dB:=[arnS .any .any .any .any (.ptr 1 0) (.ptr 2 0) .any (.ptr 3 0) .any .any,.abs (ownM x.b.os),.abs (tabA x.L),.abs (ownM x.l.os)]
def nth(x:rE)(i:Nat):ZLnk:=if i<x.L.length then nthL x.L i else x.l.get (i-x.L.length)
end rE
noncomputable def VX:Ctr:={X:=rE,args:=λx=>[.ptr 0 0,i64 x.k],k:=4,os:=rE.os,pre:=λx=>Hd (x.b.ok/\x.l.ok/\x.l.n<1099511627776/\x.L.length<=300),outs:=[
 {Y:=Unit,post:=λx _=>Hd x.used,ret:=λ_ _=>boo true,m:=4,os:=λx _=>x.os},
 {Y:=Unit,post:=λx _=>Hd (¬x.used),ret:=λ_ _=>boo false,m:=4,os:=λx _=>x.os}]}
def ahy(x:rE):FuncId->qA:=λf=>bif Nat.beq f 247 then(λb _ h=>bif Nat.beq b 2000 then [
 {σ:=Bool,fr:=λz=>[(19,.slV z h.next 5 (x.L.length+x.l.n)),(20,i64 (x.L.length+x.l.n:Nat)),(21,i64 0)],ob:=λz=>[(h.next,some (.iF z 41 (.row 5 (x.L.length+x.l.n) (λj=>(x.nth j).cs) [])))],nx:=1,inv:=λ_=>Hd True,meas:=λ_=>0}]else bif Nat.beq b 0 then [
 {σ:=Nat,fr:=λi=>[(21,i64 i)],ob:=λ_=>[],inv:=λi=>Hd (i<=x.L.length+x.l.n/\ ∀j,j<i->(x.nth j).line≠x.k),meas:=λi=>x.L.length+x.l.n-i}]else bif Nat.beq b 2 then [
 {σ:=Nat,fr:=λi=>[(36,i64 i)],ob:=λ_=>[],inv:=λi=>Hd (i<=x.b.n/\ ∀j,j<i->(x.b.e j).line≠x.k/\(x.b.e j).anti≠x.k),meas:=λi=>x.b.n-i}]else [])elseλ_ _ _=>[]
noncomputable def arZ:jf:=[(68,ctrT allT.C),(70,ctrT YP.ctr),(278,ctrT afA.ctr)]
def Zt(a:Bool)(b:rE):Prop:=a=a/\List.length b.L+b.l.n=List.length b.L+b.l.n/\ ∀q:Nat,q<List.length b.L+b.l.n->[Value.string (ZLnk.key (b.nth q)),Value.int .u64 (ZLnk.id (b.nth q)),Value.int .u64 (ZLnk.ver (b.nth q)),Value.int .i64 (ZLnk.line (b.nth q)),Value.int .i64 (ZLnk.cls (b.nth q))]=[Value.string (ZLnk.key (b.nth q)),Value.int .u64 (ZLnk.id (b.nth q)),Value.int .u64 (ZLnk.ver (b.nth q)),Value.int .i64 (ZLnk.line (b.nth q)),Value.int .i64 (ZLnk.cls (b.nth q))]
def QO:Prop:=True/\True/\True/\True/\0=0/\0=0/\True/\0=0/\True/\True/\True/\True
def KJ(a:iw):Prop:=ownM a.os=ownM a.os
def zC(a:iw):Prop:=KJ a/\QO/\True
def ahz(a:Bool)(b:rE)(c:Lks)(d:ZLn):Prop:=True/\ ∃s:Bool,Hd True/\True/\((s=a/\List.length b.L+b.l.n=List.length c)/\((List.length b.L+b.l.n:Nat):Int)=((List.length c:Nat):Int)/\(0:Int)=0/\True)/\(s=a/\List.length b.L+b.l.n=List.length c/\ ∀q:Nat,q<List.length b.L+b.l.n->[Value.string (ZLnk.key (b.nth q)),Value.int .u64 (ZLnk.id (b.nth q)),Value.int .u64 (ZLnk.ver (b.nth q)),Value.int .i64 (ZLnk.line (b.nth q)),Value.int .i64 (ZLnk.cls (b.nth q))]=[Value.string (ZLnk.key (nthL c q)),Value.int .u64 (ZLnk.id (nthL c q)),Value.int .u64 (ZLnk.ver (nthL c q)),Value.int .i64 (ZLnk.line (nthL c q)),Value.int .i64 (ZLnk.cls (nthL c q))])/\ownM b.l.os=ownM d.os/\tabA b.L=tabA c/\zC b.b
def KL(a:rE):Prop:=tabA a.L=tabA a.L/\ownM a.l.os=ownM a.l.os/\True
def EJ(a:rE)(b:iw):Prop:=QO/\ownM a.b.os=ownM b.os/\KL a
def VY(a:iw)(b:Bool)(c:rE):Prop:=(a.n=a.n/\ ∀q:Nat,q<a.n->[Value.int .i64 (gX.line (a.e q)),Value.int .i64 (gX.cls (a.e q)),Value.int .u64 (gX.r (a.e q)),Value.int .u64 (gX.d (a.e q)),Value.int .i64 (gX.anti (a.e q))]=[Value.int .i64 (gX.line (a.e q)),Value.int .i64 (gX.cls (a.e q)),Value.int .u64 (gX.r (a.e q)),Value.int .u64 (gX.d (a.e q)),Value.int .i64 (gX.anti (a.e q))])/\Zt b c/\ownM c.l.os=ownM c.l.os/\tabA c.L=tabA c.L/\zC a
def zD(a:Nat)(b:rE):Prop:=Hd (a<=b.b.n/\ ∀j:Nat,j<a->gX.line (b.b.e j)≠b.k/\gX.anti (b.b.e j)≠b.k)
def KN(a:Nat)(b:rE):Prop:=Hd (a<=List.length b.L+b.l.n/\ ∀j:Nat,j<a->ZLnk.line (b.nth j)≠b.k)
def VZ(a:rE)(b:iw):Prop:=(∃y_1:Unit,Hd a.used/\true=false/\EJ a b)\/ ∃y_1:Unit,Hd (Not a.used)/\false=false/\EJ a b
def V3(a:rE)(b:iw):Prop:=(∃y_1:Unit,Hd a.used/\true=true/\EJ a b)\/ ∃y_1:Unit,Hd (Not a.used)/\false=true/\EJ a b
def V4(a:Bool)(b:rE):Prop:=Zt a b/\ownM b.l.os=ownM b.l.os/\tabA b.L=tabA b.L/\zC b.b
def V5(x:rE):Prop:=
 (∃x_1:ZLq,True/\(0=0/\True)/\(tabA x_1.L=tabA x.L/\True)/\ ∀y:Bool,Hd (y=true->x_1.L= @List.nil ZLnk)->(AV.ptr 3 0=AV.ptr 3 0/\True)/\ ∃x_2:ZLn,Hd x_2.ok/\(0=0/\True)/\(ownM x_2.os=ownM x.l.os/\True)/\(∀y_1:Unit,Hd (x_2.n=0)->True/\y=y/\List.length x_1.L=List.length x_1.L/\ahz y x x_1.L x_2)/\ ∀y_1:Unit,Hd (x_2.n≠0)->True/\y=y/\List.length x_1.L=List.length x_1.L/\0+x_2.n<=x_2.n/\cP (Nat.beq x_2.n 0) (ahz y x x_1.L x_2) ((∀k:Nat,k<x_2.n->(Nat.beq (List.length [Value.string (ZLnk.key (x_2.get (0+k))),Value.int .u64 (ZLnk.id (x_2.get (0+k))),Value.int .u64 (ZLnk.ver (x_2.get (0+k))),Value.int .i64 (ZLnk.line (x_2.get (0+k))),Value.int .i64 (ZLnk.cls (x_2.get (0+k)))]) 5&&List.all [Value.string (ZLnk.key (x_2.get (0+k))),Value.int .u64 (ZLnk.id (x_2.get (0+k))),Value.int .u64 (ZLnk.ver (x_2.get (0+k))),Value.int .i64 (ZLnk.line (x_2.get (0+k))),Value.int .i64 (ZLnk.cls (x_2.get (0+k)))] Value.oneCell')=true)/\(2*(List.length x_1.L+x_2.n)+1000)*48<=281474976710656/\True/\ ∃s:Bool,Hd True/\True/\((s=false/\List.length x.L+x.l.n=List.length x_1.L+x_2.n)/\((List.length x.L+x.l.n:Nat):Int)=((List.length x_1.L+x_2.n:Nat):Int)/\(0:Int)=0/\True)/\(s=false/\List.length x.L+x.l.n=List.length x_1.L+x_2.n/\
 ∀q:Nat,q<List.length x.L+x.l.n->[Value.string (ZLnk.key (x.nth q)),Value.int .u64 (ZLnk.id (x.nth q)),Value.int .u64 (ZLnk.ver (x.nth q)),Value.int .i64 (ZLnk.line (x.nth q)),Value.int .i64 (ZLnk.cls (x.nth q))]=Cs.eff (λ(q_1:Nat)=>cond (Nat.blt q_1 (List.length x_1.L)) [Value.string (ZLnk.key (nthL x_1.L q_1)),Value.int .u64 (ZLnk.id (nthL x_1.L q_1)),Value.int .u64 (ZLnk.ver (nthL x_1.L q_1)),Value.int .i64 (ZLnk.line (nthL x_1.L q_1)),Value.int .i64 (ZLnk.cls (nthL x_1.L q_1))] [Value.string (ZLnk.key (x_2.get (0+(q_1-List.length x_1.L)))),Value.int .u64 (ZLnk.id (x_2.get (0+(q_1-List.length x_1.L)))),Value.int .u64 (ZLnk.ver (x_2.get (0+(q_1-List.length x_1.L)))),Value.int .i64 (ZLnk.line (x_2.get (0+(q_1-List.length x_1.L)))),Value.int .i64 (ZLnk.cls (x_2.get (0+(q_1-List.length x_1.L))))]) [] q)/\ownM x.l.os=ownM x_2.os/\tabA x.L=tabA x_1.L/\zC x.b))/\(∀s:Bool,Hd True->(∃s_1:Nat,KN s_1 x/\True/\((s_1:Int)=0/\True)/\V4 s x)/\(∀s_1:Nat,KN s_1 x->cP (decide ((s_1:Int)<((List.length x.L+x.l.n:Nat):Int))) ((0<=(s_1:Int)/\(s_1:Int)<((List.length x.L+x.l.n:Nat):Int))/\0+s_1<List.length x.L+x.l.n/\cP (BEq.beq (ZLnk.line (x.nth (0+s_1))) x.k) ((∃y:Unit,Hd x.used/\true=true/\QO/\KJ x.b/\KL x)\/ ∃y:Unit,Hd (Not x.used)/\false=true/\QO/\KJ x.b/\KL x) (I64 ((s_1:Int)+1)/\ ∃s_2:Nat,KN s_2 x/\List.length x.L+x.l.n-s_2<List.length x.L+x.l.n-s_1/\((s_2:Int)=(s_1:Int)+1/\True)/\V4 s x)) (∃x_1:iw,Hd x_1.ok/\(0=0/\True)/\(ownM x_1.os=ownM x.b.os/\True)/\(∀y:Unit,Hd (x_1.n=0)->(∃s_2:Nat,zD s_2 x/\True/\((s_2:Int)=0/\True)/\
 Zt s x/\ownM x.l.os=ownM x.l.os/\tabA x.L=tabA x.L/\zC x_1)/\(∀s_2:Nat,zD s_2 x->VZ x x_1)/\True)/\ ∀y:Unit,Hd True->(∃s_2:Nat,zD s_2 x/\True/\((s_2:Int)=0/\True)/\VY x_1 s x)/\(∀s_2:Nat,zD s_2 x->cP (decide ((s_2:Int)<(x_1.n:Int))) ((0<=(s_2:Int)/\(s_2:Int)<(x_1.n:Int))/\0+s_2<x_1.n/\cP (BEq.beq (gX.line (x_1.e (0+s_2))) x.k) (V3 x x_1) (cP (BEq.beq (gX.anti (x_1.e (0+s_2))) x.k) (V3 x x_1) (I64 ((s_2:Int)+1)/\ ∃s_3:Nat,zD s_3 x/\x.b.n-s_3<x.b.n-s_2/\((s_3:Int)=(s_2:Int)+1/\True)/\VY x_1 s x))) (VZ x x_1))/\True))/\True)/\True
theorem ab1(x:rE):V5 x=wpF Tryz.prog arZ tt (ahy x) 200 6 247 (VX.args x) (hO VX.k (VX.os x)) (λv h'=>eX VX.k x v h' VX.outs):=by kernel_rfl
theorem QS(x:rE)(hx:x.b.ok/\x.l.ok/\x.l.n<1099511627776/\x.L.length<=300):V5 x:=by
 obtain⟨hb,hl,hln,hL⟩:=hx;have hbn:=hb.1;have rows:x.l.n=0-> ∀q,q<x.L.length+x.l.n->(x.nth q).cs=(nthL x.L q).cs:=λh0 q hq=>by unfold rE.nth;rw[if_pos (by omega)]
 have no: ∀s,(∀j,j<s->(x.nth j).line≠x.k)->x.L.length+x.l.n<=s-> ¬x.inT/\ ¬x.inL:=λs hs hge=>by
  refine⟨λ⟨i,hi,he⟩=>hs i (by omega) ?_,λ⟨i,hi,he⟩=>hs (x.L.length+i) (by omega) ?_⟩
  ·unfold rE.nth;rw[if_pos hi];exact he
  ·unfold rE.nth;rw[if_neg (by omega),show x.L.length+i-x.L.length=i by omega];exact he
 have yes: ∀s,s<x.L.length+x.l.n->(x.nth s).line=x.k->x.used:=λs hs he=>by
  unfold rE.nth at he;by_cases h:s<x.L.length
  ·rw[if_pos h]at he;exact .inl ⟨s,h,he⟩
  ·rw[if_neg h]at he;exact .inr (.inl ⟨s-x.L.length,by omega,he⟩)
 unfold V5;simp only[ahz,zC,KN,V4,QO,KJ,KL,zD,Zt,VZ,VY,V3,EJ];simp only[aZ,aV,aU,aA,aI,bT,bF,aO,aK,ay,aX,aW,bU,bH,bI,bJ,bV,bD,bK,bC,eY,aH,aN,ah,ak,aB,aF,aC,aG];refine⟨⟨⟨x.L⟩,rfl,λy hy=>⟨x.l,hl,rfl,λh0=> ?_,λh0=>⟨aY _,bf (λhz=>absurd (au hz) h0) λ_=>⟨λk _=>rfl,by show(2*(x.L.length+x.l.n)+1000)*48<=281474976710656;omega,false,⟨⟨rfl,rfl⟩,rfl⟩,⟨rfl,rfl,λq hq=> ?_⟩,rfl,rfl⟩⟩⟩⟩,λz=>⟨⟨0,⟨Nat.zero_le _,λj hj=>absurd hj (Nat.not_lt_zero j)⟩,rfl⟩,λs hs=>bf (λh=> ?_) λh=> ?_⟩⟩
 ·exact⟨y,⟨⟨rfl,by show x.L.length+x.l.n=x.L.length;omega⟩,by show((x.L.length+x.l.n:Nat):Int)=(x.L.length:Nat);rw[h0,aI]⟩,⟨rfl,by show x.L.length+x.l.n=x.L.length;omega,λq hq=>rows h0 q hq⟩,rfl,rfl⟩
 ·show(x.nth q).cs=bif Nat.blt q x.L.length then(nthL x.L q).cs else(x.l.get (q-x.L.length)).cs
  unfold rE.nth;rw[bQ];by_cases h:q<x.L.length
  ·rw[if_pos h,decide_eq_true h];rfl
  ·rw[if_neg h,decide_eq_false h];rfl
 ·have h':s<x.L.length+x.l.n:=by have:=aS h;omega
  refine⟨⟨by omega,by omega⟩,h',bf (λe=> .inl (yes s h' (beq_iff_eq.1 e))) λe=>⟨by unfold I64;omega,s+1,⟨by omega,λj hj=> ?_⟩,by omega,by omega⟩⟩;by_cases hjs:j=s
  ·subst hjs;exact beq_eq_false_iff_ne.1 e
  ·exact hs.2 j (by omega)
 ·have hge:x.L.length+x.l.n<=s:=by have:=aT h;omega
  obtain⟨n1,n2⟩:=no s hs.2 hge;refine⟨x.b,hb,rfl,λh0=>⟨⟨0,⟨Nat.zero_le _,λj hj=>absurd hj (Nat.not_lt_zero j)⟩,rfl⟩,λs1 hs1=> .inr ⟨λhu=> ?_,rfl⟩⟩,⟨0,⟨Nat.zero_le _,λj hj=>absurd hj (Nat.not_lt_zero j)⟩,rfl⟩,λs1 hs1=>bf (λh=> ?_) λh=> ?_⟩
  ·rcases hu with hu|hu|⟨i,hi,_⟩
   ·exact n1 hu
   ·exact n2 hu
   ·omega
  ·have h':s1<x.b.n:=by have:=aS h;omega
   refine⟨⟨by omega,by omega⟩,h',bf (λe=> .inl ⟨.inr (.inr ⟨s1,h',.inl (beq_iff_eq.1 e)⟩),rfl⟩) λe=>bf (λe2=> .inl ⟨.inr (.inr ⟨s1,h',.inr (beq_iff_eq.1 e2)⟩),rfl⟩) λe2=>⟨by unfold I64;omega,s1+1,⟨by omega,λj hj=> ?_⟩,by omega,by omega⟩⟩;by_cases hjs:j=s1
   ·subst hjs;exact⟨beq_eq_false_iff_ne.1 e,beq_eq_false_iff_ne.1 e2⟩
   ·exact hs1.2 j (by omega)
  ·have h': ¬s1<x.b.n:=by have:=aT h;omega
   refine .inr ⟨λhu=> ?_,rfl⟩;rcases hu with hu|hu|⟨i,hi,hh⟩
   ·exact n1 hu
   ·exact n2 hu
   ·exact hh.elim (hs1.2 i (by omega)).1 (hs1.2 i (by omega)).2
theorem alU:dX Tryz.prog arZ:= .cons (bP apO) (.cons (bP aaU) (.cons (bP afC) .nil))
theorem Zu:bZ Tryz.prog 247 VX:=jk dF mixed alU ahy 200 6 (λ_=>rfl) (λ_=>⟨λ_=>rfl,λ_=>rfl,trivial⟩) λx hx=>Eq.mp (ab1 x) (QS x (aZ.1 hx))
def pOf:AV->Nat
 | .ptr i _=>i
 |_=>0
def apT(A:SE.Own)(ids:List Nat)(h:Heap):Heap:=(SE.fQ ids h).set (atL ids 0) (.abs A)
def isAbs:Option dB->Bool
 |some (.abs _)=>true
 |_=>false
def Ih(h:Heap)(i:Nat):List Nat:=match h.get i with
 |some (.cells _ (.av [d0,p,r,c,b,t,o,l,_,_,ef]))=>match h.get (pOf d0)with
  |some (.cells _ (.av (d::_)))=>match ef with
   | .slV _ j _ _=>[i,pOf d0,pOf d,pOf p,pOf r,pOf c,pOf b,pOf t,pOf o,pOf l,j]
   |_=>[]
  |_=>[]
 |_=>[]
def ar0(a:ZSto)(ids:List Nat)(h:Heap):Prop:=GH (atL ids) 11 h 0 a.os
noncomputable def ahA(T:WTr):WTr:=λargs h K=>match args with
 | .ptr i z::r=>bif isAbs (h.get i)then T (.ptr i z::r) h K else
  bif NI 0 (Ih h i) (Ih h i).length&&Nat.beq (Ih h i).length 11 then∃a:ZSto,ar0 a (Ih h i) h/\T (.ptr i z::r) (apT (ownM a.os) (Ih h i) h) K else False
 |_=>False
theorem QT{P:Program}{f:FuncId}{T:WTr}(hT: ∀args h K,T args h K->Sp P f args h K)(args:List AV)(h:Heap)(K:AV->Heap->Prop)(hq:ahA T args h K):Sp P f args h K:=by
 unfold ahA at hq;split at hq
 ·rename_i i z r
  cases ha:isAbs (h.get i)<;>rw[ha]at hq
  ·generalize Ih h i=ids at hq
   cases hb:(NI 0 ids ids.length&&Nat.beq ids.length 11)<;>rw[hb]at hq
   ·exact hq.elim
   ·simp only[aJ]at hb
    obtain⟨b1,b2⟩:=hb;obtain⟨a,hs,hq⟩:=hq;have hl:ids.length=11:=au b2;rw[hl]at b1;refine aek (Φ:=λh=>h=hOf a.os) 11 ids a.os rfl rfl b1 rfl hs (hT _ _ _ ?_);have e:wG (λh=>h=hOf a.os) ids h=apT (ownM a.os) ids h:=by
     unfold wG apT;rw[uM];rfl
    rw[e];exact hq
  ·exact hT _ _ _ hq
 ·exact hq.elim
structure ZPt where
 a:ZSto
 t:Nat
 e:Int
 x:ZCh
 ln:Nat
namespace ZPt
def cg(y:ZPt):ZCg:=⟨y.a,y.t,y.e,{y.x with line:=y.ln},y.ln,0⟩
def lst(y:ZPt)(k:Int)(had:Bool):dB:= .ro (.av [i64 k,.lit (.string y.x.key),.lit (.string y.x.value),boo had,.lit (.string y.x.old.key),u64 y.x.old.id,u64 y.x.old.ver,i64 y.x.old.line,i64 y.x.old.cls,i64 y.ln,i64 y.x.cls])
def was(y:ZPt)(had:Bool):Prop:=fF y.a.L y.x.key=(if had=true then some y.x.old else none)
def inP(y:ZPt)(i j:Nat):Prop:=i<y.a.p.n/\0<=y.a.p.cls i/\j<ZPool.many (y.a.p.cls i)/\y.a.p.tk i j=true/\(y.ln:Int)=2+i*8+j*spn (y.a.p.cls i)
def us(y:ZPt):rE:=⟨y.a.b,y.a.l,y.a.L,y.ln⟩
def ok(y:ZPt)(k:Int)(had:Bool):Prop:=y.cg.ok k had/\y.was had/\y.a.c.now=y.e/\y.a.p.ok/\y.a.b.ok/\y.a.l.ok/\y.a.l.n<1099511627776/\y.a.L.length<=300/\(∃i j,y.inP i j/\y.a.p.cls i=y.x.cls)/\(¬y.us.used)/\(k≠2->y.x.cls=0)
def bad(y:ZPt)(had:Bool):Prop:=y.a.c.ok/\y.a.ph<=4/\y.t<y.a.c.t/\y.x.key.size<1099511627776/\(y.a.c.now≠y.e\/ ¬y.was had)
end ZPt
noncomputable def alV(k:Int)(had:Bool):jE:=qE ZPt (λy=>[.ptr 0 0,i64 y.t,u64 y.e,.sl 1 0 1 1]) 2 (λy=>[.m y.a.os,.o (y.lst k had)]) (λy=>Hd (y.ok k had)) (λ_=> .tup [.slW 2 0 1 1,i64 0]) 3 (λy=>[.o (.abs (ownM (y.cg.res k had).os)),.o (y.lst k had),.o (.room 4 (.row 1 1 (λ_=>[.bool had]) []))])
noncomputable def alW(k:Int)(had:Bool):jf:=pI++[(204,ctrT apP),(45,ctrT aho),(245,ctrT aqg.C),(246,ctrT ofP.ctr),(247,ctrT VX),(229,ctrT amT),(210,ahA (ctrT (alQ k had).ctr))]
noncomputable def yj(k:Int)(had:Bool):Ctr:=det ZPt (λy=>[.ptr 0 0,i64 y.t,u64 y.e,.sl 3 0 1 1]) 4 (λy=>[arnS .any .any .any (.ptr 1 0) .any (.ptr 2 0) .any .any .any .any,.abs (ownM y.a.ck.os),.abs (tabA y.a.L),y.lst k had]) (λy=>Hd (y.bad had)) (λ_=> .tup [gY,i64 8]) 4 (λy=>[arnS .any .any .any (.ptr 1 0) .any (.ptr 2 0) .any .any .any .any,.abs (ownM y.a.ck.os),.abs (tabA y.a.L),y.lst k had])
def ar1:WTr:=λ_ _ _=>False
theorem alX{P:Program}{f:FuncId}(args:List AV)(h:Heap)(K:AV->Heap->Prop)(hq:ar1 args h K):Sp P f args h K:=hq.elim
noncomputable def apU:jf:=pI++[(207,ar1),(204,ctrT apP),(45,ctrT aho),(245,ctrT aqg.C)]
def Ii(a:ZPt):Prop:=a.x.old.key=a.x.old.key/\a.x.old.id=a.x.old.id/\a.x.old.ver=a.x.old.ver/\a.x.old.line=a.x.old.line/\a.x.old.cls=a.x.old.cls/\(a.ln:Int)=(a.ln:Int)/\a.x.cls=a.x.cls/\True
def EK(a:ZPt):Prop:=a.x.key=a.x.key/\a.x.value=a.x.value/\true=true/\Ii a
def KO:Prop:=(0=0/\1=1)/\(0:Int)=0/\True
def kP(a:ZPt):Prop:=False/\((2:Int)=2/\EK a)/\False/\True
def jQ(a:ByteArray):Prop:=AV.lit (Value.string a)=AV.lit (Value.string a)
def KP(a:ZBlk)(b:ZPt):Prop:=(a.cls=b.x.cls/\a.kind=1/\a.id=1/\a.ver=1/\a.epoch=b.e/\a.key=b.x.key/\a.value=b.x.value/\True)/\True
def KQ(a:ZCg)(b:ZPt):Prop:=a.x.old.key=b.x.old.key/\a.x.old.id=b.x.old.id/\a.x.old.ver=b.x.old.ver/\a.x.old.line=b.x.old.line/\a.x.old.cls=b.x.old.cls/\(a.ln:Int)=(b.ln:Int)/\a.x.cls=b.x.cls/\True
def KR(a:ZSto)(b:ZSto)(c:ZCk)(d:rE):Prop:=(true=true/\false=false/\some (dB.abs (ownM a.r.os))=some (dB.abs (ownM b.r.os)))/\(true=true/\false=false/\some (dB.abs (ownM c.os))=some (dB.abs (ownM b.ck.os)))/\(true=true/\false=false/\some (dB.abs (ownM d.b.os))=some (dB.abs (ownM b.b.os)))/\(true=true/\false=false/\some (dB.abs (tabA d.L))=some (dB.abs (tabA b.L)))/\(true=true/\false=false/\some (dB.abs (ordA a.L))=some (dB.abs (ordA b.L)))/\(true=true/\false=false/\some (dB.abs (ownM d.l.os))=some (dB.abs (ownM b.l.os)))/\(true=true/\false=false/\some (dB.iF (Nat.beq a.n 0) (95: @TypeId) (Cs.row 7 a.n (λ(i:Nat)=>[Value.int .i64 (ZEff.kind (a.e i)),Value.string (ZEff.key (a.e i)),Value.string (ZEff.value (a.e i)),Value.int .u64 (ZEff.id (a.e i)),Value.int .u64 (ZEff.ver (a.e i)),Value.int .u64 (ZEff.epoch (a.e i)),Value.int .i64 (ZEff.group (a.e i))]) (@List.nil (Prod Nat (List Value)))))=some (dB.iF (Nat.beq b.n 0) (95: @TypeId) (Cs.row 7 b.n (λ(i:Nat)=>[Value.int .i64 (ZEff.kind (b.e i)),Value.string (ZEff.key (b.e i)),Value.string (ZEff.value (b.e i)),Value.int .u64 (ZEff.id (b.e i)),Value.int .u64 (ZEff.ver (b.e i)),Value.int .u64 (ZEff.epoch (b.e i)),Value.int .i64 (ZEff.group (b.e i))]) (@List.nil (Prod Nat (List Value))))))/\True
def KT:Prop:=true=true/\false=false/\some (dB.cells (145: @TypeId) (Cs.av [AV.ptr 3 0,AV.lit (Value.int .u32 1),AV.lit (Value.int .i32 0),AV.lit (Value.int .u32 0)]))=some (dB.cells (145: @TypeId) (Cs.av [AV.ptr 3 0,AV.lit (Value.int .u32 1),AV.lit (Value.int .i32 0),AV.lit (Value.int .u32 0)]))
def KU(a:rE)(b:ZSto)(c:Lks):Prop:=(True/\True/\True/\True/\0=0/\0=0/\True/\0=0/\True/\True/\True/\True)/\ownM a.b.os=ownM b.b.os/\tabA a.L=tabA c/\ownM a.l.os=ownM b.l.os/\True
def KW(a:ZSto)(b:ZSto):Prop:=true=true/\false=false/\some (dB.cells (113: @TypeId) (Cs.av [AV.ptr 2 0,AV.ptr 4 0,AV.ptr 5 0,AV.ptr 6 0,AV.ptr 7 0,AV.ptr 8 0,AV.ptr 9 0,AV.ptr 10 0,AV.lit (Value.int .u64 a.id),AV.lit (Value.int .u64 a.ver),AV.slV (Nat.beq a.n 0) 11 7 a.n]))=some (dB.cells (113: @TypeId) (Cs.av [AV.ptr 2 0,AV.ptr 4 0,AV.ptr 5 0,AV.ptr 6 0,AV.ptr 7 0,AV.ptr 8 0,AV.ptr 9 0,AV.ptr 10 0,AV.lit (Value.int .u64 b.id),AV.lit (Value.int .u64 b.ver),AV.slV (Nat.beq b.n 0) 11 7 b.n]))
def KX(a:ZPool)(b:ZPool):Prop:=true=true/\false=false/\some (dB.abs (ownM a.os))=some (dB.abs (ownM b.os))
def rF:Prop:=False/\(0:Int)=1/\True
def KY(a:ZBlk):Prop:=Hd (a.key.size<1099511627776/\a.value.size<1099511627776)
def zF:Prop:=False/\(0:Int)=10/\True
def KZ(a:DevM)(b:DevM):Prop:=true=true/\false=false/\some (dB.abs (ownM a.os))=some (dB.abs (ownM b.os))
def pO:Prop:=False/\(0:Int)=8/\True
def iK:Prop:=(0:Int)<=0/\(0:Int)<=0
def ahB:Prop:=(1=1/\ ∀q:Nat,q<1->[Value.bool true]=Cs.eff (λ(x_7:Nat)=>[]) [(0,List.take 1 [Value.bool true])] q)/\True
def zG:Prop:=False/\(0:Int)=3/\True
def La(a:rE):Prop:=Hd (a.b.ok/\a.l.ok/\a.l.n<1099511627776/\List.length a.L<=300)
def ahC(a0:ZLnk)(b:ZPt)(c:Lks)(d:ZCk):Prop:=True/\True/\cP (Bool.not (BEq.beq (ByteArray.toList a0.key) (ByteArray.toList b.x.old.key)&&(BEq.beq a0.id b.x.old.id&&(BEq.beq a0.ver b.x.old.ver&&(BEq.beq a0.line b.x.old.line&&(BEq.beq a0.cls b.x.old.cls&&true)))))) (∃y_4:Unit,True/\pO/\kP b) (I64 (1:Int)/\iK/\ ∃x_3:fM,Hd x_3.ok/\(0=0/\x_3.line=(b.ln:Int)/\True)/\(ownM x_3.p.os=ownM b.a.p.os/\True)/\ ∀y_4:Unit,True->True/\cP (bne (x_3.p.cls x_3.i) b.x.cls) (∃y_5:Unit,True/\rF/\kP b) (∃x_4:rE,La x_4/\(0=0/\x_4.k=(b.ln:Int)/\True)/\KU x_4 b.a c/\(∀y_5:Unit,Hd x_4.used-> ∃y_6:Unit,True/\rF/\kP b)/\ ∀y_5:Unit,Hd (Not x_4.used)->I64 (1:Int)/\True/\True/\iK/\(jQ b.x.value/\jQ b.x.key/\True)/\(jQ b.x.value/\True)/\True/\ ∃x_5:ZBlk,KY x_5/\KP x_5 b/\True/\ ∀y_6:Unit,True->cP (Bool.not x_5.Nl) (∃y_7:Unit,True/\zG/\kP b) (cP (bne b.x.cls b.x.cls) (∃y_7:Unit,True/\zG/\kP b) (cP (decide (IntKind.wrap .u64 (b.a.ver+1)>(2305843009213693952:Int))) (I64 (1:Int)/\ ∃y_7:Unit,True/\zF/\kP b) (I64 (1:Int)/\cP (decide (b.a.id>(2305843009213693952:Int))) (∃y_7:Unit,True/\zF/\kP b) (iK/\1002<=281474976710656/\ ∃a:ZSto,(KW b.a a/\KT/\KZ b.a.d a.d/\KX x_3.p a.p/\KR b.a a d x_4)/\ ∃x_6:ZCg,Hd (x_6.ok (2:Int) true)/\(0=0/\(x_6.t:Int)=(b.t:Int)/\x_6.e=b.e/\((2:Int)=2/\x_6.x.key=b.x.key/\x_6.x.value=b.x.value/\true=true/\KQ x_6 b)/\x_6.g=0/\True)/\(ownM x_6.a.os=ownM a.os/\True)/\ ∀y_7:Unit,True->I64 (1:Int)/\ ∃y_8:Unit,True/\KO/\
 ownM (ZSto.os (b.cg.res (2:Int) true))=ownM (ZSto.os (x_6.res (2:Int) true))/\((2:Int)=2/\EK b)/\ahB))))))
def vk(a:ZPt):Prop:=(2:Int)=2/\a.x.key=a.x.key/\a.x.value=a.x.value/\false=false/\Ii a
def mY(a:ZPt):Prop:=False/\vk a/\False/\True
def ahD(a0:ZPt)(b:Lks)(c:ZCk):Prop:=True/\True/\I64 (1:Int)/\iK/\ ∃x_3:fM,Hd x_3.ok/\(0=0/\x_3.line=(a0.ln:Int)/\True)/\(ownM x_3.p.os=ownM a0.a.p.os/\True)/\ ∀y_4:Unit,True->True/\cP (bne (x_3.p.cls x_3.i) a0.x.cls) (∃y_5:Unit,True/\rF/\mY a0) (∃x_4:rE,La x_4/\(0=0/\x_4.k=(a0.ln:Int)/\True)/\KU x_4 a0.a b/\(∀y_5:Unit,Hd x_4.used-> ∃y_6:Unit,True/\rF/\mY a0)/\ ∀y_5:Unit,Hd (Not x_4.used)->I64 (1:Int)/\True/\True/\iK/\(jQ a0.x.value/\jQ a0.x.key/\True)/\(jQ a0.x.value/\True)/\True/\ ∃x_5:ZBlk,KY x_5/\KP x_5 a0/\True/\ ∀y_6:Unit,True->cP (Bool.not x_5.Nl) (∃y_7:Unit,True/\zG/\mY a0) (cP (bne a0.x.cls a0.x.cls) (∃y_7:Unit,True/\zG/\mY a0) (cP (decide (IntKind.wrap .u64 (a0.a.ver+1)>(2305843009213693952:Int))) (I64 (1:Int)/\ ∃y_7:Unit,True/\zF/\mY a0) (I64 (1:Int)/\cP (decide (IntKind.wrap .u64 (a0.a.id+1)>(2305843009213693952:Int))) (∃y_7:Unit,True/\zF/\mY a0) (iK/\1002<=281474976710656/\ ∃a:ZSto,(KW a0.a a/\KT/\KZ a0.a.d a.d/\KX x_3.p a.p/\KR a0.a a c x_4)/\ ∃x_6:ZCg,Hd (x_6.ok (2:Int) false)/\(0=0/\(x_6.t:Int)=(a0.t:Int)/\x_6.e=a0.e/\((2:Int)=2/\x_6.x.key=a0.x.key/\x_6.x.value=a0.x.value/\false=false/\KQ x_6 a0)/\x_6.g=0/\True)/\(ownM x_6.a.os=ownM a.os/\True)/\ ∀y_7:Unit,True->I64 (1:Int)/\ ∃y_8:Unit,True/\KO/\ownM (ZSto.os (a0.cg.res (2:Int) false))=ownM (ZSto.os (x_6.res (2:Int) false))/\vk a0/\(1=1/\ ∀q:Nat,q<1->[Value.bool false]=Cs.eff (λ(x_7:Nat)=>[]) [(0,List.take 1 [Value.bool false])] q)/\True)))))
def rG:Prop:=True/\True/\True/\0=0/\True/\0=0/\True/\True/\True/\True/\True/\True
def EL:Prop:=Value.slice none 0 0=Value.slice none 0 0
def zH:Prop:=EL/\(8:Int)=8/\True
def rH(a:ZSto)(b:ZCk):Prop:=ownM a.ck.os=ownM b.os
def Lc(a:ZPt)(b:ZCk)(c:Lks):Prop:= ∃y_4:Unit,True/\zH/\rG/\rH a.a b/\tabA a.a.L=tabA c/\((2:Int)=2/\EK a)/\True
def V6(a:ZLnk)(b:ZPt)(c:ZCk)(d:Lks):Prop:=True/\True/\cP (Bool.not (BEq.beq (ByteArray.toList a.key) (ByteArray.toList b.x.old.key)&&(BEq.beq a.id b.x.old.id&&(BEq.beq a.ver b.x.old.ver&&(BEq.beq a.line b.x.old.line&&(BEq.beq a.cls b.x.old.cls&&true)))))) (Lc b c d) (I64 (1:Int)/\False)
def kQ(a:ZTq):Prop:=Hd (fF a.L a.s= @Option.none ZLnk)
def kR(a:ByteArray):Prop:=Hd (a.size<1099511627776)
def kS(a:ZCk):Prop:=Hd (a.ph<=4/\a.c.ok)
def kT(a:ZTq)(b:ZLnk):Prop:=Hd (fF a.L a.s=some b)
def kU(a:Lks)(b:Lks):Prop:=tabA a=tabA b/\True
def kV(a:ByteArray)(b:ByteArray):Prop:=0=0/\a=b/\True
def rJ(a:ZCk)(b:ZSto):Prop:=ownM a.os=ownM b.ck.os/\True
def V7(a:ZPt)(b:ZCk)(c:Lks):Prop:=True/\True/\ ∃y_4:Unit,True/\zH/\rG/\rH a.a b/\tabA a.a.L=tabA c/\vk a/\True
def rM(a:ZCk)(b:ZCk):Prop:=ownM a.os=ownM b.os/\True
def V8(y:ZPt):Prop:=
 ∃x:ZCk,kS x/\(0=0/\True)/\rJ x y.a/\ ∀y_1:Unit,True->cP (decide ((y.t:Int)>=(x.c.t:Int))) (∃y_2:Unit,True/\rF/\mY y) (iK/\I64 (1:Int)/\ ∃x_1:ZCk,kS x_1/\(0=0/\True)/\rM x_1 x/\ ∀y_2:Unit,True->cP (bne x_1.c.now y.e) (∃y_3:Unit,True/\pO/\mY y) (iK/\(∃x_2:ZTq,kR x_2.s/\kV x_2.s y.x.key/\kU x_2.L y.a.L/\(∀y_3:Unit,kQ x_2->True/\ahD y x_2.L x_1)/\ ∀y_3:ZLnk,kT x_2 y_3->True/\True/\True/\ ∃y_4:Unit,True/\pO/\mY y)/\(jQ y.x.key/\AV.ptr 8 0=AV.ptr 8 0/\True)/\ ∃x_2:ZTq,kR x_2.s/\kV x_2.s y.x.key/\kU x_2.L y.a.L/\(∀y_3:Unit,kQ x_2->ahD y x_2.L x_1)/\ ∀y_3:ZLnk,kT x_2 y_3->True/\True/\ ∃y_4:Unit,True/\pO/\mY y))
theorem ab2(y:ZPt):V8 y=wpF Tryz.prog (alW 2 false) tt (noA y) 200 6 162 ((alV 2 false).args y) (hO 12 (flatP 2 ((alV 2 false).l y))) (λv h'=>endsPK 2 y v h' (alV 2 false).outs):=by kernel_rfl
def V9(y:ZPt):Prop:=
 ∃x:ZCk,kS x/\(0=0/\True)/\rJ x y.a/\ ∀y_1:Unit,True->cP (decide ((y.t:Int)>=(x.c.t:Int))) (∃y_2:Unit,True/\rF/\kP y) (iK/\I64 (1:Int)/\ ∃x_1:ZCk,kS x_1/\(0=0/\True)/\rM x_1 x/\ ∀y_2:Unit,True->cP (bne x_1.c.now y.e) (∃y_3:Unit,True/\pO/\kP y) (iK/\(∃x_2:ZTq,kR x_2.s/\kV x_2.s y.x.key/\kU x_2.L y.a.L/\(∀y_3:Unit,kQ x_2->True/\True/\True/\ ∃y_4:Unit,True/\pO/\kP y)/\ ∀y_3:ZLnk,kT x_2 y_3->True/\ahC y_3 y x_2.L x_1)/\(jQ y.x.key/\AV.ptr 8 0=AV.ptr 8 0/\True)/\ ∃x_2:ZTq,kR x_2.s/\kV x_2.s y.x.key/\kU x_2.L y.a.L/\(∀y_3:Unit,kQ x_2->True/\True/\ ∃y_4:Unit,True/\pO/\kP y)/\ ∀y_3:ZLnk,kT x_2 y_3->ahC y_3 y x_2.L x_1))
theorem ab3(y:ZPt):V9 y=wpF Tryz.prog (alW 2 true) tt (noA y) 200 6 162 ((alV 2 true).args y) (hO 12 (flatP 2 ((alV 2 true).l y))) (λv h'=>endsPK 2 y v h' (alV 2 true).outs):=by kernel_rfl
def Wh(y:ZPt):Prop:=
 ∃x:ZCk,kS x/\(0=0/\True)/\rJ x y.a/\ ∀y_1:Unit,True->cP (decide ((y.t:Int)>=(x.c.t:Int))) (∃y_2:Unit,True/\(EL/\(8:Int)=1/\True)/\rG/\rH y.a x/\tabA y.a.L=tabA y.a.L/\vk y/\True) (iK/\I64 (1:Int)/\ ∃x_1:ZCk,kS x_1/\(0=0/\True)/\rM x_1 x/\ ∀y_2:Unit,True->cP (bne x_1.c.now y.e) (∃y_3:Unit,True/\zH/\rG/\rH y.a x_1/\tabA y.a.L=tabA y.a.L/\vk y/\True) (iK/\(∃x_2:ZTq,kR x_2.s/\kV x_2.s y.x.key/\kU x_2.L y.a.L/\(∀y_3:Unit,kQ x_2->True/\True/\True/\I64 (1:Int)/\False)/\ ∀y_3:ZLnk,kT x_2 y_3->True/\V7 y x_1 x_2.L)/\(jQ y.x.key/\AV.ptr 2 0=AV.ptr 2 0/\True)/\ ∃x_2:ZTq,kR x_2.s/\kV x_2.s y.x.key/\kU x_2.L y.a.L/\(∀y_3:Unit,kQ x_2->True/\True/\I64 (1:Int)/\False)/\ ∀y_3:ZLnk,kT x_2 y_3->V7 y x_1 x_2.L))
theorem ab4(y:ZPt):Wh y=wpF Tryz.prog apU tt (noA y) 200 6 162 ((yj 2 false).args y) (hO 4 ((yj 2 false).os y)) (λv h'=>eX 4 y v h' (yj 2 false).outs):=by kernel_rfl
def Wi(y:ZPt):Prop:=
 ∃x:ZCk,kS x/\(0=0/\True)/\rJ x y.a/\ ∀y_1:Unit,True->cP (decide ((y.t:Int)>=(x.c.t:Int))) (∃y_2:Unit,True/\(EL/\(8:Int)=1/\True)/\rG/\rH y.a x/\tabA y.a.L=tabA y.a.L/\((2:Int)=2/\EK y)/\True) (iK/\I64 (1:Int)/\ ∃x_1:ZCk,kS x_1/\(0=0/\True)/\rM x_1 x/\ ∀y_2:Unit,True->cP (bne x_1.c.now y.e) (∃y_3:Unit,True/\zH/\rG/\rH y.a x_1/\tabA y.a.L=tabA y.a.L/\((2:Int)=2/\EK y)/\True) (iK/\(∃x_2:ZTq,kR x_2.s/\kV x_2.s y.x.key/\kU x_2.L y.a.L/\(∀y_3:Unit,kQ x_2->True/\True/\True/\Lc y x_1 x_2.L)/\ ∀y_3:ZLnk,kT x_2 y_3->True/\V6 y_3 y x_1 x_2.L)/\(jQ y.x.key/\AV.ptr 2 0=AV.ptr 2 0/\True)/\ ∃x_2:ZTq,kR x_2.s/\kV x_2.s y.x.key/\kU x_2.L y.a.L/\(∀y_3:Unit,kQ x_2->True/\True/\Lc y x_1 x_2.L)/\ ∀y_3:ZLnk,kT x_2 y_3->V6 y_3 y x_1 x_2.L))
theorem ab5(y:ZPt):Wi y=wpF Tryz.prog apU tt (noA y) 200 6 162 ((yj 2 true).args y) (hO 4 ((yj 2 true).os y)) (λv h'=>eX 4 y v h' (yj 2 true).outs):=by kernel_rfl
theorem QU(y:ZPt)(hy:y.bad false):Wh y:=by
 obtain⟨b1,b2,b3,b4,b5⟩:=hy;unfold Wh;simp only[kS,rJ,EL,rG,rH,vk,iK,rM,zH,kR,kV,kU,kQ,kT,V7,jQ,Ii];simp only[aZ,aV,aU,aA,aI,bT,bF,aO,aK,ay,aX,aW,bU,bH,bI,bJ,bV,bD,bK,bC,eY,aH,aN,ah,ak,aB,aF,aC,aG];refine⟨y.a.ck,⟨b2,b1⟩,rfl,bf (λh=>absurd (aS h) (by show¬((y.t:Int)>=(y.a.c.t:Nat));omega)) λ_=>⟨by decide,by unfold I64;omega,y.a.ck,⟨b2,b1⟩,rfl,bf (λ_=>rfl) λh=>⟨by decide,⟨y.a.L,y.x.key⟩,b4,rfl,rfl,λhn=> ?_,λl hl=>⟨rfl,rfl⟩⟩⟩⟩;have h:y.a.c.now=y.e:=by have h:(y.a.c.now !=y.e)=false:=h;simpa using h
 exact(b5.elim (λe=>e h) λe=>e hn).elim
theorem apV{l k:ZLnk}(h:(!(l.key.toList==k.key.toList&&(l.id==k.id&&(l.ver==k.ver&&(l.line==k.line&&(l.cls==k.cls&&true))))))=false):l=k:=by
 simp only[Bool.not_eq_false',aJ,beq_iff_eq,aV]at h;obtain⟨h1,h2,h3,h4,h5⟩:=h;rw[iy,iy]at h1;exact ZLnk.ext5 (ByteArray.ext (Array.toList_inj.1 h1)) h2 h3 h4 h5
theorem QV(y:ZPt)(hy:y.bad true):Wi y:=by
 obtain⟨b1,b2,b3,b4,b5⟩:=hy;unfold Wi;simp only[kS,rJ,EL,rG,rH,EK,iK,rM,zH,kR,kV,kU,kQ,Lc,kT,V6,jQ,Ii];simp only[aZ,aV,aU,aA,aI,bT,bF,aO,aK,ay,aX,aW,bU,bH,bI,bJ,bV,bD,bK,bC,eY,aH,aN,ah,ak,aB,aF,aC,aG];refine⟨y.a.ck,⟨b2,b1⟩,rfl,bf (λh=>absurd (aS h) (by show¬((y.t:Int)>=(y.a.c.t:Nat));omega)) λ_=>⟨by decide,by unfold I64;omega,y.a.ck,⟨b2,b1⟩,rfl,bf (λ_=>rfl) λh=>⟨by decide,⟨y.a.L,y.x.key⟩,b4,rfl,rfl,λhn=>⟨rfl,rfl⟩,λl hl=>bf (λ_=>⟨rfl,rfl⟩) λhc=> ?_⟩⟩⟩;have h:y.a.c.now=y.e:=by have h:(y.a.c.now !=y.e)=false:=h;simpa using h
 have e:=apV hc;exact(b5.elim (λe=>e h) λe2=>e2 (hl.trans (congrArg some e))).elim
theorem QW(y:ZPt)(hy:y.ok 2 false):V8 y:=by
 obtain⟨hg,c1,c2,c3,c4,c5,c6,c7,⟨i,j,⟨p1,p2,p3,p4,p5⟩,p6⟩,c8,c9⟩:=hy;obtain⟨o1,o2,o3,o4,o5,o6,o7,o8,o9,o10,o11,o12,o13,o14,o15,o16,o17,o18,o19,o20⟩:=id hg;have q10:0<=y.a.ver:=o10;have q11:y.a.ver<1152921504606846976:=o11;have q12:0<=y.a.id:=o12;have q13:y.a.id<1152921504606846976:=o13;have q4:y.t<y.a.c.t:=o4;have w1:IntKind.u64.wrap (y.a.ver+1)=y.a.ver+1:=iV (by omega) (by omega);have w2:IntKind.u64.wrap (y.a.id+1)=y.a.id+1:=iV (by omega) (by omega);have hq:ZBlk.may ⟨y.x.cls,1,1,1,y.e,y.x.key,y.x.value⟩:=by
  obtain⟨m0,m⟩:=o7;refine⟨m0,?_⟩;rcases m with ⟨m,_⟩|⟨_,m1,m2,m3,m4,_,_,m5⟩|⟨m,_⟩|⟨m,_⟩
  ·exact absurd (show(1:Int)=0 from m) (by decide)
  ·exact .inr (.inl ⟨rfl,m1,m2,m3,m4,⟨show(1:Int)<=1 by decide,show(1:Int)<=2305843009213693952 by decide⟩,⟨show(1:Int)<=1 by decide,show(1:Int)<=2305843009213693952 by decide⟩,m5⟩)
  ·exact absurd (show(1:Int)=2 from m) (by decide)
  ·exact absurd (show(1:Int)=3 from m) (by decide)
 have core: ∀R:Prop,R->cP (!(⟨y.x.cls,1,1,1,y.e,y.x.key,y.x.value⟩:ZBlk).Nl) ((False/\(0:Int)=3)/\False) R:=λR h=>by rw[xR.2 hq,Bool.not_true,ig];exact h
 unfold V8;simp only[kS,rJ,rF,mY,iK,rM,pO,kR,kV,kU,kQ,ahD,kT,jQ,La,KU,KY,KP,zG,zF,KW,KT,KZ,KX,KR,KQ,KO,vk,Ii];simp only[aZ,aV,aU,aA,aI,bT,bF,aO,aK,ay,aX,aW,bU,bH,bI,bJ,bV,bD,bK,bC,eY,aH,aN,ah,ak,aB,aF,aC,aG,w1,w2];refine⟨y.a.ck,⟨o3,o2⟩,rfl,bf (λh=>absurd (aS h) (by show¬((y.t:Int)>=(y.a.c.t:Nat));omega)) λ_=>⟨by decide,by unfold I64;omega,y.a.ck,⟨o3,o2⟩,rfl,bf (λh=>absurd c2 (bne_iff_ne.1 h)) λ_=>⟨by decide,⟨y.a.L,y.x.key⟩,o8,rfl,rfl,λ_=>⟨by unfold I64;omega,by decide,⟨y.a.p,i,j⟩,⟨c3,p1,p2,p3,p4⟩,p5.symm,rfl,bf (λh=>absurd p6 (bne_iff_ne.1 h)) λ_=>⟨y.us,⟨c4,c5,c6,c7⟩,rfl,⟨rfl,rfl,rfl⟩,λhu=>absurd hu c8,λ_=>⟨by unfold I64;omega,by decide,⟨y.x.cls,1,1,1,y.e,y.x.key,y.x.value⟩,⟨o8,o9⟩,⟨rfl,rfl,rfl,rfl,rfl,rfl,rfl⟩,core _ ?_⟩⟩⟩,λl hl=>absurd (c1.symm.trans hl) (by simp)⟩⟩⟩;rw[bne_self_eq_false,ig];refine bf (λh=>absurd (aS h) (by omega)) λ_=>⟨by unfold I64;omega,bf (λh=>absurd (aS h) (by omega)) λ_=>⟨by decide,by decide,y.a,?_,y.cg,hg,?_⟩⟩
 ·repeat' (first|exact rfl|refine And.intro ?_ ?_)
 ·repeat' (first|exact rfl|(intro q hq;have h0:q=0:=(by omega);subst h0;rfl)|(show I64 _;unfold I64;omega)|refine And.intro ?_ ?_)
theorem QX(y:ZPt)(hy:y.ok 2 true):V9 y:=by
 obtain⟨hg,c1,c2,c3,c4,c5,c6,c7,⟨i,j,⟨p1,p2,p3,p4,p5⟩,p6⟩,c8,c9⟩:=hy;obtain⟨o1,o2,o3,o4,o5,o6,o7,o8,o9,o10,o11,o12,o13,o14,o15,o16,o17,o18,o19,o20⟩:=id hg;have q10:0<=y.a.ver:=o10;have q11:y.a.ver<1152921504606846976:=o11;have q12:0<=y.a.id:=o12;have q13:y.a.id<1152921504606846976:=o13;have q4:y.t<y.a.c.t:=o4;have w1:IntKind.u64.wrap (y.a.ver+1)=y.a.ver+1:=iV (by omega) (by omega);have w2:IntKind.u64.wrap (y.a.id+1)=y.a.id+1:=iV (by omega) (by omega);have hq:ZBlk.may ⟨y.x.cls,1,1,1,y.e,y.x.key,y.x.value⟩:=by
  obtain⟨m0,m⟩:=o7;refine⟨m0,?_⟩;rcases m with ⟨m,_⟩|⟨_,m1,m2,m3,m4,_,_,m5⟩|⟨m,_⟩|⟨m,_⟩
  ·exact absurd (show(1:Int)=0 from m) (by decide)
  ·exact .inr (.inl ⟨rfl,m1,m2,m3,m4,⟨show(1:Int)<=1 by decide,show(1:Int)<=2305843009213693952 by decide⟩,⟨show(1:Int)<=1 by decide,show(1:Int)<=2305843009213693952 by decide⟩,m5⟩)
  ·exact absurd (show(1:Int)=2 from m) (by decide)
  ·exact absurd (show(1:Int)=3 from m) (by decide)
 have core: ∀R:Prop,R->cP (!(⟨y.x.cls,1,1,1,y.e,y.x.key,y.x.value⟩:ZBlk).Nl) ((False/\(0:Int)=3)/\False) R:=λR h=>by rw[xR.2 hq,Bool.not_true,ig];exact h
 unfold V9;simp only[kS,rJ,rF,kP,iK,rM,pO,kR,kV,kU,kQ,kT,ahC,jQ,La,KU,KY,KP,zG,zF,KW,KT,KZ,KX,KR,KQ,KO,EK,ahB,Ii];simp only[aZ,aV,aU,aA,aI,bT,bF,aO,aK,ay,aX,aW,bU,bH,bI,bJ,bV,bD,bK,bC,eY,aH,aN,ah,ak,aB,aF,aC,aG,w1,w2];refine⟨y.a.ck,⟨o3,o2⟩,rfl,bf (λh=>absurd (aS h) (by show¬((y.t:Int)>=(y.a.c.t:Nat));omega)) λ_=>⟨by decide,by unfold I64;omega,y.a.ck,⟨o3,o2⟩,rfl,bf (λh=>absurd c2 (bne_iff_ne.1 h)) λ_=>⟨by decide,⟨y.a.L,y.x.key⟩,o8,rfl,rfl,λhn=>absurd (c1.symm.trans hn) (by simp),λl hl=>bf (λhc=> ?_) λ_=>⟨by unfold I64;omega,by decide,⟨y.a.p,i,j⟩,⟨c3,p1,p2,p3,p4⟩,p5.symm,rfl,bf (λh=>absurd p6 (bne_iff_ne.1 h)) λ_=>⟨y.us,⟨c4,c5,c6,c7⟩,rfl,⟨rfl,rfl,rfl⟩,λhu=>absurd hu c8,λ_=>⟨by unfold I64;omega,by decide,⟨y.x.cls,1,1,1,y.e,y.x.key,y.x.value⟩,⟨o8,o9⟩,⟨rfl,rfl,rfl,rfl,rfl,rfl,rfl⟩,core _ ?_⟩⟩⟩⟩⟩⟩
 ·have e:l=y.x.old:=by have:=c1.symm.trans hl;simpa using this.symm
  subst e;simp at hc
 ·rw[bne_self_eq_false,ig]
  refine bf (λh=>absurd (aS h) (by omega)) λ_=>⟨by unfold I64;omega,bf (λh=>absurd (aS h) (by omega)) λ_=>⟨by decide,by decide,y.a,?_,y.cg,hg,?_⟩⟩
  ·repeat' (first|exact rfl|refine And.intro ?_ ?_)
  ·repeat' (first|exact rfl|(intro q hq;have h0:q=0:=(by omega);subst h0;rfl)|(show I64 _;unfold I64;omega)|refine And.intro ?_ ?_)
theorem ab6:dX Tryz.prog (alW 2 false):= .append dS (.cons (bP Kr) (.cons (bP tZ) (.cons (bP Vd) (.cons (bP aq6) (.cons (bP Zu) (.cons (bP afM) (.cons (QT (bP alS)) .nil)))))))
theorem alY:bZ Tryz.prog 162 (alV 2 false).ctr:=cO dF mixed ab6 12 noA 200 6 (λ_=>⟨rfl,rfl,rfl,rfl⟩) λx hx=>Eq.mp (ab2 x) (QW x (aZ.1 hx))
theorem ab7:dX Tryz.prog (alW 2 true):= .append dS (.cons (bP Kr) (.cons (bP tZ) (.cons (bP Vd) (.cons (bP aq6) (.cons (bP Zu) (.cons (bP afM) (.cons (QT (bP alT)) .nil)))))))
theorem alZ:bZ Tryz.prog 162 (alV 2 true).ctr:=cO dF mixed ab7 12 noA 200 6 (λ_=>⟨rfl,rfl,rfl,rfl⟩) λx hx=>Eq.mp (ab3 x) (QX x (aZ.1 hx))
theorem Zv:dX Tryz.prog apU:= .append dS (.cons alX (.cons (bP Kr) (.cons (bP tZ) (.cons (bP Vd) .nil))))
theorem al0:bZ Tryz.prog 162 (yj 2 false):=dR dF mixed Zv noA 200 6 (λ_=>rfl) (λ_=>rfl) λx hx=>Eq.mp (ab4 x) (QU x (aZ.1 hx))
theorem al1:bZ Tryz.prog 162 (yj 2 true):=dR dF mixed Zv noA 200 6 (λ_=>rfl) (λ_=>rfl) λx hx=>Eq.mp (ab5 x) (QV x (aZ.1 hx))
structure ZFp where
 key:ByteArray
 value:ByteArray
 to:ByteArray
 epoch:Int
 pos:ByteArray
 past:Bool
 had:Bool
 old:ZLnk
 line:Int
 cls:Int
 piece:Int
 code:Int
 found:Bool
 ans:ByteArray
 aep:Int
namespace ZFp
def l(f:ZFp)(k ph:Int)(b:AV):List AV:=[i64 k,.lit (.string f.key),.lit (.string f.value),.lit (.string f.to),gY,i64 ph,u64 f.epoch,.lit (.string f.pos),boo f.past,i64 0,boo f.had,.lit (.string f.old.key),u64 f.old.id,u64 f.old.ver,i64 f.old.line,i64 f.old.cls,i64 f.line,i64 f.cls,i64 f.piece,b,i64 0,gY,i64 f.code,boo f.found,.lit (.string f.ans),gY,gY,u64 f.aep]
def av(f:ZFp)(k ph:Int)(b:AV):AV:= .agg (f.l k ph b)
end ZFp
def goodP(k:Int)(key v:ByteArray):Int:=if key.size=0 then 1 else if 16<key.size\/k=2/\400<v.size then 5 else 0
structure ZPs where
 a:ZSto
 f:ZFp
 t:Nat
namespace ZSto
def Fv(a:ZSto)(t:Nat)(v:Int):ZSto:={a with r:=a.r.put t v}
def Ld(a:ZSto)(p:ZPool):ZSto:={a with p:=p}
def Fz(a:ZSto)(d:DevM):ZSto:={a with d:=d}
end ZSto
namespace ZPs
noncomputable def nxt(x:ZPs):Option ZLnk:=nextL x.a.L (bkt x.f.key) x.f.pos x.f.past
def goes(x:ZPs)(y:ZLnk):Prop:=x.nxt=some y/\kl y.key x.f.key=true
def hit(x:ZPs)(y:ZLnk):Prop:=x.nxt=some y/\y.key=x.f.key
def miss(x:ZPs):Prop:= ∀y,x.nxt=some y->kl y.key x.f.key=false/\y.key≠x.f.key
def nd(x:ZPs)(k:Int):Int:=if k=2 then ned ((x.f.key.size+x.f.value.size:Nat):Int)else 0
end ZPs
def nx3(f:ZFp)(k:Int)(h:Bool):Int:=if k=1 then(if h=true then 2 else 6)else if k=3/\h=false then 6 else if f.line<0 then 3 else 5
noncomputable def pR(k:Int):jE:={X:=ZPs,args:=λx=>[.ptr 0 0,i64 x.t,x.f.av k 0 gY],k:=1,l:=λx=>[.m x.a.os],pre:=λx=>Hd (x.a.r.ok/\x.a.c.ok/\x.a.ph<=4/\x.t<x.a.r.t/\x.a.r.has x.t=0),outs:=[
 {Y:=Unit,post:=λx _=>Hd (goodP k x.f.key x.f.value≠0),ret:=λx _=>{x.f with code:=goodP k x.f.key x.f.value}.av k 7 gY,m:=1,l:=λx _=>[.m x.a.os]},
 {Y:=Unit,post:=λx _=>Hd (goodP k x.f.key x.f.value=0),ret:=λx _=>{x.f with epoch:=x.a.c.now}.av k 1 gY,m:=1,l:=λx _=>[.m (x.a.Fv x.t x.a.r.now).os]}]}
noncomputable def rO(k:Int):jE:={X:=ZPs,args:=λx=>[.ptr 0 0,i64 x.t,x.f.av k 1 gY],k:=1,l:=λx=>[.m x.a.os],pre:=λx=>Hd (x.f.key.size<1099511627776/\x.f.pos.size<1099511627776/\(k=3->x.miss->x.f.line<0)),outs:=[
 {Y:=ZLnk,post:=λx y=>Hd (x.goes y),ret:=λx y=>{x.f with pos:=y.key,past:=true}.av k 1 gY,m:=1,l:=λx _=>[.m x.a.os]},
 {Y:=ZLnk,post:=λx y=>Hd (x.hit y),ret:=λx y=>{x.f with had:=true,old:=y,piece:=if k=1 then 0 else x.f.piece}.av k (nx3 x.f k true) gY,m:=1,l:=λx _=>[.m x.a.os]},
 {Y:=Unit,post:=λx _=>Hd x.miss,ret:=λx _=>{x.f with had:=false,old:=iI}.av k (nx3 x.f k false) gY,m:=1,l:=λx _=>[.m x.a.os]}]}
structure ZPg where
 a:ZSto
 f:ZFp
 t:Nat
 i:Nat
 k:Nat
def ZPg.pb(x:ZPg):fM:=⟨x.a.p,x.i,x.k⟩
def ZPg.fr(x:ZPg):ZFp:={x.f with line:=x.pb.line}
noncomputable def ar2:jE:=qE ZPg (λx=>[.ptr 0 0,i64 x.t,x.fr.av 3 1 gY]) 1 (λx=>[.m x.a.os]) (λx=>Hd (x.f.key.size<1099511627776/\x.f.pos.size<1099511627776/\x.pb.ok/\ZPs.miss ⟨x.a,x.f,x.t⟩)) (λx=>{x.f with had:=false,old:=iI,line:= -1}.av 3 6 gY) 1 (λx=>[.m (x.a.Ld (x.a.p.give x.i x.k)).os])
noncomputable def QY(k:Int):jE:={X:=ZPs,args:=λx=>[.ptr 0 0,i64 x.t,x.f.av k 3 gY],k:=1,l:=λx=>[.m x.a.os],pre:=λx=>Hd (x.a.p.ok/\x.f.key.size<=16/\x.f.value.size<=400),outs:=[
 {Y:=Unit,post:=λx _=>Hd (∀i,i<x.a.p.n->x.a.p.cls i≠ -1/\x.a.p.full (x.nd k) i),ret:=λx _=>{x.f with cls:=x.nd k,code:=4}.av k 6 gY,m:=1,l:=λx _=>[.m x.a.os]},
 {Y:=Nat×Nat,post:=λx y=>Hd (x.a.p.takes (x.nd k) y.1 y.2),ret:=λx y=>{x.f with cls:=x.nd k,line:=2+y.1*8+y.2*spn (x.nd k),piece:=0}.av k 4 gY,m:=1,l:=λx y=>[.m (x.a.Ld (x.a.p.take (x.nd k) y.1 y.2)).os]}]}
noncomputable def pU(k:Int):jE:=qE ZPs (λx=>[.ptr 0 0,i64 x.t,x.f.av k 6 gY]) 1 (λx=>[.m x.a.os]) (λx=>Hd (x.a.r.ok/\x.t<x.a.r.t)) (λx=>x.f.av k 7 gY) 1 (λx=>[.m (x.a.Fv x.t 0).os])
structure ZPw where
 a:ZSto
 f:ZFp
 t:Nat
 ln:Nat
 c:Int
 p:Nat
def ZPw.draft(x:ZPw):ZBlk:=⟨x.c,0,0,0,0,⟨#[]⟩,⟨#[]⟩⟩
def ZPw.blk(x:ZPw):ZBlk:=⟨x.c,1,0,0,0,x.f.key,x.f.value⟩
def ZPw.ok(x:ZPw):Prop:=x.a.d.ok/\0<=x.c/\x.c<=3/\x.ln+spn x.c<=x.a.d.n/\x.p<spn x.c/\x.f.key.size<=16/\x.f.value.size<=400/\x.a.d.st+10<1099511627776
noncomputable def ZPw.d'(x:ZPw):DevM:=if x.p=0 then x.a.d.store x.ln 0 64 (x.draft.jF (λ_=>0) (cpc x.c).toNat)else x.a.d.store (x.ln+x.p) 0 64 (λq=>x.blk.enc (64*x.p+q))
def ZPw.fr(x:ZPw)(p:Int):ZFp:={x.f with line:=x.ln,cls:=x.c,piece:=p}
noncomputable def EM(k:Int):jE:={X:=ZPw,args:=λx=>[.ptr 0 0,i64 x.t,(x.fr 0).av k 4 gY],k:=1,l:=λx=>[.m x.a.os],pre:=λx=>Hd (x.ok/\x.p=0),outs:=[
 {Y:=Unit,post:=λx _=>Hd (1≠spn x.c),ret:=λx _=>(x.fr 1).av k 4 gY,m:=1,l:=λx _=>[.m (x.a.Fz x.d').os]},
 {Y:=Unit,post:=λx _=>Hd (1=spn x.c),ret:=λx _=>(x.fr 0).av k 5 gY,m:=1,l:=λx _=>[.m (x.a.Fz x.d').os]}]}
noncomputable def EN:jE:={X:=ZPw,args:=λx=>[.ptr 0 0,i64 x.t,(x.fr x.p).av 2 4 gY],k:=1,l:=λx=>[.m x.a.os],pre:=λx=>Hd (x.ok/\x.p≠0),outs:=[
 {Y:=Unit,post:=λx _=>Hd (x.p+1≠spn x.c),ret:=λx _=>(x.fr (x.p+1)).av 2 4 gY,m:=1,l:=λx _=>[.m (x.a.Fz x.d').os]},
 {Y:=Unit,post:=λx _=>Hd (x.p+1=spn x.c),ret:=λx _=>(x.fr 0).av 2 5 gY,m:=1,l:=λx _=>[.m (x.a.Fz x.d').os]}]}
structure ZPr where
 a:ZSto
 f:ZFp
 t:Nat
 b:ZBlk
 ln:Nat
 p:Nat
def ZPr.ok(x:ZPr):Prop:=x.a.d.ok/\x.b.may/\x.b.kind=1/\x.ln+spn x.b.cls<=x.a.d.n/\x.p<spn x.b.cls/\ ∀q,q<64*x.b.dK->x.a.d.b ((x.ln+q/64)*193+q%64)=x.b.enc q
def ZPr.fr(x:ZPr)(p:Int):ZFp:={x.f with had:=true,old:=⟨x.b.key,x.b.id,x.b.ver,x.ln,x.b.cls⟩,piece:=p}
def ZPr.fr2(x:ZPr)(p:Int):ZFp:={x.fr p with found:=true,ans:=x.b.value}
noncomputable def QZ:jE:={X:=ZPr,args:=λx=>[.ptr 0 0,i64 x.t,(x.fr 0).av 1 2 gY],k:=1,l:=λx=>[.m x.a.os],pre:=λx=>Hd (x.ok/\x.p=0),outs:=[
 {Y:=Unit,post:=λx _=>Hd (1≠spn x.b.cls),ret:=λx _=>(x.fr 1).av 1 2 (.slW 1 0 1 64),m:=2,l:=λx _=>[.m x.a.os,.o (abg x.b.enc 64)]},
 {Y:=Unit,post:=λx _=>Hd (1=spn x.b.cls),ret:=λx _=>(x.fr2 1).av 1 6 gY,m:=1,l:=λx _=>[.m x.a.os]}]}
noncomputable def Zw:jE:={X:=ZPr,args:=λx=>[.ptr 0 0,i64 x.t,(x.fr x.p).av 1 2 (.slW 1 0 1 (64*x.p))],k:=2,l:=λx=>[.m x.a.os,.o (abg x.b.enc (64*x.p))],pre:=λx=>Hd (x.ok/\x.p≠0),outs:=[
 {Y:=Unit,post:=λx _=>Hd (x.p+1≠spn x.b.cls),ret:=λx _=>(x.fr (x.p+1)).av 1 2 (.slW 2 0 1 (64*(x.p+1))),m:=3,l:=λx _=>[.m x.a.os,.o (abg x.b.enc (64*x.p)),.o (abg x.b.enc (64*(x.p+1)))]},
 {Y:=Unit,post:=λx _=>Hd (x.p+1=spn x.b.cls),ret:=λx _=>(x.fr2 (x.p+1)).av 1 6 gY,m:=2,l:=λx _=>[.m x.a.os,.o (abg x.b.enc (64*x.p))]}]}
structure ZDm where
 cls:Int
 id:Int
 ver:Int
 epoch:Int
 key:ByteArray
 value:ByteArray
 g:Nat->Int
def ZDm.b(x:ZDm):ZBlk:=⟨x.cls,1,x.id,x.ver,x.epoch,x.key,x.value⟩
noncomputable def ar4:Ctr:=det ZDm (λx=>[.slW 0 0 1 (64*x.b.dK)]) 1 (λx=>[abg x.g (64*x.b.dK)]) (λx=>Hd (x.b.may/\x.b.key.size<1099511627776/\x.b.value.size<1099511627776/\ ∀k,k<64*x.b.dK->x.g k=x.b.enc k)) (λx=> .tup [x.b.av,boo true]) 1 (λx=>[abg x.g (64*x.b.dK)])
theorem apW:bZ Tryz.prog 121 ar4:=jS λx hx=>by
 have hx:=aZ.1 hx;refine⟨aoX,arn,rfl,⟨x.b,x.g⟩,aZ.2 ⟨hx.1,hx.2.1,hx.2.2.1,hx.2.2.2⟩,rfl,rfl,λv h' hh=> ?_⟩;obtain⟨u,e1,e2,e3⟩:=jT hh;exact fE ⟨u,trivial,e2,e3⟩
structure ZPp where
 a:ZSto
 f:ZFp
 t:Nat
 ln:Nat
namespace ZPp
def pt(x:ZPp)(k:Int):ZPt:=⟨x.a,x.t,x.f.epoch,⟨k,x.f.key,x.f.value,x.f.had,x.f.old,x.ln,x.f.cls⟩,x.ln⟩
def fr(x:ZPp)(h:Bool):ZFp:={x.f with had:=h,line:=x.ln}
end ZPp
noncomputable def Le(k:Int)(had:Bool):Ctr:=det ZPp (λx=>[.ptr 0 0,i64 x.t,(x.fr had).av k 5 gY]) 1 (λx=>[.abs (ownM x.a.os)]) (λx=>Hd ((x.pt k).ok k had)) (λx=>{x.fr had with found:=had,aep:=x.f.epoch,line:= -1}.av k 6 gY) 1 (λx=>[.abs (ownM ((x.pt k).cg.res k had).os)])
noncomputable def Lh(k:Int)(had:Bool):jE:=qE ZPp (λx=>[.ptr 0 0,i64 x.t,(x.fr had).av k 5 gY]) 1 (λx=>[.m x.a.os]) (λx=>Hd ((x.pt k).bad had)) (λx=>{x.fr had with epoch:=x.a.c.now,pos:=emp,past:=false,had:=false,old:=iI}.av k 1 gY) 1 (λx=>[.m x.a.os])
noncomputable def yu(k:Int):Ctr:=det ZPs (λx=>[.ptr 0 0,i64 x.t,x.f.av k 7 gY]) 1 (λx=>[.abs (ownM x.a.os)]) (λ_=>Hd True) (λx=>x.f.av k 7 gY) 1 (λx=>[.abs (ownM x.a.os)])
def al2:dB:=arnS .any .any .any .any .any (.ptr 1 0) .any .any .any .any
noncomputable def uw(k:Int):Ctr:={X:=ZPs,args:=λx=>[.ptr 0 0,i64 x.t,x.f.av k 1 gY],k:=2,os:=λx=>[al2,.abs (tabA x.a.L)],pre:=λx=>Hd (x.f.key.size<1099511627776/\x.f.pos.size<1099511627776/\(k=3->x.miss->x.f.line<0)),outs:=[
 {Y:=ZLnk,post:=λx y=>Hd (x.goes y),ret:=λx y=>{x.f with pos:=y.key,past:=true}.av k 1 gY,m:=2,os:=λx _=>[al2,.abs (tabA x.a.L)]},
 {Y:=ZLnk,post:=λx y=>Hd (x.hit y),ret:=λx y=>{x.f with had:=true,old:=y,piece:=if k=1 then 0 else x.f.piece}.av k (nx3 x.f k true) gY,m:=2,os:=λx _=>[al2,.abs (tabA x.a.L)]},
 {Y:=Unit,post:=λx _=>Hd x.miss,ret:=λx _=>{x.f with had:=false,old:=iI}.av k (nx3 x.f k false) gY,m:=2,os:=λx _=>[al2,.abs (tabA x.a.L)]}]}
noncomputable def apX:jf:=Em++[(199,ctrT OX.ctr),(45,ctrT aho)]
noncomputable def apY:jf:=Em++[(183,ctrT Eo),(182,ctrT nextK.C),(65,ctrT ae2.ctr)]
noncomputable def ar5:jf:=Em++[(201,apb),(202,ctrT ae1.ctr)]
noncomputable def apZ:jf:=Em++[(113,agt),(121,ctrT ar4),(181,ctrT afg.ctr)]
noncomputable def al3(k:Int)(had:Bool):jf:=Em++[(162,ctrT (alV k had).ctr)]
noncomputable def al4(k:Int)(had:Bool):jf:=Em++[(162,ctrT (yj k had)),(45,ctrT aho)]
def AX(a:ZSto):Prop:=ordA a.L=ordA a.L/\ownM a.l.os=ownM a.l.os/\(Nat.beq a.n 0=Nat.beq a.n 0/\a.n=a.n/\ ∀q:Nat,q<a.n->[Value.int .i64 (ZEff.kind (a.e q)),Value.string (ZEff.key (a.e q)),Value.string (ZEff.value (a.e q)),Value.int .u64 (ZEff.id (a.e q)),Value.int .u64 (ZEff.ver (a.e q)),Value.int .u64 (ZEff.epoch (a.e q)),Value.int .i64 (ZEff.group (a.e q))]=[Value.int .i64 (ZEff.kind (a.e q)),Value.string (ZEff.key (a.e q)),Value.string (ZEff.value (a.e q)),Value.int .u64 (ZEff.id (a.e q)),Value.int .u64 (ZEff.ver (a.e q)),Value.int .u64 (ZEff.epoch (a.e q)),Value.int .i64 (ZEff.group (a.e q))])/\True
def Ij(a:ZSto):Prop:=ownM a.b.os=ownM a.b.os/\tabA a.L=tabA a.L/\AX a
def pV:Prop:=0=0/\(1:Int)=1/\(0:Int)=0/\(0:Int)=0/\True
def bG(a:Int):Prop:=a=a
def iQ(a:ZSto):Prop:=0=0/\0=0/\0=0/\0=0/\0=0/\0=0/\0=0/\0=0/\bG a.id/\bG a.ver/\(Nat.beq a.n 0=Nat.beq a.n 0/\a.n=a.n)/\True
def rP(a:ZPw)(b:lN):Prop:=iQ a.a/\pV/\ownM a.d'.os=ownM (DevM.os (b.d.store b.k b.a b.b.n (λ(q:Nat)=>b.b.g (b.b.q+q))))/\ownM a.a.p.os=ownM a.a.p.os/\ownM a.a.r.os=ownM a.a.r.os/\ownM (ZCk.os (ZSto.ck (a.a.Fz a.d')))=ownM a.a.ck.os/\Ij a.a
def dV:Prop:=Value.slice none 0 0=Value.slice none 0 0
def iZ(a:Int):Prop:=dV/\dV/\bG a/\True
def bW(a:ByteArray):Prop:=a=a
def kW(a:ZFp):Prop:=(0:Int)=0/\dV/\bG a.code/\a.found=a.found/\bW a.ans/\iZ a.aep
def jv(a:ZFp):Prop:=dV/\kW a
def zI(a:ZPr):Prop:=64*a.p=64*a.p/\ ∀q:Nat,q<64*a.p->[Value.int .u8 (a.b.enc q)]=[Value.int .u8 (a.b.enc q)]
def rQ(a:Nat):Prop:=(a:Int)+1=(a:Int)+1
def fV(a:Nat):Prop:=(a:Int)=(a:Int)
def zJ(a:ZPr):Prop:=true=a.f.found/\a.b.value=a.f.ans/\iZ a.f.aep
def mZ(a:ZSto)(b:DevM):Prop:=pV/\ownM a.d.os=ownM b.os/\ownM a.p.os=ownM a.p.os/\ownM a.r.os=ownM a.r.os/\ownM a.ck.os=ownM a.ck.os/\Ij a
def EO(a:ZPr):Prop:=Hd ((a.p:Int)+1≠spn a.b.cls)
def Lj(a:ZPr)(b:DevM):Prop:=(∃y_2:Unit,EO a/\False)\/ ∃y_2:Unit,Hd ((a.p:Int)+1=spn a.b.cls)/\((1:Int)=1/\bW a.f.key/\bW a.f.value/\bW a.f.to/\dV/\(6:Int)=6/\bG a.f.epoch/\bW a.f.pos/\a.f.past=a.f.past/\(0:Int)=0/\true=true/\bW a.b.key/\bG a.b.id/\bG a.b.ver/\fV a.ln/\bG a.b.cls/\bG a.f.line/\bG a.f.cls/\rQ a.p/\dV/\(0:Int)=0/\dV/\a.f.code=6/\zJ a)/\iQ a.a/\zI a/\mZ a.a b
def Wj(a:ZPw)(b:lN):Prop:=Hd ((a.p:Int)+1≠spn a.c)/\((2:Int)=2/\bW a.f.key/\bW a.f.value/\bW a.f.to/\dV/\(4:Int)=4/\bG a.f.epoch/\bW a.f.pos/\a.f.past=a.f.past/\(0:Int)=0/\a.f.had=a.f.had/\bW a.f.old.key/\bG a.f.old.id/\bG a.f.old.ver/\bG a.f.old.line/\bG a.f.old.cls/\fV a.ln/\bG a.c/\rQ a.p/\jv a.f)/\rP a b
def Wn(a:ZPw)(b:lN):Prop:=Hd ((a.p:Int)+1≠spn a.c)/\((2:Int)=2/\bW a.f.key/\bW a.f.value/\bW a.f.to/\dV/\(4:Int)=5/\bG a.f.epoch/\bW a.f.pos/\a.f.past=a.f.past/\(0:Int)=0/\a.f.had=a.f.had/\bW a.f.old.key/\bG a.f.old.id/\bG a.f.old.ver/\bG a.f.old.line/\bG a.f.old.cls/\fV a.ln/\bG a.c/\(a.p:Int)+1=0/\jv a.f)/\rP a b
def Wp(a:ZPw)(b:lN):Prop:=Hd ((a.p:Int)+1=spn a.c)/\((2:Int)=2/\bW a.f.key/\bW a.f.value/\bW a.f.to/\dV/\(5:Int)=4/\bG a.f.epoch/\bW a.f.pos/\a.f.past=a.f.past/\(0:Int)=0/\a.f.had=a.f.had/\bW a.f.old.key/\bG a.f.old.id/\bG a.f.old.ver/\bG a.f.old.line/\bG a.f.old.cls/\fV a.ln/\bG a.c/\0=(a.p:Int)+1/\jv a.f)/\rP a b
def EP(a:ZPw):Prop:=bW a.f.key/\bW a.f.value/\bW a.f.to/\dV/\(5:Int)=5/\bG a.f.epoch/\bW a.f.pos/\a.f.past=a.f.past/\(0:Int)=0/\a.f.had=a.f.had/\bW a.f.old.key/\bG a.f.old.id/\bG a.f.old.ver/\bG a.f.old.line/\bG a.f.old.cls/\fV a.ln/\bG a.c/\(0:Int)=0/\jv a.f
def Wq(a:ZPw)(b:lN):Prop:= ∀y:Unit,True->I64 ((a.p:Int)+1)/\True/\I64 ((a.p:Int)+1)/\cP (BEq.beq ((a.p:Int)+1) (spn a.c)) ((∃y_1:Unit,Wn a b)\/ ∃y_1:Unit,Hd ((a.p:Int)+1=spn a.c)/\((2:Int)=2/\EP a)/\rP a b) ((∃y_1:Unit,Wj a b)\/ ∃y_1:Unit,Wp a b)
def Ll(a:ZPr)(b:DevM):Prop:=(∃y_2:Unit,Hd ((1:Int)≠spn a.b.cls)/\False)\/ ∃y_2:Unit,Hd (1=spn a.b.cls)/\((1:Int)=1/\bW a.f.key/\bW a.f.value/\bW a.f.to/\dV/\(6:Int)=6/\bG a.f.epoch/\bW a.f.pos/\a.f.past=a.f.past/\(0:Int)=0/\true=true/\bW a.b.key/\bG a.b.id/\bG a.b.ver/\fV a.ln/\bG a.b.cls/\bG a.f.line/\bG a.f.cls/\(1:Int)=1/\dV/\(0:Int)=0/\dV/\a.f.code=6/\zJ a)/\iQ a.a/\mZ a.a b
def zK(a:ZPt)(b:ZPp):Prop:=a.x.old.key=b.f.old.key/\a.x.old.id=b.f.old.id/\a.x.old.ver=b.f.old.ver/\a.x.old.line=b.f.old.line/\a.x.old.cls=b.f.old.cls/\(a.ln:Int)=(b.ln:Int)/\a.x.cls=b.f.cls/\True
def Ws(a:ZDm)(b:ZPr)(c:DevM):Prop:= ∀y_1:Unit,True->cP (BEq.beq a.id b.b.id) (cP (BEq.beq a.ver b.b.ver) (cP (Bool.not (BEq.beq (ByteArray.toList a.key) (ByteArray.toList b.b.key))) (Lj b c) ((∃y_2:Unit,EO b/\False)\/ ∃y_2:Unit,Hd ((b.p:Int)+1=spn b.b.cls)/\((1:Int)=1/\bW b.f.key/\bW b.f.value/\bW b.f.to/\dV/\(6:Int)=6/\bG b.f.epoch/\bW b.f.pos/\b.f.past=b.f.past/\(0:Int)=0/\true=true/\bW b.b.key/\bG b.b.id/\bG b.b.ver/\fV b.ln/\bG b.b.cls/\bG b.f.line/\bG b.f.cls/\rQ b.p/\dV/\(0:Int)=0/\dV/\bG b.f.code/\true=true/\b.b.value=a.value/\iZ b.f.aep)/\iQ b.a/\zI b/\mZ b.a c)) (Lj b c)) (Lj b c)
def Wu(a:ZSto)(b:ZCk)(c:Lks):Prop:=iQ a/\pV/\ownM a.d.os=ownM a.d.os/\ownM a.p.os=ownM a.p.os/\ownM a.r.os=ownM a.r.os/\ownM a.ck.os=ownM b.os/\ownM a.b.os=ownM a.b.os/\tabA a.L=tabA c/\AX a
def Wv(a:ZPp)(b:Int):Prop:=bW a.f.key/\bW a.f.value/\bW a.f.to/\dV/\(1:Int)=1/\a.a.c.now=b/\emp=ByteArray.mk #[]/\false=false/\(0:Int)=0/\false=false/\ByteArray.mk #[]=ByteArray.mk #[]/\(0:Int)=0/\(0:Int)=0/\(0:Int)=0/\(0:Int)=0/\fV a.ln/\bG a.f.cls/\bG a.f.piece/\jv a.f
def Lm(a:ZSto)(b:ZPp):Prop:= ∀y:Unit,True->True/\ ∃x_2:ZCk,Hd (x_2.ph<=4/\x_2.c.ok)/\(0=0/\True)/\(ownM x_2.os=ownM a.ck.os/\True)/\ ∀y_1:Unit,True-> ∃y_2:Unit,True/\((2:Int)=2/\Wv b x_2.c.now)/\Wu b.a x_2 a.L
def kX(a:Nat):Prop:=AV.lit (Value.int .i64 (a:Int))=AV.lit (Value.int .i64 (a:Int))
def rU(a:ZPp):Prop:=AV.lit (Value.int .u64 a.f.epoch)=AV.lit (Value.int .u64 a.f.epoch)/\kX a.t/\AV.ptr 0 0=AV.ptr 0 0/\True
def Lp(a:ZFp):Prop:=bW a.key/\bW a.value/\bW a.to/\dV/\(7:Int)=7/\bG a.epoch/\bW a.pos/\a.past=a.past/\(0:Int)=0/\a.had=a.had/\bW a.old.key/\bG a.old.id/\bG a.old.ver/\bG a.old.line/\bG a.old.cls/\bG a.line/\bG a.cls/\bG a.piece/\jv a
def Wx(a:ZPr)(b:DevM):Prop:= ∃y_1:Unit,Hd ((a.p:Int)+1=spn a.b.cls)/\((1:Int)=1/\bW a.f.key/\bW a.f.value/\bW a.f.to/\dV/\(6:Int)=2/\bG a.f.epoch/\bW a.f.pos/\a.f.past=a.f.past/\(0:Int)=0/\true=true/\bW a.b.key/\bG a.b.id/\bG a.b.ver/\fV a.ln/\bG a.b.cls/\bG a.f.line/\bG a.f.cls/\rQ a.p/\False/\(0:Int)=0/\dV/\bG a.f.code/\zJ a)/\iQ a.a/\zI a/\mZ a.a b
def ahE(a:ZFp):Prop:=bW a.key/\bW a.value/\bW a.to/\dV/\(6:Int)=6/\bG a.epoch/\bW a.pos/\a.past=a.past/\(0:Int)=0/\true=true/\bW a.old.key/\bG a.old.id/\bG a.old.ver/\bG a.old.line/\bG a.old.cls/\(-(1:Int))=(-(1:Int))/\bG a.cls/\bG a.piece/\dV/\(0:Int)=0/\dV/\bG a.code/\true=true/\bW a.ans/\iZ a.epoch
def Lr(a:lN)(b:DevM)(c:Int):Prop:=ownM a.d.os=ownM b.os/\(a.b.N=64/\ ∀q:Nat,q<a.b.N->[Value.int .u8 (a.b.g q)]=[Value.int .u8 (ZBlk.jF (ZBlk.mk c (0:Int) (0:Int) (0:Int) (0:Int) (ByteArray.mk #[]) (ByteArray.mk #[])) (λ(x_3:Nat)=>(0:Int)) (Int.toNat (cpc c)) q)])/\True
def Wy(a:ZPw)(b:Nat):Prop:=(Nat.beq (List.length [Value.int .u8 (dY (ByteArray.extract (a.f.key++a.f.value) (Int.toNat (Cj (imax (28+((a.p:Int)-1)*63) (0:Int)) ((ByteArray.size (a.f.key++a.f.value):Nat):Int))) (ByteArray.size (a.f.key++a.f.value))) b)]) 1&&List.all [Value.int .u8 (dY (ByteArray.extract (a.f.key++a.f.value) (Int.toNat (Cj (imax (28+((a.p:Int)-1)*63) (0:Int)) ((ByteArray.size (a.f.key++a.f.value):Nat):Int))) (ByteArray.size (a.f.key++a.f.value))) b)] Value.oneCell')=true
def ahF(a:ZPw):Prop:=bW a.f.key/\bW a.f.value/\bW a.f.to/\dV/\(4:Int)=4/\bG a.f.epoch/\bW a.f.pos/\a.f.past=a.f.past/\(0:Int)=0/\a.f.had=a.f.had/\bW a.f.old.key/\bG a.f.old.id/\bG a.f.old.ver/\bG a.f.old.line/\bG a.f.old.cls/\fV a.ln/\bG a.c/\1=(0:Int)+1/\jv a.f
def ahG(a:ZPw):Prop:=bW a.f.key/\bW a.f.value/\bW a.f.to/\dV/\(5:Int)=4/\bG a.f.epoch/\bW a.f.pos/\a.f.past=a.f.past/\(0:Int)=0/\a.f.had=a.f.had/\bW a.f.old.key/\bG a.f.old.id/\bG a.f.old.ver/\bG a.f.old.line/\bG a.f.old.cls/\fV a.ln/\bG a.c/\0=(0:Int)+1/\jv a.f
def rV(a:ZPt)(b:ZPp):Prop:=0=0/\(a.t:Int)=(b.t:Int)/\a.e=b.f.epoch/\(0=0/\1=1/\1=1)/\True
def ahH(a:ZPw):Prop:=bW a.f.key/\bW a.f.value/\bW a.f.to/\dV/\(4:Int)=5/\bG a.f.epoch/\bW a.f.pos/\a.f.past=a.f.past/\(0:Int)=0/\a.f.had=a.f.had/\bW a.f.old.key/\bG a.f.old.id/\bG a.f.old.ver/\bG a.f.old.line/\bG a.f.old.cls/\fV a.ln/\bG a.c/\(1:Int)=0/\jv a.f
def ER(a:ZDm):Prop:=Hd (a.b.may/\a.key.size<1099511627776/\a.value.size<1099511627776/\ ∀k:Nat,k<64*a.b.dK->a.g k=a.b.enc k)
def zL(a:lN):Prop:=Hd (a.d.ok/\a.k<a.d.n/\a.b.ok/\a.a+a.b.n<=64)
def Ls:Prop:=True/\True/\True/\0=0/\True/\0=0/\True/\True/\True/\True/\True/\True
def ES(a:lN):Prop:=(a.a:Int)=0/\(a.b.q=0/\a.b.n=64)/\True
def Lu(a:ZPt)(b:ZPp):Prop:=a.x.key=b.f.key/\a.x.value=b.f.value/\true=true/\zK a b
def LC(a:lN)(b:Nat):Prop:=0=0/\(a.k:Int)=(b:Int)/\ES a
def rW:Prop:=(0:Int)<=5/\(0:Int)<=1
def LD(a:ZDm)(b:Tz):Prop:=(64*a.b.dK=64/\ ∀q:Nat,q<64*a.b.dK->[Value.int .u8 (a.g q)]=[Value.int .u8 (b.d.b (b.k*193+(0+(q-0))))])/\True
def LG(a:ZPt)(b:ZPp):Prop:=((2:Int)=2/\a.x.key=b.f.key/\a.x.value=b.f.value/\false=false/\zK a b)/\True
def ahI(x:ZPw):Prop:=
 ((0:Int)<=4/\(0:Int)<=2)/\ ∃x_1:Int,Hd (0<=x_1/\x_1<=3)/\(x_1=x.c/\True)/\True/\ ∀y:Unit,True-> ∃x_2:lN,zL x_2/\LC x_2 x.ln/\Lr x_2 x.a.d x_1/\ ∀y_1:Unit,True->I64 (1:Int)/\True/\I64 ((0:Int)+1)/\cP (BEq.beq (1:Int) (spn x.c)) ((∃y_2:Unit,Hd ((1:Int)≠spn x.c)/\((2:Int)=2/\ahH x)/\rP x x_2)\/ ∃y_2:Unit,Hd (1=spn x.c)/\((2:Int)=2/\EP x)/\rP x x_2) ((∃y_2:Unit,Hd ((1:Int)≠spn x.c)/\((2:Int)=2/\ahF x)/\rP x x_2)\/ ∃y_2:Unit,Hd (1=spn x.c)/\((2:Int)=2/\ahG x)/\rP x x_2)
theorem ahJ(x:ZPw):ahI x=wpF Tryz.prog apc tt (noA x) 200 6 34 ((EM 2).args x) (hO 11 (flatP 1 ((EM 2).l x))) (λv h'=>endsPK 1 x v h' (EM 2).outs):=by kernel_rfl
def ap0(x:ZPw):Prop:=
 ((0:Int)<=4/\(0:Int)<=2)/\cP (BEq.beq (x.p:Int) (0:Int)) (∃x_1:Int,Hd (0<=x_1/\x_1<=3)/\(x_1=x.c/\True)/\True/\ ∀y:Unit,True-> ∃x_2:lN,zL x_2/\LC x_2 x.ln/\Lr x_2 x.a.d x_1/\ ∀y_1:Unit,True->I64 ((x.p:Int)+1)/\True/\I64 ((x.p:Int)+1)/\cP (BEq.beq ((x.p:Int)+1) (spn x.c)) ((∃y_2:Unit,Wn x x_2)\/ ∃y_2:Unit,Hd ((x.p:Int)+1=spn x.c)/\((2:Int)=2/\EP x)/\rP x x_2) ((∃y_2:Unit,Wj x x_2)\/ ∃y_2:Unit,Wp x x_2)) (((0:Int)<=64/\(0:Int)<=0/\(0:Int)<=281474976710592/\(0:Int)<=4611686018427387839)/\((0:Int)<=0/\(0:Int)<=63)/\0<64/\((x.f.key.size+x.f.value.size:Nat):Int)<=9223372036854775807/\I64 ((x.p:Int)-1)/\I64 (((x.p:Int)-1)*63)/\I64 (28+((x.p:Int)-1)*63)/\(0:Int)<=1/\(1<=64/\64<=64/\64<=64)/\0<=Cj (imax (28+((x.p:Int)-1)*63) (0:Int)) ((ByteArray.size (x.f.key++x.f.value):Nat):Int)/\(Int.toNat (Cj (imax (28+((x.p:Int)-1)*63) (0:Int)) ((ByteArray.size (x.f.key++x.f.value):Nat):Int))<=ByteArray.size (x.f.key++x.f.value)/\ByteArray.size (x.f.key++x.f.value)<=ByteArray.size (x.f.key++x.f.value)/\ByteArray.size (x.f.key++x.f.value)<=ByteArray.size (x.f.key++x.f.value))/\64<=64/\
 cP (Nat.ble (ByteArray.size (ByteArray.extract (x.f.key++x.f.value) (Int.toNat (Cj (imax (28+((x.p:Int)-1)*63) (0:Int)) ((ByteArray.size (x.f.key++x.f.value):Nat):Int))) (ByteArray.size (x.f.key++x.f.value)))) 63) ((∀k:Nat,k<ByteArray.size (ByteArray.extract (x.f.key++x.f.value) (Int.toNat (Cj (imax (28+((x.p:Int)-1)*63) (0:Int)) ((ByteArray.size (x.f.key++x.f.value):Nat):Int))) (ByteArray.size (x.f.key++x.f.value)))->Wy x k)/\True/\I64 ((x.ln:Int)+(x.p:Int))/\ ∃x_1:lN,zL x_1/\(0=0/\(x_1.k:Int)=(x.ln:Int)+(x.p:Int)/\ES x_1)/\(ownM x_1.d.os=ownM x.a.d.os/\(x_1.b.N=64/\ ∀q:Nat,q<x_1.b.N->[Value.int .u8 (x_1.b.g q)]=Cs.eff (λ(p:Nat)=>cond (Nat.ble 1 p&&Nat.blt p (1+ByteArray.size (ByteArray.extract (x.f.key++x.f.value) (Int.toNat (Cj (imax (28+((x.p:Int)-1)*63) (0:Int)) ((ByteArray.size (x.f.key++x.f.value):Nat):Int))) (ByteArray.size (x.f.key++x.f.value))))) [Value.int .u8 (dY (ByteArray.extract (x.f.key++x.f.value) (Int.toNat (Cj (imax (28+((x.p:Int)-1)*63) (0:Int)) ((ByteArray.size (x.f.key++x.f.value):Nat):Int))) (ByteArray.size (x.f.key++x.f.value))) (p-1))] (Cs.eff (λ(x_2:Nat)=>[Value.int .u8 0]) [(0,[Value.int .u8 2])] p)) [] q)/\True)/\Wq x x_1) ((∀k:Nat,k<63->Wy x k)/\True/\I64 ((x.ln:Int)+(x.p:Int))/\ ∃x_1:lN,zL x_1/\(0=0/\(x_1.k:Int)=(x.ln:Int)+(x.p:Int)/\ES x_1)/\(ownM x_1.d.os=ownM x.a.d.os/\(x_1.b.N=64/\
 ∀q:Nat,q<x_1.b.N->[Value.int .u8 (x_1.b.g q)]=Cs.eff (λ(p:Nat)=>cond (Nat.ble 1 p&&Nat.blt p 64) [Value.int .u8 (dY (ByteArray.extract (x.f.key++x.f.value) (Int.toNat (Cj (imax (28+((x.p:Int)-1)*63) (0:Int)) ((ByteArray.size (x.f.key++x.f.value):Nat):Int))) (ByteArray.size (x.f.key++x.f.value))) (p-1))] (Cs.eff (λ(x_2:Nat)=>[Value.int .u8 0]) [(0,[Value.int .u8 2])] p)) [] q)/\True)/\Wq x x_1))
theorem al5(x:ZPw):ap0 x=wpF Tryz.prog apc tt (noA x) 200 6 34 ((EN).args x) (hO 11 (flatP 1 ((EN).l x))) (λv h'=>endsPK 1 x v h' (EN).outs):=by kernel_rfl
def ahK(x:ZPr):Prop:=
 ((0:Int)<=2/\(0:Int)<=4)/\I64 ((x.ln:Int)+0)/\(AV.lit (Value.int .i64 0)=AV.lit (Value.int .i64 0)/\kX x.ln/\True)/\ ∃x_1:Tz,Hd (x_1.d.ok/\x_1.k<x_1.d.n)/\(0=0/\(x_1.k:Int)=(x.ln:Int)+0/\True)/\(ownM x_1.d.os=ownM x.a.d.os/\True)/\ ∀y:Unit,True->True/\64<=64/\(2*(0+64)+1000)*1<=281474976710656/\I64 (1:Int)/\(AV.lit (Value.int .i64 1)=AV.lit (Value.int .i64 1)/\True)/\cP (Bool.not (BEq.beq (1:Int) (spn x.b.cls))) ((∃y_1:Unit,Hd ((1:Int)≠spn x.b.cls)/\((1:Int)=1/\bW x.f.key/\bW x.f.value/\bW x.f.to/\dV/\(2:Int)=2/\bG x.f.epoch/\bW x.f.pos/\x.f.past=x.f.past/\(0:Int)=0/\true=true/\bW x.b.key/\bG x.b.id/\bG x.b.ver/\fV x.ln/\bG x.b.cls/\bG x.f.line/\bG x.f.cls/\(1:Int)=1/\(0=0/\64=64)/\kW x.f)/\iQ x.a/\(64=64/\ ∀q:Nat,q<64->[Value.int .u8 (x.b.enc q)]=[Value.int .u8 (x_1.d.b (x_1.k*193+(0+(q-0))))])/\mZ x.a x_1.d)\/ ∃y_1:Unit,Hd (1=spn x.b.cls)/\((1:Int)=1/\bW x.f.key/\bW x.f.value/\bW x.f.to/\dV/\(6:Int)=2/\bG x.f.epoch/\bW x.f.pos/\x.f.past=x.f.past/\(0:Int)=0/\true=true/\bW x.b.key/\bG x.b.id/\bG x.b.ver/\fV x.ln/\bG x.b.cls/\bG x.f.line/\bG x.f.cls/\(1:Int)=1/\False/\(0:Int)=0/\dV/\bG x.f.code/\zJ x)/\iQ x.a/\mZ x.a x_1.d) (∃x_2:ZDm,ER x_2/\((0=0/\64*x_2.b.dK=64)/\True)/\LD x_2 x_1/\
 ∀y_1:Unit,True->cP (BEq.beq x_2.id x.b.id) (cP (BEq.beq x_2.ver x.b.ver) (cP (Bool.not (BEq.beq (ByteArray.toList x_2.key) (ByteArray.toList x.b.key))) (Ll x x_1.d) ((∃y_2:Unit,Hd ((1:Int)≠spn x.b.cls)/\False)\/ ∃y_2:Unit,Hd (1=spn x.b.cls)/\((1:Int)=1/\bW x.f.key/\bW x.f.value/\bW x.f.to/\dV/\(6:Int)=6/\bG x.f.epoch/\bW x.f.pos/\x.f.past=x.f.past/\(0:Int)=0/\true=true/\bW x.b.key/\bG x.b.id/\bG x.b.ver/\fV x.ln/\bG x.b.cls/\bG x.f.line/\bG x.f.cls/\(1:Int)=1/\dV/\(0:Int)=0/\dV/\bG x.f.code/\true=true/\x.b.value=x_2.value/\iZ x.f.aep)/\iQ x.a/\mZ x.a x_1.d)) (Ll x x_1.d)) (Ll x x_1.d))
theorem ahL(x:ZPr):ahK x=wpF Tryz.prog apZ tt (noA x) 200 6 34 ((QZ).args x) (hO 11 (flatP 1 ((QZ).l x))) (λv h'=>endsPK 1 x v h' (QZ).outs):=by kernel_rfl
def ahM(x:ZPr):Prop:=
 0+64*x.p<=64*x.p/\cP (Nat.beq (64*x.p) 0) (((0:Int)<=2/\(0:Int)<=4)/\I64 ((x.ln:Int)+(x.p:Int))/\(kX x.p/\kX x.ln/\True)/\ ∃x_1:Tz,Hd (x_1.d.ok/\x_1.k<x_1.d.n)/\(0=0/\(x_1.k:Int)=(x.ln:Int)+(x.p:Int)/\True)/\(ownM x_1.d.os=ownM x.a.d.os/\True)/\ ∀y:Unit,True->True/\64<=64/\(2*(0+64)+1000)*1<=281474976710656/\I64 ((x.p:Int)+1)/\(AV.lit (Value.int .i64 ((x.p:Int)+1))=AV.lit (Value.int .i64 ((x.p:Int)+1))/\True)/\cP (Bool.not (BEq.beq ((x.p:Int)+1) (spn x.b.cls))) ((∃y_1:Unit,EO x/\((1:Int)=1/\bW x.f.key/\bW x.f.value/\bW x.f.to/\dV/\(2:Int)=2/\bG x.f.epoch/\bW x.f.pos/\x.f.past=x.f.past/\(0:Int)=0/\true=true/\bW x.b.key/\bG x.b.id/\bG x.b.ver/\fV x.ln/\bG x.b.cls/\bG x.f.line/\bG x.f.cls/\rQ x.p/\(0=0/\64*(x.p+1)=64)/\kW x.f)/\iQ x.a/\zI x/\(64*(x.p+1)=64/\ ∀q:Nat,q<64*(x.p+1)->[Value.int .u8 (x.b.enc q)]=[Value.int .u8 (x_1.d.b (x_1.k*193+(0+(q-0))))])/\mZ x.a x_1.d)\/Wx x x_1.d) (∃x_2:ZDm,ER x_2/\((0=0/\64*x_2.b.dK=64)/\True)/\LD x_2 x_1/\Ws x_2 x x_1.d)) ((2*(0+64*x.p)+1000)*1<=281474976710656/\((0:Int)<=2/\(0:Int)<=4)/\I64 ((x.ln:Int)+(x.p:Int))/\(kX x.p/\kX x.ln/\True)/\ ∃x_1:Tz,Hd (x_1.d.ok/\x_1.k<x_1.d.n)/\(0=0/\(x_1.k:Int)=(x.ln:Int)+(x.p:Int)/\True)/\(ownM x_1.d.os=ownM x.a.d.os/\True)/\ ∀y:Unit,True->True/\0+64*x.p=0+64*x.p/\64<=64/\
 (∀k:Nat,k<64->(Nat.beq (List.length [Value.int .u8 (x_1.d.b (x_1.k*193+(0+k)))]) 1&&List.all [Value.int .u8 (x_1.d.b (x_1.k*193+(0+k)))] Value.oneCell')=true)/\(2*(0+64*x.p+64)+1000)*1<=281474976710656/\I64 ((x.p:Int)+1)/\(AV.lit (Value.int .i64 ((x.p:Int)+1))=AV.lit (Value.int .i64 ((x.p:Int)+1))/\True)/\cP (Bool.not (BEq.beq ((x.p:Int)+1) (spn x.b.cls))) ((∃y_1:Unit,EO x/\((1:Int)=1/\bW x.f.key/\bW x.f.value/\bW x.f.to/\dV/\(2:Int)=2/\bG x.f.epoch/\bW x.f.pos/\x.f.past=x.f.past/\(0:Int)=0/\true=true/\bW x.b.key/\bG x.b.id/\bG x.b.ver/\fV x.ln/\bG x.b.cls/\bG x.f.line/\bG x.f.cls/\rQ x.p/\(0=0/\64*(x.p+1)=0+64*x.p+64)/\kW x.f)/\iQ x.a/\zI x/\(64*(x.p+1)=0+64*x.p+64/\ ∀q:Nat,q<64*(x.p+1)->[Value.int .u8 (x.b.enc q)]=Cs.eff (λ(q_1:Nat)=>cond (Nat.blt q_1 (0+64*x.p)) [Value.int .u8 (x.b.enc (0+(q_1-0)))] [Value.int .u8 (x_1.d.b (x_1.k*193+(0+(q_1-(0+64*x.p)))))]) [] q)/\mZ x.a x_1.d)\/Wx x x_1.d) (∃x_2:ZDm,ER x_2/\((0=0/\64*x_2.b.dK=0+64*x.p+64)/\True)/\((64*x_2.b.dK=0+64*x.p+64/\ ∀q:Nat,q<64*x_2.b.dK->[Value.int .u8 (x_2.g q)]=Cs.eff (λ(q_1:Nat)=>cond (Nat.blt q_1 (0+64*x.p)) [Value.int .u8 (x.b.enc (0+(q_1-0)))] [Value.int .u8 (x_1.d.b (x_1.k*193+(0+(q_1-(0+64*x.p)))))]) [] q)/\True)/\Ws x_2 x x_1.d))
theorem ahN(x:ZPr):ahM x=wpF Tryz.prog apZ tt (noA x) 200 6 34 ((Zw).args x) (hO 12 (flatP 2 ((Zw).l x))) (λv h'=>endsPK 2 x v h' (Zw).outs):=by kernel_rfl
def WA(x:ZPp):Prop:=
 rW/\rU x/\ ∃x_1:ZPt,Hd (x_1.ok (2:Int) false)/\rV x_1 x/\(ownM x_1.a.os=ownM x.a.os/\LG x_1 x)/\ ∀y:Unit,True->True/\((0:Int)<=0/\(0:Int)<=0)/\0<1/\True/\True/\True/\True/\ ∃y_1:Unit,True/\((2:Int)=2/\bW x.f.key/\bW x.f.value/\bW x.f.to/\dV/\(6:Int)=6/\bG x.f.epoch/\bW x.f.pos/\x.f.past=x.f.past/\(0:Int)=0/\false=false/\bW x.f.old.key/\bG x.f.old.id/\bG x.f.old.ver/\bG x.f.old.line/\bG x.f.old.cls/\(-(1:Int))=(-(1:Int))/\bG x.f.cls/\bG x.f.piece/\dV/\(0:Int)=0/\dV/\bG x.f.code/\false=false/\bW x.f.ans/\iZ x.f.epoch)/\ownM (ZSto.os (ZCg.res (ZPt.cg (x.pt (2:Int))) (2:Int) false))=ownM (ZSto.os (x_1.cg.res (2:Int) false))/\True
theorem ab8(x:ZPp):WA x=wpF Tryz.prog (al3 2 false) tt (noA x) 200 6 34 ((Le 2 false).args x) (hO 1 ((Le 2 false).os x)) (λv h'=>eX 1 x v h' (Le 2 false).outs):=by kernel_rfl
def WB(x:ZPp):Prop:=
 rW/\rU x/\ ∃x_1:ZPt,Hd (x_1.bad false)/\rV x_1 x/\(Ls/\ownM x_1.a.ck.os=ownM x.a.ck.os/\tabA x_1.a.L=tabA x.a.L/\LG x_1 x)/\Lm x_1.a x
theorem ab9(x:ZPp):WB x=wpF Tryz.prog (al4 2 false) tt (noA x) 200 6 34 ((Lh 2 false).args x) (hO 11 (flatP 1 ((Lh 2 false).l x))) (λv h'=>endsPK 1 x v h' (Lh 2 false).outs):=by kernel_rfl
def WC(x:ZPp):Prop:=
 rW/\rU x/\ ∃x_1:ZPt,Hd (x_1.ok (2:Int) true)/\rV x_1 x/\(ownM x_1.a.os=ownM x.a.os/\((2:Int)=2/\Lu x_1 x)/\True)/\ ∀y:Unit,True->True/\((0:Int)<=0/\(0:Int)<=0)/\0<1/\True/\True/\True/\True/\ ∃y_1:Unit,True/\((2:Int)=2/\ahE x.f)/\ownM (ZSto.os (ZCg.res (ZPt.cg (x.pt (2:Int))) (2:Int) true))=ownM (ZSto.os (x_1.cg.res (2:Int) true))/\True
theorem acd(x:ZPp):WC x=wpF Tryz.prog (al3 2 true) tt (noA x) 200 6 34 ((Le 2 true).args x) (hO 1 ((Le 2 true).os x)) (λv h'=>eX 1 x v h' (Le 2 true).outs):=by kernel_rfl
def WE(x:ZPp):Prop:=
 rW/\rU x/\ ∃x_1:ZPt,Hd (x_1.bad true)/\rV x_1 x/\(Ls/\ownM x_1.a.ck.os=ownM x.a.ck.os/\tabA x_1.a.L=tabA x.a.L/\((2:Int)=2/\Lu x_1 x)/\True)/\Lm x_1.a x
theorem ace(x:ZPp):WE x=wpF Tryz.prog (al4 2 true) tt (noA x) 200 6 34 ((Lh 2 true).args x) (hO 11 (flatP 1 ((Lh 2 true).l x))) (λv h'=>endsPK 1 x v h' (Lh 2 true).outs):=by kernel_rfl
def ahO(x:ZPs):Prop:=
 ∃y:Unit,True/\((1:Int)=1/\Lp x.f)/\ownM x.a.os=ownM x.a.os/\True
theorem ahP(x:ZPs):ahO x=wpF Tryz.prog Em tt (noA x) 200 6 34 ((yu 1).args x) (hO 1 ((yu 1).os x)) (λv h'=>eX 1 x v h' (yu 1).outs):=by kernel_rfl
def ahQ(x:ZPs):Prop:=
 ∃y:Unit,True/\((2:Int)=2/\Lp x.f)/\ownM x.a.os=ownM x.a.os/\True
theorem ahR(x:ZPs):ahQ x=wpF Tryz.prog Em tt (noA x) 200 6 34 ((yu 2).args x) (hO 1 ((yu 2).os x)) (λv h'=>eX 1 x v h' (yu 2).outs):=by kernel_rfl
def eH:Prop:=Value.slice none 0 0=Value.slice none 0 0
def cZ(a:ByteArray):Prop:=a=a
def rX(a:ZFp):Prop:=eH/\(0:Int)=0/\eH/\a.code=a.code/\a.found=a.found/\cZ a.ans/\eH/\eH/\a.aep=a.aep/\True
def LH(a:ZFp):Prop:=a.line=a.line/\a.cls=a.cls/\ite ((2:Int)=1) (0:Int) a.piece=a.piece/\rX a
def LJ(a:ZLnk):Prop:=AV.agg [AV.lit (Value.string a.key),AV.lit (Value.int .u64 a.id),AV.lit (Value.int .u64 a.ver),AV.lit (Value.int .i64 a.line),AV.lit (Value.int .i64 a.cls)]=AV.agg [AV.lit (Value.string a.key),AV.lit (Value.int .u64 a.id),AV.lit (Value.int .u64 a.ver),AV.lit (Value.int .i64 a.line),AV.lit (Value.int .i64 a.cls)]/\True
def rY(a:ZFp):Prop:=a.line=a.line/\a.cls=a.cls/\a.piece=a.piece/\rX a
def ET(a:ZFp):Prop:=a.epoch=a.epoch/\cZ a.pos/\a.past=a.past/\(0:Int)=0/\false=false/\ByteArray.mk #[]=ByteArray.mk #[]/\(0:Int)=0/\(0:Int)=0/\(0:Int)=0/\(0:Int)=0/\rY a
def EU(a:ZFp)(b:ByteArray):Prop:=a.epoch=a.epoch/\b=a.pos/\true=a.past/\(0:Int)=0/\a.had=false/\a.old.key=ByteArray.mk #[]/\a.old.id=0/\a.old.ver=0/\a.old.line=0/\a.old.cls=0/\rY a
def WG(a:ZFp)(b:ZLnk):Prop:=a.epoch=a.epoch/\cZ a.pos/\a.past=a.past/\(0:Int)=0/\true=false/\b.key=ByteArray.mk #[]/\b.id=0/\b.ver=0/\b.line=0/\b.cls=0/\LH a
def fA(a:Lks)(b:Lks):Prop:=(True/\True/\True/\True/\True/\0=0/\True/\True/\True/\True/\True/\True)/\tabA a=tabA b/\True
def LK(a:ZPs)(b:Lks):Prop:=cP (decide (a.f.line<0)) ((∃y_2:ZLnk,Hd (a.goes y_2)/\((2:Int)=2/\cZ a.f.key/\cZ a.f.value/\cZ a.f.to/\eH/\(1:Int)=3/\EU a.f y_2.key)/\fA a.a.L b)\/(∃y_2:ZLnk,Hd (a.hit y_2)/\((2:Int)=2/\cZ a.f.key/\cZ a.f.value/\cZ a.f.to/\eH/\nx3 a.f (2:Int) true=3/\WG a.f y_2)/\fA a.a.L b)\/ ∃y_2:Unit,Hd a.miss/\((2:Int)=2/\cZ a.f.key/\cZ a.f.value/\cZ a.f.to/\eH/\nx3 a.f (2:Int) false=3/\ET a.f)/\fA a.a.L b) ((∃y_2:ZLnk,Hd (a.goes y_2)/\((2:Int)=2/\cZ a.f.key/\cZ a.f.value/\cZ a.f.to/\eH/\(1:Int)=5/\EU a.f y_2.key)/\fA a.a.L b)\/(∃y_2:ZLnk,Hd (a.hit y_2)/\((2:Int)=2/\cZ a.f.key/\cZ a.f.value/\cZ a.f.to/\eH/\nx3 a.f (2:Int) true=5/\WG a.f y_2)/\fA a.a.L b)\/ ∃y_2:Unit,Hd a.miss/\((2:Int)=2/\cZ a.f.key/\cZ a.f.value/\cZ a.f.to/\eH/\nx3 a.f (2:Int) false=5/\ET a.f)/\fA a.a.L b)
def LM(a:ZFp)(b:ByteArray):Prop:=a.epoch=a.epoch/\a.pos=b/\a.past=true/\(0:Int)=0/\false=a.had/\ByteArray.mk #[]=a.old.key/\0=a.old.id/\0=a.old.ver/\0=a.old.line/\0=a.old.cls/\rY a
def WH(a:ZFp)(b:ByteArray)(c:ZLnk):Prop:=a.epoch=a.epoch/\b=a.pos/\true=a.past/\(0:Int)=0/\a.had=true/\a.old.key=c.key/\a.old.id=c.id/\a.old.ver=c.ver/\a.old.line=c.line/\a.old.cls=c.cls/\rY a
def WI(a:ZFp)(b:ZLnk)(c:ZLnk):Prop:=a.epoch=a.epoch/\cZ a.pos/\a.past=a.past/\(0:Int)=0/\true=true/\b.key=c.key/\b.id=c.id/\b.ver=c.ver/\b.line=c.line/\b.cls=c.cls/\LH a
def WJ(a:ZFp)(b:ZLnk):Prop:=a.epoch=a.epoch/\cZ a.pos/\a.past=a.past/\(0:Int)=0/\false=true/\ByteArray.mk #[]=b.key/\0=b.id/\0=b.ver/\0=b.line/\0=b.cls/\rY a
def LP(a:ZFp)(b:ByteArray)(c:ByteArray):Prop:=cZ a.key/\cZ a.value/\cZ a.to/\eH/\(1:Int)=1/\a.epoch=a.epoch/\b=c/\true=true/\(0:Int)=0/\a.had=a.had/\cZ a.old.key/\a.old.id=a.old.id/\a.old.ver=a.old.ver/\a.old.line=a.old.line/\a.old.cls=a.old.cls/\rY a
def ahS(a:ZLnk)(b:ZPs)(c:Lks):Prop:=True/\True/\cP (@Op.bytesLess (ByteArray.toList a.key) (ByteArray.toList b.f.key)) ((∃y_2:ZLnk,Hd (b.goes y_2)/\((2:Int)=2/\LP b.f y_2.key a.key)/\fA b.a.L c)\/(∃y_2:ZLnk,Hd (b.hit y_2)/\((2:Int)=2/\cZ b.f.key/\cZ b.f.value/\cZ b.f.to/\eH/\nx3 b.f (2:Int) true=1/\b.f.epoch=b.f.epoch/\b.f.pos=a.key/\b.f.past=true/\(0:Int)=0/\true=b.f.had/\y_2.key=b.f.old.key/\y_2.id=b.f.old.id/\y_2.ver=b.f.old.ver/\y_2.line=b.f.old.line/\y_2.cls=b.f.old.cls/\LH b.f)/\fA b.a.L c)\/ ∃y_2:Unit,Hd b.miss/\((2:Int)=2/\cZ b.f.key/\cZ b.f.value/\cZ b.f.to/\eH/\nx3 b.f (2:Int) false=1/\LM b.f a.key)/\fA b.a.L c) (cP (BEq.beq (ByteArray.toList a.key) (ByteArray.toList b.f.key)) (LJ a/\True/\cP (decide (b.f.line<0)) ((∃y_2:ZLnk,Hd (b.goes y_2)/\((2:Int)=2/\cZ b.f.key/\cZ b.f.value/\cZ b.f.to/\eH/\(1:Int)=3/\WH b.f y_2.key a)/\fA b.a.L c)\/(∃y_2:ZLnk,Hd (b.hit y_2)/\((2:Int)=2/\cZ b.f.key/\cZ b.f.value/\cZ b.f.to/\eH/\nx3 b.f (2:Int) true=3/\WI b.f y_2 a)/\fA b.a.L c)\/ ∃y_2:Unit,Hd b.miss/\((2:Int)=2/\cZ b.f.key/\cZ b.f.value/\cZ b.f.to/\eH/\nx3 b.f (2:Int) false=3/\WJ b.f a)/\fA b.a.L c) ((∃y_2:ZLnk,Hd (b.goes y_2)/\((2:Int)=2/\cZ b.f.key/\cZ b.f.value/\cZ b.f.to/\eH/\(1:Int)=5/\WH b.f y_2.key a)/\fA b.a.L c)\/(∃y_2:ZLnk,Hd (b.hit y_2)/\((2:Int)=2/\cZ b.f.key/\cZ b.f.value/\cZ b.f.to/\eH/\nx3 b.f (2:Int) true=5/\WI b.f y_2 a)/\fA b.a.L c)\/ ∃y_2:Unit,Hd b.miss/\((2:Int)=2/\
 cZ b.f.key/\cZ b.f.value/\cZ b.f.to/\eH/\nx3 b.f (2:Int) false=5/\WJ b.f a)/\fA b.a.L c)) (LK b c))
def zM(a:ZNk)(b:ByteArray)(c:ZFp):Prop:=0=0/\((bkt a.s:Nat):Int)=((bkt b:Nat):Int)/\a.pos=c.pos/\a.past=c.past/\True
def rZ(a:ByteArray):Prop:=AV.lit (Value.string a)=AV.lit (Value.string a)
def vw(a:ByteArray):Prop:=rZ a/\True
def pW(a:Bool):Prop:=AV.lit (Value.bool a)=AV.lit (Value.bool a)
def zN(a:ZNk)(b:ZLnk):Prop:=Hd (nextL a.L (bkt a.s) a.pos a.past=some b)
def zO(a:ZNk):Prop:=Hd (nextL a.L (bkt a.s) a.pos a.past= @Option.none ZLnk)
def oC(a:ByteArray):Prop:=Hd (a.size<1099511627776)
def ahT(a:ZPs)(b:ByteArray):Prop:=(pW a.f.past/\vw a.f.pos)/\ ∃x_2:ZNk,oC x_2.pos/\zM x_2 b a.f/\(tabA x_2.L=tabA a.a.L/\True)/\(∀y_1:Unit,zO x_2->True/\True/\LK a x_2.L)/\ ∀y_1:ZLnk,zN x_2 y_1->ahS y_1 a x_2.L
def WL(a:ZFp):Prop:=a.line=a.line/\a.cls=a.cls/\ite ((1:Int)=1) (0:Int) a.piece=a.piece/\rX a
def LQ(a:ZPs)(b:Lks):Prop:=(∃y_2:ZLnk,Hd (a.goes y_2)/\((1:Int)=1/\cZ a.f.key/\cZ a.f.value/\cZ a.f.to/\eH/\(1:Int)=6/\EU a.f y_2.key)/\fA a.a.L b)\/(∃y_2:ZLnk,Hd (a.hit y_2)/\((1:Int)=1/\cZ a.f.key/\cZ a.f.value/\cZ a.f.to/\eH/\nx3 a.f (1:Int) true=6/\a.f.epoch=a.f.epoch/\cZ a.f.pos/\a.f.past=a.f.past/\(0:Int)=0/\true=false/\y_2.key=ByteArray.mk #[]/\y_2.id=0/\y_2.ver=0/\y_2.line=0/\y_2.cls=0/\WL a.f)/\fA a.a.L b)\/ ∃y_2:Unit,Hd a.miss/\((1:Int)=1/\cZ a.f.key/\cZ a.f.value/\cZ a.f.to/\eH/\nx3 a.f (1:Int) false=6/\ET a.f)/\fA a.a.L b
def ahU(a:ZLnk)(b:ZPs)(c:Lks):Prop:=True/\True/\cP (@Op.bytesLess (ByteArray.toList a.key) (ByteArray.toList b.f.key)) ((∃y_2:ZLnk,Hd (b.goes y_2)/\((1:Int)=1/\LP b.f y_2.key a.key)/\fA b.a.L c)\/(∃y_2:ZLnk,Hd (b.hit y_2)/\((1:Int)=1/\cZ b.f.key/\cZ b.f.value/\cZ b.f.to/\eH/\nx3 b.f (1:Int) true=1/\b.f.epoch=b.f.epoch/\b.f.pos=a.key/\b.f.past=true/\(0:Int)=0/\true=b.f.had/\y_2.key=b.f.old.key/\y_2.id=b.f.old.id/\y_2.ver=b.f.old.ver/\y_2.line=b.f.old.line/\y_2.cls=b.f.old.cls/\WL b.f)/\fA b.a.L c)\/ ∃y_2:Unit,Hd b.miss/\((1:Int)=1/\cZ b.f.key/\cZ b.f.value/\cZ b.f.to/\eH/\nx3 b.f (1:Int) false=1/\LM b.f a.key)/\fA b.a.L c) (cP (BEq.beq (ByteArray.toList a.key) (ByteArray.toList b.f.key)) (LJ a/\True/\((∃y_2:ZLnk,Hd (b.goes y_2)/\((1:Int)=1/\cZ b.f.key/\cZ b.f.value/\cZ b.f.to/\eH/\(1:Int)=2/\b.f.epoch=b.f.epoch/\y_2.key=b.f.pos/\true=b.f.past/\(0:Int)=0/\b.f.had=true/\b.f.old.key=a.key/\b.f.old.id=a.id/\b.f.old.ver=a.ver/\b.f.old.line=a.line/\b.f.old.cls=a.cls/\b.f.line=b.f.line/\b.f.cls=b.f.cls/\b.f.piece=0/\rX b.f)/\fA b.a.L c)\/(∃y_2:ZLnk,Hd (b.hit y_2)/\((1:Int)=1/\cZ b.f.key/\cZ b.f.value/\cZ b.f.to/\eH/\nx3 b.f (1:Int) true=2/\b.f.epoch=b.f.epoch/\cZ b.f.pos/\b.f.past=b.f.past/\(0:Int)=0/\true=true/\y_2.key=a.key/\y_2.id=a.id/\y_2.ver=a.ver/\y_2.line=a.line/\y_2.cls=a.cls/\b.f.line=b.f.line/\b.f.cls=b.f.cls/\ite ((1:Int)=1) (0:Int) b.f.piece=0/\rX b.f)/\fA b.a.L c)\/ ∃y_2:Unit,Hd b.miss/\((1:Int)=1/\cZ b.f.key/\cZ b.f.value/\
 cZ b.f.to/\eH/\nx3 b.f (1:Int) false=2/\b.f.epoch=b.f.epoch/\cZ b.f.pos/\b.f.past=b.f.past/\(0:Int)=0/\false=true/\ByteArray.mk #[]=a.key/\0=a.id/\0=a.ver/\0=a.line/\0=a.cls/\b.f.line=b.f.line/\b.f.cls=b.f.cls/\b.f.piece=0/\rX b.f)/\fA b.a.L c)) (LQ b c))
def WM(a:ZPs)(b:ByteArray):Prop:=(pW a.f.past/\vw a.f.pos)/\ ∃x_2:ZNk,oC x_2.pos/\zM x_2 b a.f/\(tabA x_2.L=tabA a.a.L/\True)/\(∀y_1:Unit,zO x_2->True/\True/\LQ a x_2.L)/\ ∀y_1:ZLnk,zN x_2 y_1->ahU y_1 a x_2.L
def zQ(a:ZFp):Prop:=pW a.past/\rZ a.pos/\vw a.key
def WO(a:ZPs):Prop:=zQ a.f/\ ∃x_1:ByteArray,oC x_1/\(x_1=a.f.key/\True)/\True/\ ∀y:Unit,True->WM a x_1
def WQ(a:ZPs):Prop:=zQ a.f/\ ∃x_1:ByteArray,oC x_1/\(x_1=a.f.key/\True)/\True/\ ∀y:Unit,True->ahT a x_1
def ahV(x:ZPs):Prop:=
 ((0:Int)<=1/\(0:Int)<=5)/\(zQ x.f/\(∃x_1:ByteArray,oC x_1/\(x_1=x.f.key/\True)/\True/\ ∀y:Unit,True->(pW x.f.past/\vw x.f.pos)/\(∃x_2:ZNk,oC x_2.pos/\zM x_2 x_1 x.f/\(tabA x_2.L=tabA x.a.L/\True)/\(∀y_1:Unit,zO x_2->True/\True/\True/\LQ x x_2.L)/\ ∀y_1:ZLnk,zN x_2 y_1->True/\ahU y_1 x x_2.L)/\WM x x_1)/\WO x)/\(pW x.f.past/\rZ x.f.pos/\rZ x.f.key/\AV.ptr 0 0=AV.ptr 0 0/\True)/\WO x
theorem ahW(x:ZPs):ahV x=wpF Tryz.prog apY tt (noA x) 200 6 34 ((uw 1).args x) (hO 2 ((uw 1).os x)) (λv h'=>eX 2 x v h' (uw 1).outs):=by kernel_rfl
def ahX(x:ZPs):Prop:=
 ((0:Int)<=1/\(0:Int)<=5)/\(zQ x.f/\(∃x_1:ByteArray,oC x_1/\(x_1=x.f.key/\True)/\True/\ ∀y:Unit,True->(pW x.f.past/\vw x.f.pos)/\(∃x_2:ZNk,oC x_2.pos/\zM x_2 x_1 x.f/\(tabA x_2.L=tabA x.a.L/\True)/\(∀y_1:Unit,zO x_2->True/\True/\True/\LK x x_2.L)/\ ∀y_1:ZLnk,zN x_2 y_1->True/\ahS y_1 x x_2.L)/\ahT x x_1)/\WQ x)/\(pW x.f.past/\rZ x.f.pos/\rZ x.f.key/\AV.ptr 0 0=AV.ptr 0 0/\True)/\WQ x
theorem ahY(x:ZPs):ahX x=wpF Tryz.prog apY tt (noA x) 200 6 34 ((uw 2).args x) (hO 2 ((uw 2).os x)) (λv h'=>eX 2 x v h' (uw 2).outs):=by kernel_rfl

end Go.Proofs.YtenfleoejgjklaaGreat
end
