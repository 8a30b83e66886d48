import Derived.Test.YtenfleoejgjklaaGreatKa
import Derived.Test.YtenfleoejgjklaaGreatKb
import Derived.Test.YtenfleoejgjklaaGreatKc
import Derived.Test.YtenfleoejgjklaaGreatKd
import Derived.Test.YtenfleoejgjklaaGreatKe
import Derived.Test.YtenfleoejgjklaaGreatKf
import Derived.KernelRfl
import Derived.Shelf.SlIter.Nil
import Derived.Ground.GgzProg
import Derived.Shelf.SortM.Plain
import Derived.Shelf.SortM.SortNone
import Derived.Ground.SlgmProg
import Derived.Sort.Walk0
import Derived.Shelf.SlSortCmp.WholeK
import Derived.Shelf.Small.Strs
import Derived.Ground.SlsfProg
import Derived.Ground.NamesProg
set_option linter.unusedVariables false
set_option linter.unusedSimpArgs false
set_option linter.unnecessarySimpa false
section
namespace Go.Proofs.YtenfleoejgjklaaGreat
open Go SE
def anK(x:ZOk)(b:Nat)(had:Bool)(P1 P2:Nat->ZOd->Prop):Prop:= ∃y:ZOd,Hd (∀k,k<4->(y.V k=if k<b then fZ (x.o.V k) x.s else x.o.V k)/\(y.z k=true->y.V k=[]))/\((List.range b).any λk=>(gY (x.o.V k) x.s).isSome)=had/\(P1 0 y/\P1 1 y/\P1 2 y/\P1 3 y/\True)/\(P2 0 y/\P2 1 y/\P2 2 y/\P2 3 y/\True)
noncomputable def LH(x:ZOk)(b:Nat):Nat->Nat->Bool->(Nat->ZOd->Prop)->(Nat->ZOd->Prop)->Prop
 |0,_,had,P1,P2=>anK x b had P1 P2
 |r+1,k,had,P1,P2=>wKo k/\ ∃q:ZTq,Hd (srt q.L/\q.L.length<1099511627776)/\((0=0/\q.L.length=(x.o.V k).length)/\q.s=x.s/\True)/\((q.L.length=(x.o.V k).length/\ ∀j:Nat,j<q.L.length->(q.L.getD j iQ).cs=(nthL (x.o.V k) j).cs)/\True)/\ ∀_:Unit,True->cP (gY q.L q.s).isSome
   (wKo k/\I64 (((uX q.L q.s:Nat):Int)+1)/\ ∃v:ZDz,Hd (v.i<v.L.length/\v.L.length<=300)/\((v.z=x.o.z k/\v.L.length=(x.o.V k).length)/\(v.i:Int)=((uX q.L q.s:Nat):Int)/\(v.i:Int)+1=((uX q.L q.s:Nat):Int)+1/\True)/\((v.z=x.o.z k/\v.L.length=(x.o.V k).length/\ ∀j:Nat,j<v.L.length->(nthL v.L j).cs=(nthL (x.o.V k) j).cs)/\True)/\ ∀_:Unit,True->True/\wKo k/\True/\I64 ((k:Int)+1)/\
    LH x b r (k+1) true (anD P1 k (lvI1 k (v.L.length-1))) (anD P2 k (lvI2 k (v.L.length-1) (Jf (nthL v.L) v.i))))
   (I64 ((k:Int)+1)/\LH x b r (k+1) had P1 P2)
noncomputable def apO(b:Nat)(x:ZOk):Prop:= ∃s:ByteArray,Hd (s.size<1099511627776/\lvl s=b)/\(s=x.s/\True)/\True/\ ∀_:Unit,True->LH x b b 0 false (lvP1 x.o) (lvP2 x.o)
theorem ajk: ∀b,1<=b->b<=4-> ∀x,apO b x=wpF Tryz.prog (aso b) tt (noA x) 200 6 253 ((LD b).args x) (hO 5 (flatP 1 ((LD b).l x))) (λv h'=>endsPK 1 x v h' (LD b).outs)
 |1,_,_=>λx=>by kernel_rfl
 |2,_,_=>λx=>by kernel_rfl
 |3,_,_=>λx=>by kernel_rfl
 |4,_,_=>λx=>by kernel_rfl
 |0,h,_=>absurd h (by omega)
 |b+5,_,h=>absurd h (by omega)
def FH(x:ZOk)(b:Nat):ZOd:=⟨λk=>bif Nat.blt k b&&(gY (x.o.V k) x.s).isSome then false else x.o.z k,λk=>if k<b then fZ (x.o.V k) x.s else x.o.V k⟩
theorem rU{x:ZOk}{b:Nat}(h4:b<=4)(hg:x.o.good): ∀(r k:Nat) (had:Bool) (P1 P2:Nat->ZOd->Prop),k+r=b->((List.range k).any λk=>(gY (x.o.V k) x.s).isSome)=had->
  (∀j,j<k->P1 j (FH x b)/\P2 j (FH x b))->(∀j,k<=j->P1 j=lvP1 x.o j/\P2 j=lvP2 x.o j)->LH x b r k had P1 P2
 |0,k,had,P1,P2,e,hh,hP,hQ=>by
  obtain rfl:k=b:=by omega
  have all: ∀j,P1 j (FH x k)/\P2 j (FH x k):=λj=>by
   by_cases hj:j<k
   ·exact hP j hj
   ·obtain⟨q1,q2⟩:=hQ j (by omega)
    have g1:(FH x k).z j=x.o.z j:=by show(bif Nat.blt j k&&_ then false else x.o.z j)=_;rw[ji hj];rfl
    have g2:(FH x k).V j=x.o.V j:=if_neg hj;rw[q1,q2];exact⟨⟨g1,by rw[g2]⟩,g1,by rw[g2],λq _=>by rw[g2]⟩
  refine⟨FH x k,aZ.2 λj hj=>⟨rfl,λhz=> ?_⟩,hh,⟨(all 0).1,(all 1).1,(all 2).1,(all 3).1,trivial⟩,(all 0).2,(all 1).2,(all 2).2,(all 3).2,trivial⟩;have hz:(bif Nat.blt j k&&(gY (x.o.V j) x.s).isSome then false else x.o.z j)=true:=hz;have hz2:x.o.z j=true:=by
   cases hb:(Nat.blt j k&&(gY (x.o.V j) x.s).isSome)
   ·rw[hb]at hz;exact hz
   ·rw[hb]at hz;cases hz
  have e:=(hg j hj).2.2 hz2;show(if j<k then fZ (x.o.V j) x.s else x.o.V j)=[];rw[e];split<;>rfl
 |r+1,k,had,P1,P2,e,hh,hP,hQ=>by
  have hk:k<b:=by omega
  obtain⟨s1,s2,s3⟩:=hg k (by omega);have y2:(FH x b).V k=fZ (x.o.V k) x.s:=if_pos hk;obtain⟨q1,q2⟩:=hQ k (aY _);have hany:((List.range (k+1)).any λk=>(gY (x.o.V k) x.s).isSome)=(had||(gY (x.o.V k) x.s).isSome):=by
   rw[List.range_succ,List.any_append,hh];simp
  refine⟨asq (by omega),⟨x.o.V k,x.s⟩,aZ.2 ⟨s1,by show(x.o.V k).length<1099511627776;omega⟩,⟨⟨rfl,rfl⟩,rfl,trivial⟩,⟨⟨rfl,λ_ _=>rfl⟩,trivial⟩,λ_ _=>bf (λhf=> ?_) λhf=> ?_⟩
  ·obtain⟨f1,f2,f3⟩:=FB s1 hf
   have f1:uX (x.o.V k) x.s<(x.o.V k).length:=f1;have y1:(FH x b).z k=false:=by
    show(bif Nat.blt k b&&(gY (x.o.V k) x.s).isSome then false else x.o.z k)=false;rw[bg.2 hk,show(gY (x.o.V k) x.s).isSome=true from hf];rfl
   refine⟨asq (by omega),by show I64 (((uX (x.o.V k) x.s:Nat):Int)+1);unfold I64;omega,⟨x.o.z k,x.o.V k,uX (x.o.V k) x.s⟩,aZ.2 ⟨f1,s2⟩,⟨⟨rfl,rfl⟩,rfl,rfl,trivial⟩,⟨⟨rfl,rfl,λ_ _=>rfl⟩,trivial⟩,λ_ _=>⟨trivial,asq (by omega),trivial,by unfold I64;omega,rU h4 hg r (k+1) _ _ _ (by omega) (by rw[hany,show(gY (x.o.V k) x.s).isSome=true from hf];simp) (λj hj=> ?_) λj hj=> ?_⟩⟩
   ·by_cases hjk:j=k
    ·subst hjk
     rw[FC,FC];refine⟨⟨y1,by rw[y2];exact f2⟩,y1,by rw[y2];exact f2,λq hq=> ?_⟩;rw[y2,f3 q]
    ·rw[oO hjk,oO hjk];exact hP j (by omega)
   ·rw[oO (by omega),oO (by omega)];exact hQ j (by omega)
  ·have y1:(FH x b).z k=x.o.z k:=by
    show(bif Nat.blt k b&&(gY (x.o.V k) x.s).isSome then false else x.o.z k)=x.o.z k;rw[show(gY (x.o.V k) x.s).isSome=false from hf,Bool.and_false];rfl
   have y3:(FH x b).V k=x.o.V k:=y2.trans (zW hf);refine⟨by unfold I64;omega,rU h4 hg r (k+1) _ _ _ (by omega) (by rw[hany,show(gY (x.o.V k) x.s).isSome=false from hf];simp) (λj hj=> ?_) λj hj=>hQ j (by omega)⟩;by_cases hjk:j=k
   ·subst hjk
    rw[q1,q2];exact⟨⟨y1,by rw[y3]⟩,y1,by rw[y3],λq _=>by rw[y3]⟩
   ·exact hP j (by omega)
theorem WY{x:ZOk}{b:Nat}(h4:b<=4)(hg:x.o.good)(hs:x.s.size<1099511627776)(hl:lvl x.s=b):apO b x:=
 ⟨x.s,aZ.2 ⟨hs,hl⟩,⟨rfl,trivial⟩,trivial,λ_ _=>rU h4 hg b 0 false _ _ (by omega) rfl (λj hj=>absurd hj (Nat.not_lt_zero j)) λj _=>⟨rfl,rfl⟩⟩
theorem adK{b:Nat}(h1:1<=b)(h4:b<=4):cO Tryz.prog 253 (LD b).ctr:=dh dG mixed (aa9 b) 5 noA 200 6 (λ_=>⟨rfl,rfl,rfl,rfl⟩) λx hx=>Eq.mp (ajk b h1 h4 x) (WY h4 (aZ.1 hx).2.2 (aZ.1 hx).1 (aZ.1 hx).2.1)
noncomputable def au9:asv:={X:=ZTq,args:=λx=>[.ptr 0 0,.lit (.string x.s)],L:=λx=>x.L,pre:=λx=>Hd (x.s.size<1099511627776),outs:=[
 {Y:=Unit,post:=λ_ _=>True,ret:=λx _=>boo (gY x.L x.s).isSome,L:=λx _=>fZ x.L x.s,m:=1,ex:=λ_ _=>[]}]}
theorem Jj.drop{L:Lks}{o y:ZOd}(h:Jj L o){s:ByteArray}(hy: ∀k,k<4->(y.V k=if k<lvl s then fZ (o.V k) s else o.V k)/\(y.z k=true->y.V k=[])):Jj (fZ L s) y:=
 ⟨RN h.srt,Nat.le_trans (List.length_filter_le _ _) h.size,λk hk=>⟨by rw[(hy k hk).1,anH,(h.lev k hk).1],(hy k hk).2⟩⟩
theorem anL:cO Tryz.prog 253 au9.C:=ajg ⟨Tryz.f253,by kernel_rfl,by kernel_rfl,by kernel_rfl⟩ (List.forall_mem_cons.2 ⟨λ_ _=>rfl,λ_ h=>(List.not_mem_nil h).elim⟩) (jg λx hx=>by
 obtain⟨hp,hH⟩:=hx;have p1:=aZ.1 hp;have hH:=aZ.1 hH;obtain⟨l1,l4⟩:=apJ x.1.s;refine⟨_,adK l1 l4,rfl,⟨x.2,x.1.s⟩,aZ.2 ⟨p1,rfl,hH.good⟩,rfl,rfl,λv h' hh=> ?_⟩;obtain⟨y,h1,h2,h3⟩:=jh hh;have h1:=aZ.1 h1;refine Eq.mpr (dV (X:=ZTq×ZOd) x v h' _ _) (.inl ⟨((),y),⟨trivial,aZ.2 (hH.drop h1)⟩,h2.trans ?_,h3⟩);have lk: ∀k,k<lvl x.1.s->gY (x.2.V k) x.1.s=gY x.1.L x.1.s:=λk hk=>by rw[(hH.lev k (by omega)).1,ajd hk];rfl
 show boo ((List.range (lvl x.1.s)).any λk=>(gY (x.2.V k) x.1.s).isSome)=boo (gY x.1.L x.1.s).isSome;congr 1;rw[Bool.eq_iff_iff,List.any_eq_true];constructor
 ·rintro ⟨k,hk,h⟩
  rw[lk k (List.mem_range.1 hk)]at h;exact h
 ·intro h
  exact⟨0,List.mem_range.2 (by omega),by rw[lk 0 (by omega)];exact h⟩)
noncomputable section
def anM:iW:={X:=Unit,args:=λ_=>[],k:=0,l:=λ_=>[],pre:=λ_=>True,outs:=[
 {Y:=iY,post:=λ_ y=>Hd (lJ [] y),ret:=λ_ _=> .ptr 0 0,m:=1,l:=λ_ y=>[.m (RJ y)]}]}
def anN:iW:={X:=Unit,args:=λ_=>[],k:=0,l:=λ_=>[],pre:=λ_=>True,outs:=[
 {Y:=ZOd,post:=λ_ y=>Hd (Jj [] y),ret:=λ_ _=> .ptr 0 0,m:=1,l:=λ_ y=>[.m (LC y)]}]}
end
def WZ(x:Unit):Prop:=
 ((0:Int)<=0/\(0:Int)<=7)/\I64 (1:Int)/\((0:Int)<=1/\(0:Int)<=6)/\I64 (2:Int)/\((0:Int)<=2/\(0:Int)<=5)/\I64 (3:Int)/\((0:Int)<=3/\(0:Int)<=4)/\I64 (4:Int)/\((0:Int)<=4/\(0:Int)<=3)/\I64 (5:Int)/\((0:Int)<=5/\(0:Int)<=2)/\I64 (6:Int)/\((0:Int)<=6/\(0:Int)<=1)/\I64 (7:Int)/\((0:Int)<=7/\(0:Int)<=0)/\I64 (8:Int)/\ ∃y: ∀a:Nat,ZMs,Hd (lJ (@List.nil ZLnk) y)/\0=0/\(True/\True/\True/\True/\True/\True/\True/\True/\True)/\(ZMs.n (y 0)=0/\ZMs.clk (y 0)=0)/\(ZMs.n (y 1)=0/\ZMs.clk (y 1)=0)/\(ZMs.n (y 2)=0/\ZMs.clk (y 2)=0)/\(ZMs.n (y 3)=0/\ZMs.clk (y 3)=0)/\(ZMs.n (y 4)=0/\ZMs.clk (y 4)=0)/\(ZMs.n (y 5)=0/\ZMs.clk (y 5)=0)/\(ZMs.n (y 6)=0/\ZMs.clk (y 6)=0)/\(ZMs.n (y 7)=0/\ZMs.clk (y 7)=0)/\True
theorem adL(x:Unit):WZ x=wpF Tryz.prog [] tt (noA x) 200 6 85 (anM.args x) (hO 0 (flatP 0 (anM.l x))) (λv h'=>endsPK 0 x v h' anM.outs):=by kernel_rfl
def W9(x:Unit):Prop:=
 ∃y:ZOd,Hd (@Jj (@List.nil ZLnk) y)/\0=0/\((y.z 0=true/\List.length (y.V 0)=0)/\(y.z 1=true/\List.length (y.V 1)=0)/\(y.z 2=true/\List.length (y.V 2)=0)/\(y.z 3=true/\List.length (y.V 3)=0)/\True)/\(y.z 0=true/\List.length (y.V 0)=0/\ ∀q:Nat,q<List.length (y.V 0)->[Value.string (ZLnk.key (nthL (y.V 0) q)),Value.int .u64 (ZLnk.id (nthL (y.V 0) q)),Value.int .u64 (ZLnk.ver (nthL (y.V 0) q)),Value.int .i64 (ZLnk.line (nthL (y.V 0) q)),Value.int .i64 (ZLnk.cls (nthL (y.V 0) q))]= @List.nil Value)/\(y.z 1=true/\List.length (y.V 1)=0/\ ∀q:Nat,q<List.length (y.V 1)->[Value.string (ZLnk.key (nthL (y.V 1) q)),Value.int .u64 (ZLnk.id (nthL (y.V 1) q)),Value.int .u64 (ZLnk.ver (nthL (y.V 1) q)),Value.int .i64 (ZLnk.line (nthL (y.V 1) q)),Value.int .i64 (ZLnk.cls (nthL (y.V 1) q))]= @List.nil Value)/\(y.z 2=true/\List.length (y.V 2)=0/\ ∀q:Nat,q<List.length (y.V 2)->[Value.string (ZLnk.key (nthL (y.V 2) q)),Value.int .u64 (ZLnk.id (nthL (y.V 2) q)),Value.int .u64 (ZLnk.ver (nthL (y.V 2) q)),Value.int .i64 (ZLnk.line (nthL (y.V 2) q)),Value.int .i64 (ZLnk.cls (nthL (y.V 2) q))]= @List.nil Value)/\(y.z 3=true/\List.length (y.V 3)=0/\ ∀q:Nat,q<List.length (y.V 3)->[Value.string (ZLnk.key (nthL (y.V 3) q)),Value.int .u64 (ZLnk.id (nthL (y.V 3) q)),Value.int .u64 (ZLnk.ver (nthL (y.V 3) q)),Value.int .i64 (ZLnk.line (nthL (y.V 3) q)),Value.int .i64 (ZLnk.cls (nthL (y.V 3) q))]= @List.nil Value)/\True
theorem adM(x:Unit):W9 x=wpF Tryz.prog [] tt (noA x) 200 6 86 (anN.args x) (hO 0 (flatP 0 (anN.l x))) (λv h'=>endsPK 0 x v h' anN.outs):=by kernel_rfl
def apP:iY:=λ_=>⟨0,λ_=>iQ,λ_=>0,0⟩
theorem anO:lJ [] apP:=
 ⟨List.Pairwise.nil,by decide,λl h=>absurd h List.not_mem_nil,λ_ _ j hj=>absurd hj (Nat.not_lt_zero j),λl h=>absurd h List.not_mem_nil,λ_ _ i _ hi=>absurd hi (Nat.not_lt_zero i),λ_ _ j hj=>absurd hj (Nat.not_lt_zero j),λ_ _ i _ hi=>absurd hi (Nat.not_lt_zero i)⟩
def ajl:ZOd:=⟨λ_=>true,λ_=>[]⟩
theorem anP:Jj [] ajl:=⟨List.Pairwise.nil,by decide,λ_ _=>⟨rfl,λ_=>rfl⟩⟩
theorem RZ(x:Unit):WZ x:=by
 unfold WZ;have i: ∀z:Int,0<=z->z<=100->I64 z:=λz a b=>by unfold I64;omega
 refine⟨by decide,i _ (by decide) (by decide),by decide,i _ (by decide) (by decide),by decide,i _ (by decide) (by decide),by decide,i _ (by decide) (by decide),by decide,i _ (by decide) (by decide),by decide,i _ (by decide) (by decide),by decide,i _ (by decide) (by decide),by decide,i _ (by decide) (by decide),apP,aZ.2 anO,rfl,⟨trivial,trivial,trivial,trivial,trivial,trivial,trivial,trivial,trivial⟩,⟨rfl,rfl⟩,⟨rfl,rfl⟩,⟨rfl,rfl⟩,⟨rfl,rfl⟩,⟨rfl,rfl⟩,⟨rfl,rfl⟩,⟨rfl,rfl⟩,⟨rfl,rfl⟩,trivial⟩
theorem Si(x:Unit):W9 x:=by
 unfold W9;have z: ∀q:Nat,q<List.length (ajl.V 0)->False:=λq hq=>Nat.not_lt_zero q hq
 refine⟨ajl,aZ.2 anP,rfl,⟨⟨rfl,rfl⟩,⟨rfl,rfl⟩,⟨rfl,rfl⟩,⟨rfl,rfl⟩,trivial⟩,⟨rfl,rfl,λq hq=>(z q hq).elim⟩,⟨rfl,rfl,λq hq=>(z q hq).elim⟩,⟨rfl,rfl,λq hq=>(z q hq).elim⟩,⟨rfl,rfl,λq hq=>(z q hq).elim⟩,trivial⟩
theorem anQ:cO Tryz.prog 85 anM.ctr:=dh dG mixed .nil 0 noA 200 6 (λ_=>⟨rfl,rfl,rfl,rfl⟩) λx _=>Eq.mp (adL x) (RZ x)
theorem anR:cO Tryz.prog 86 anN.ctr:=dh dG mixed .nil 0 noA 200 6 (λ_=>⟨rfl,rfl,rfl,rfl⟩) λx _=>Eq.mp (adM x) (Si x)
noncomputable def newT:Ctr:=det Unit (λ_=>[]) 0 (λ_=>[]) (λ_=>True) (λ_=> .ptr 0 0) 1 (λ_=>[.abs (tabA [])])
noncomputable def newO:Ctr:=det Unit (λ_=>[]) 0 (λ_=>[]) (λ_=>True) (λ_=> .ptr 0 0) 1 (λ_=>[.abs (ordA [])])
theorem asy:cO Tryz.prog 85 newT:=λx _=>⟨rfl,by
 refine Bh (((anQ () trivial).2).mono λv h' hh=> ?_);have hh:(∃y:iY,Hd (lJ [] y)/\v= .ptr 0 0/\h'=hO 1 [.abs (ownM (RJ y))])\/False:=by with_unfolding_all exact hh
 rcases hh with ⟨y,h1,rfl,rfl⟩|hh
 ·refine⟨.ptr 0 0,hO 1 [.abs (tabA [])],?_,by with_unfolding_all exact Or.inl ⟨(),trivial,rfl,rfl⟩⟩
  refine uP (m:=1) rfl rfl (Nat.zero_le _) λi o o' hi hi'=> ?_
  match i,hi,hi' with
  |0,hi,hi'=>cases hi;cases hi';exactλ_ _ _ _ _ h=>aa5 (aZ.1 h1) h
 ·exact hh.elim⟩
theorem asA:cO Tryz.prog 86 newO:=λx _=>⟨rfl,by
 refine Bh (((anR () trivial).2).mono λv h' hh=> ?_);have hh:(∃y:ZOd,Hd (Jj [] y)/\v= .ptr 0 0/\h'=hO 1 [.abs (ownM (LC y))])\/False:=by with_unfolding_all exact hh
 rcases hh with ⟨y,h1,rfl,rfl⟩|hh
 ·refine⟨.ptr 0 0,hO 1 [.abs (ordA [])],?_,by with_unfolding_all exact Or.inl ⟨(),trivial,rfl,rfl⟩⟩
  refine uP (m:=1) rfl rfl (Nat.zero_le _) λi o o' hi hi'=> ?_
  match i,hi,hi' with
  |0,hi,hi'=>cases hi;cases hi';exactλ_ _ _ _ _ h=>aa8 (aZ.1 h1) h
 ·exact hh.elim⟩
noncomputable def bkL(L:Lks)(b:Nat):Lks:=L.filter λl=>decide (bkt l.key=b)
theorem Sj{L:Lks}(h:srt L):L.Nodup:=h.imp λ{a b} hk e=>by rw[e,mX]at hk;cases hk
theorem lJ.perm{L:Lks}{t:iY}(h:lJ L t){b:Nat}(hb:b<8):((List.range (t b).n).map (t b).lk).Perm (bkL L b):=by
 refine(List.perm_ext_iff_of_nodup ?_ ((Sj h.srt).filter _)).2 λx=> ?_
 ·refine List.pairwise_map.2 (List.nodup_range.imp_of_mem λ{i j} hi hj hne e=>hne ?_)
  exact h.inj b hb i j (List.mem_range.1 hi) (List.mem_range.1 hj) (by rw[e])
 ·rw[List.mem_map,List.mem_filter,decide_eq_true_iff]
  constructor
  ·rintro ⟨j,hj,rfl⟩
   exact h.mem b hb j (List.mem_range.1 hj)
  ·rintro ⟨hx,hxb⟩
   obtain⟨j,h1,h2⟩:=h.all x hx;rw[hxb]at h1 h2;exact⟨j,List.mem_range.2 h1,h2⟩
theorem lJ.n{L:Lks}{t:iY}(h:lJ L t){b:Nat}(hb:b<8):(t b).n=(bkL L b).length:=by
 have:=(h.perm hb).length_eq;rw[List.length_map,List.length_range]at this;exact this
structure ZLq where
 L:Lks
def w8(k:Nat):Prop:=(0:Int)<=(k:Int)/\(0:Int)<=(7:Int)-(k:Int)
end Go.Proofs.YtenfleoejgjklaaGreat
end
section
namespace Go.Proofs.YtenfleoejgjklaaGreat
open Go.RowKit Go.Maps Go.Sort Go.Shelf
def Tryz.keysA_ren:Go.Shelf.Ren:=⟨λ|7=>231|10=>266|n=>n,λ|23=>169|26=>9|3=>41|28=>342|0=>0|27=>341|33=>359|4=>4|n=>n,λ|n=>n⟩
theorem Tryz.keysA:Go.Proofs.SlLaysZ.n7 Tryz.prog Tryz.keysA_ren:={
 mixed:=by kernel_rfl
 f7:=⟨Tryz.f231.name,by decide,Tryz.func231.trans (congrArg some (by kernel_rfl))⟩
 f10:=⟨Tryz.f266.name,by decide,Tryz.func266.trans (congrArg some (by kernel_rfl))⟩
 t0:=Tryz.underlying0
 a0:=Tryz.isAgg0
 z0:=Tryz.sizeOf0
 v0:=Tryz.zeroValue0
 t4:=Tryz.underlying4
 a4:=Tryz.isAgg4
 z4:=Tryz.sizeOf4
 v4:=Tryz.zeroValue4
 t23:=Tryz.underlying169
 a23:=Tryz.isAgg169
 z23:=Tryz.sizeOf169
 v23:=Tryz.zeroValue169
 t26:=Tryz.underlying9
 a26:=Tryz.isAgg9
 z26:=Tryz.sizeOf9
 v26:=Tryz.zeroValue9
 t27:=Tryz.underlying341
 a27:=Tryz.isAgg341
 z27:=Tryz.sizeOf341
 v27:=Tryz.zeroValue341
 t28:=Tryz.underlying342
 a28:=Tryz.isAgg342
 z28:=Tryz.sizeOf342
 v28:=Tryz.zeroValue342
 t33:=Tryz.underlying359
 a33:=Tryz.isAgg359
 z33:=Tryz.sizeOf359
 v33:=Tryz.zeroValue359}
def Tryz.sortedA_ren:Go.Shelf.Ren:=⟨λ|6=>230|8=>264|9=>265|11=>287|13=>175|12=>288|23=>225|24=>226|14=>302|15=>303|16=>304|17=>305|18=>306|19=>307|20=>308|21=>309|22=>310|25=>312|26=>259|27=>260|28=>313|29=>314|30=>315|31=>317|n=>n,λ|26=>9|28=>342|24=>65|0=>0|3=>3|37=>114|48=>135|50=>31|4=>4|40=>330|39=>329|45=>334|5=>5|9=>9|51=>362|55=>365|57=>380|58=>381|33=>359|n=>n,λ|n=>n⟩
theorem Tryz.sortedA:Go.Proofs.SlLaysZ.n6 Tryz.prog Tryz.sortedA_ren:={
 mixed:=by kernel_rfl
 f6:=⟨Tryz.f230.name,by decide,Tryz.func230.trans (congrArg some (by kernel_rfl))⟩
 f8:=⟨Tryz.f264.name,by decide,Tryz.func264.trans (congrArg some (by kernel_rfl))⟩
 f11:=⟨Tryz.f287.name,by decide,Tryz.func287.trans (congrArg some (by kernel_rfl))⟩
 t0:=Tryz.underlying0
 a0:=Tryz.isAgg0
 z0:=Tryz.sizeOf0
 v0:=Tryz.zeroValue0
 t24:=Tryz.underlying65
 a24:=Tryz.isAgg65
 z24:=Tryz.sizeOf65
 v24:=Tryz.zeroValue65
 t26:=Tryz.underlying9
 a26:=Tryz.isAgg9
 z26:=Tryz.sizeOf9
 v26:=Tryz.zeroValue9
 t28:=Tryz.underlying342
 a28:=Tryz.isAgg342
 z28:=Tryz.sizeOf342
 v28:=Tryz.zeroValue342
 i26:=by kernel_rfl}
end Go.Proofs.YtenfleoejgjklaaGreat
end
section
namespace Go.Proofs.YtenfleoejgjklaaGreat
open Go Go.RowKit Go.Maps Go.Sort Go.Shelf
def Tryz.sortA_ren:Go.Shelf.Ren:=⟨λ|6=>265|8=>175|9=>288|19=>225|20=>226|21=>302|22=>303|23=>304|24=>305|25=>306|26=>307|27=>308|28=>309|29=>310|36=>312|31=>259|32=>260|37=>313|38=>314|39=>315|41=>317|n=>n,λ|27=>65|29=>9|3=>3|32=>114|26=>65|0=>0|44=>135|46=>31|4=>4|36=>330|35=>329|41=>334|5=>5|9=>9|53=>362|57=>365|63=>380|64=>381|n=>n,λ|n=>n⟩
theorem Tryz.sortA:Go.Proofs.SlLaysM.n6 Tryz.prog Tryz.sortA_ren:={
 mixed:=by kernel_rfl
 f6:=⟨Tryz.f265.name,by decide,Tryz.func265.trans (congrArg some (by kernel_rfl))⟩
 f8:=Tryz.func175.trans (congrArg some (by kernel_rfl))
 f9:=⟨Tryz.f288.name,by decide,Tryz.func288.trans (congrArg some (by kernel_rfl))⟩
 f19:=Tryz.func225.trans (congrArg some (by kernel_rfl))
 f20:=Tryz.func226.trans (congrArg some (by kernel_rfl))
 f21:=⟨Tryz.f302.name,by decide,Tryz.func302.trans (congrArg some (by kernel_rfl))⟩
 f22:=⟨Tryz.f303.name,by decide,Tryz.func303.trans (congrArg some (by kernel_rfl))⟩
 f23:=⟨Tryz.f304.name,by decide,Tryz.func304.trans (congrArg some (by kernel_rfl))⟩
 f24:=⟨Tryz.f305.name,by decide,Tryz.func305.trans (congrArg some (by kernel_rfl))⟩
 f25:=⟨Tryz.f306.name,by decide,Tryz.func306.trans (congrArg some (by kernel_rfl))⟩
 f26:=⟨Tryz.f307.name,by decide,Tryz.func307.trans (congrArg some (by kernel_rfl))⟩
 f27:=⟨Tryz.f308.name,by decide,Tryz.func308.trans (congrArg some (by kernel_rfl))⟩
 f28:=⟨Tryz.f309.name,by decide,Tryz.func309.trans (congrArg some (by kernel_rfl))⟩
 f29:=⟨Tryz.f310.name,by decide,Tryz.func310.trans (congrArg some (by kernel_rfl))⟩
 f31:=Tryz.func259.trans (congrArg some (by kernel_rfl))
 f32:=Tryz.func260.trans (congrArg some (by kernel_rfl))
 f36:=⟨Tryz.f312.name,by decide,Tryz.func312.trans (congrArg some (by kernel_rfl))⟩
 f37:=⟨Tryz.f313.name,by decide,Tryz.func313.trans (congrArg some (by kernel_rfl))⟩
 f38:=⟨Tryz.f314.name,by decide,Tryz.func314.trans (congrArg some (by kernel_rfl))⟩
 f39:=⟨Tryz.f315.name,by decide,Tryz.func315.trans (congrArg some (by kernel_rfl))⟩
 f41:=⟨Tryz.f317.name,by decide,Tryz.func317.trans (congrArg some (by kernel_rfl))⟩
 t0:=Tryz.underlying0
 a0:=Tryz.isAgg0
 z0:=Tryz.sizeOf0
 v0:=Tryz.zeroValue0
 t3:=Tryz.underlying3
 a3:=Tryz.isAgg3
 z3:=Tryz.sizeOf3
 v3:=Tryz.zeroValue3
 t4:=Tryz.underlying4
 a4:=Tryz.isAgg4
 z4:=Tryz.sizeOf4
 v4:=Tryz.zeroValue4
 t5:=Tryz.underlying5
 a5:=Tryz.isAgg5
 z5:=Tryz.sizeOf5
 v5:=Tryz.zeroValue5
 t9:=Tryz.underlying9
 a9:=Tryz.isAgg9
 z9:=Tryz.sizeOf9
 v9:=Tryz.zeroValue9
 t26:=Tryz.underlying65
 a26:=Tryz.isAgg65
 z26:=Tryz.sizeOf65
 v26:=Tryz.zeroValue65
 t27:=Tryz.underlying65
 a27:=Tryz.isAgg65
 z27:=Tryz.sizeOf65
 v27:=Tryz.zeroValue65
 t29:=Tryz.underlying9
 a29:=Tryz.isAgg9
 z29:=Tryz.sizeOf9
 v29:=Tryz.zeroValue9
 t32:=Tryz.underlying114
 a32:=Tryz.isAgg114
 z32:=Tryz.sizeOf114
 v32:=Tryz.zeroValue114
 t35:=Tryz.underlying329
 a35:=Tryz.isAgg329
 z35:=Tryz.sizeOf329
 v35:=Tryz.zeroValue329
 t36:=Tryz.underlying330
 a36:=Tryz.isAgg330
 z36:=Tryz.sizeOf330
 v36:=Tryz.zeroValue330
 t41:=Tryz.underlying334
 a41:=Tryz.isAgg334
 z41:=Tryz.sizeOf334
 v41:=Tryz.zeroValue334
 t44:=Tryz.underlying135
 a44:=Tryz.isAgg135
 z44:=Tryz.sizeOf135
 v44:=Tryz.zeroValue135
 t46:=Tryz.underlying31
 a46:=Tryz.isAgg31
 z46:=Tryz.sizeOf31
 v46:=Tryz.zeroValue31
 t53:=Tryz.underlying362
 a53:=Tryz.isAgg362
 z53:=Tryz.sizeOf362
 v53:=Tryz.zeroValue362
 t57:=Tryz.underlying365
 a57:=Tryz.isAgg365
 z57:=Tryz.sizeOf365
 v57:=Tryz.zeroValue365
 t63:=Tryz.underlying380
 a63:=Tryz.isAgg380
 z63:=Tryz.sizeOf380
 v63:=Tryz.zeroValue380
 t64:=Tryz.underlying381
 a64:=Tryz.isAgg381
 z64:=Tryz.sizeOf381
 v64:=Tryz.zeroValue381}
theorem sortsA(m:Nat):AnyZ.SortsIn Tryz.prog Tryz.sortedA_ren Fence.wide m:=
 ⟨λblk off cap ss W hH hblk hsz=>callsIn_wide.2 (AnyM.slices_Sort_string Tryz.sortA blk off cap ss W hH hblk hsz),
  λp cap W=>callsIn_wide.2 (AnyM.slices_Sort_string_none Tryz.sortA p cap W)⟩
end Go.Proofs.YtenfleoejgjklaaGreat
end
section
namespace Go.Proofs.YtenfleoejgjklaaGreat.SE
open Go
theorem abb{h:Heap}{ρ:Ren}{T:Nat->Prop}{w w':World}(hR:Rel h ρ T w)(hb:Go.RowKit.Below w.heap.size w w'){a:Loc}{S0:Nat->Prop}(hg: ∀b,S0 b->w.heap.size<=b/\b<w'.heap.size){o:dF}
  (ho: ∀ρ',dI ρ' w' T a S0 o): ∃ρ',ρ.le ρ'/\ρ' h.next=some a/\(∀i,i<h.next->ρ' i=ρ i)/\Rel (h.push o) ρ' T w'/\Keeps T w w':=by
 obtain⟨S,h1,h2,h3,h4,h5⟩:=hR;let ρ':Ren:=λi=>if i=h.next then some a else ρ i
 have hle:ρ.le ρ':=λi x hx=>by
  by_cases hi:i=h.next
  ·subst hi;rw[h4 _ (aY _)]at hx;cases hx
  ·simp only[ρ',if_neg hi];exact hx
 have hkeep:Keeps T w w':=⟨hb.size,hb.os,hb.tape,hb.output,λb hbT=>hb.block b (by
  rcases Nat.lt_or_ge b w.heap.size with h'|h'
  ·exact h'
  ·exact(hbT (h5 b h')).elim)⟩
 refine⟨ρ',hle,by simp[ρ'],λi hi=>by simp[ρ',Nat.ne_of_lt hi],⟨λi b=>if i=h.next then S0 b else S i b,λi o' hi=> ?_,λi j o1 o2 b hi hj hij hSi hSj=> ?_,λi o' b hi hS=> ?_,λi hi=> ?_,λb hb'=>h5 b (Nat.le_trans hb.size hb')⟩,hkeep⟩
 ·rw[Heap.fG]at hi
  by_cases hin:i=h.next
  ·subst hin
   simp only[if_pos]at hi;cases hi;exact⟨a,by simp[ρ'],by simpa using ho ρ'⟩
  ·simp only[if_neg hin]at hi ⊢
   obtain⟨x,hx,hh⟩:=h1 i o' hi;refine⟨x,hle _ _ hx,dI.mono hle (hh.stays λb hbS=>hb.block b ?_)⟩;rcases hbS with hbS|hbS
   ·exact(h3 i o' b hi hbS).2
   ·rcases Nat.lt_or_ge b w.heap.size with h'|h'
    ·exact h'
    ·exact(hbS (h5 b h')).elim
 ·rw[Heap.fG]at hi hj
  by_cases hi':i=h.next<;>by_cases hj':j=h.next
  ·exact hij (hi'.trans hj'.symm)
  ·simp only[if_pos hi',if_neg hj']at hSi hSj hj
   have:=(h3 j o2 b hj hSj).2;have:=hg b hSi;omega
  ·simp only[if_neg hi',if_pos hj']at hSi hSj hi
   have:=(h3 i o1 b hi hSi).2;have:=hg b hSj;omega
  ·simp only[if_neg hi',if_neg hj']at hSi hSj hi hj
   exact h2 i j o1 o2 b hi hj hij hSi hSj
 ·rw[Heap.fG]at hi
  by_cases hin:i=h.next
  ·simp only[if_pos hin]at hS
   exact⟨h5 _ (hg b hS).1,(hg b hS).2⟩
  ·simp only[if_neg hin]at hi hS
   obtain⟨g1,g2⟩:=h3 i o' b hi hS;exact⟨g1,Nat.lt_of_lt_of_le g2 hb.size⟩
 ·have hn:(h.push o).next=h.next+1:=by simp
  rw[hn]at hi;simp only[ρ',if_neg (by omega: ¬i=h.next)];exact h4 i (by omega)
end Go.Proofs.YtenfleoejgjklaaGreat.SE
end
section
namespace Go.Proofs.YtenfleoejgjklaaGreat
open Go SE
structure ZMs.good (m:ZMs):Prop where
 size:m.n<=258
 key: ∀j,j<m.n->(m.lk j).key.size<1099511627776
 inj: ∀i j,i<m.n->j<m.n->(m.lk i).key=(m.lk j).key->i=j
 born: ∀j,j<m.n->m.born j<m.clk
 bi: ∀i j,i<m.n->j<m.n->m.born i=m.born j->i=j
structure ajm (m:ZMs) (ks:List ByteArray):Prop where
 srt:ks.Pairwise λa b=>kl a b=true
 len:ks.length=m.n
 mem: ∀s,s∈ks↔ ∃j,j<m.n/\(m.lk j).key=s
def FI(ks:List ByteArray)(i:Nat):ByteArray:=ks.getD i ⟨#[]⟩
def ajn(z:Bool)(ks:List ByteArray):dF:= .iC z 9 (.row 1 ks.length (λi=>[.string (FI ks i)]) [])
noncomputable def ajo:Ctr:={X:=ZMs,args:=λ_=>[.fn (.func 266) [] [.ptr 0 0]],k:=2,os:=λm=>[.cells 169 (.av [.mp 1]),.nK m.ms],pre:=λm=>Hd m.good,outs:=[
 {Y:=Bool×List ByteArray,post:=λm y=>Hd (ajm m y.2/\(y.1=true->y.2=[])),ret:=λ_ y=> .slV y.1 2 1 y.2.length,m:=3,os:=λm y=>[.cells 169 (.av [.mp 1]),.nK m.ms,ajn y.1 y.2]}]}
def rdN:Value->Option (DataW Unit×List MemPlace):=λ_=>some (.lit (.bool true),[])
theorem kl_lt(a b:List UInt8):kl ⟨a.toArray⟩ ⟨b.toArray⟩=decide (a<b):=by
 unfold kl;rw[iH,iH,Go.Proofs.bytesLess_eq]
theorem ownsS{w:World}{b:Nat}{m:ZMs}{arr:Array MapEntry}(hm:m.good)(hb:w.heap[b]? =some (.map arr m.clk))(hr:Jz m.ms arr):
  ∃D0:DataW Unit,w.ownsMap Tryz.prog 9 rdN b m.n D0/\Maps.size D0=m.n/\(strKeys D0).Perm ((List.range m.n).map λj=>(m.lk j).key.data.toList):=by
 obtain⟨r1,r2⟩:=hr;have r1:arr.size=m.n:=r1;have ent: ∀j,j<m.n->arr[j]? =some {key:= .string (m.lk j).key,val:= .agg (m.lk j).cs.toArray,born:=m.born j}:=r2;have htl:arr.toList=(List.range m.n).map λj=>({key:= .string (m.lk j).key,val:= .agg (m.lk j).cs.toArray,born:=m.born j}:MapEntry):=by
  apply List.ext_getElem?;intro j;rw[Array.getElem?_toList,List.getElem?_map];rcases Nat.lt_or_ge j m.n with hj|hj
  ·rw[ent j hj,List.getElem?_range hj];rfl
  ·rw[Array.getElem?_eq_none (by omega),List.getElem?_eq_none (by simpa using hj)];rfl
 have hk: ∀j,j<m.n->Go.keyOf Tryz.prog 9 (.string (m.lk j).key)=some (.string (m.lk j).key.data.toList):=λj hj=>by
  have:=hm.key j hj;have hs:(m.lk j).key.size<=maxLen:=by unfold maxLen;omega
  simp[Go.keyOf,Tryz.underlying9,mapKey,hs]
 have hrd: ∀j,j<m.n->Go.WideElems.rd Tryz.prog 9 rdN {key:= .string (m.lk j).key,val:= .agg (m.lk j).cs.toArray,born:=m.born j}=some (.string (m.lk j).key.data.toList,.lit (.bool true)):=λj hj=>by simp[Go.WideElems.rd,hk j hj,rdN]
 have hmap:arr.toList.map (Go.WideElems.rg Tryz.prog 9 rdN)=(List.range m.n).map λj=>((.string (m.lk j).key.data.toList,.lit (.bool true)):Lit×DataW Unit):=by
  rw[htl,List.map_map];refine List.map_congr_left λj hj=> ?_
  rw[Function.comp_apply,Go.WideElems.rg,hrd j (List.mem_range.1 hj),Option.getD_some]
 have hz:=hm.size;refine⟨.map ((arr.toList.map (Go.WideElems.rg Tryz.prog 9 rdN)).foldr DataW.insert []),⟨arr,m.clk,hb,⟨by rw[r1];unfold maxLen;omega,⟨λx hx=> ?_,?_,?_⟩,λx hx=> ?_⟩,by rw[r1];exact aY _,rfl⟩,?_,?_⟩
 ·rw[htl]at hx
  obtain⟨j,hj,rfl⟩:=List.mem_map.1 hx;exact hm.born j (List.mem_range.1 hj)
 ·rw[htl,List.map_map]
  exact List.pairwise_map.2 (List.nodup_range.imp_of_mem λ{i j} hi hj hne e=>hne (hm.bi i j (List.mem_range.1 hi) (List.mem_range.1 hj) e))
 ·rw[htl,List.map_map]
  exact List.pairwise_map.2 (List.nodup_range.imp_of_mem λ{i j} hi hj hne e=>hne (hm.inj i j (List.mem_range.1 hi) (List.mem_range.1 hj) (by injection e)))
 ·rw[htl]at hx
  obtain⟨j,hj,rfl⟩:=List.mem_map.1 hx;exact⟨_,hrd j (List.mem_range.1 hj)⟩
 ·show((arr.toList.map (Go.WideElems.rg Tryz.prog 9 rdN)).foldr DataW.insert []).length=_
  rw[(Go.WideShapes.sorted_perm _).length_eq,hmap];simp
 ·show(((arr.toList.map (Go.WideElems.rg Tryz.prog 9 rdN)).foldr DataW.insert []).map λp=>strOf p.1).Perm _
  refine((Go.WideShapes.sorted_perm _).map _).trans ?_;rw[hmap,List.map_map];exact List.Perm.refl _
theorem asB{m:ZMs}(hm:m.good){ss:List (List UInt8)}(hp:ss.Perm ((List.range m.n).map λj=>(m.lk j).key.data.toList)):ajm m ((ss.mergeSort (λx y=>decide (x<=y))).map λl=>(⟨l.toArray⟩:ByteArray)):=by
 have tr: ∀a b c:List UInt8,decide (a<=b)=true->decide (b<=c)=true->decide (a<=c)=true:=λa b c h1 h2=>by simp only[decide_eq_true_eq]at*;exact List.le_trans h1 h2
 have to: ∀a b:List UInt8,(decide (a<=b)||decide (b<=a))=true:=λa b=>by simp only[Bool.or_eq_true,decide_eq_true_eq];exact List.le_total a b
 have hq:(ss.mergeSort (λx y=>decide (x<=y))).Perm ((List.range m.n).map λj=>(m.lk j).key.data.toList):=(List.mergeSort_perm ss _).trans hp;have nd:((List.range m.n).map λj=>(m.lk j).key.data.toList).Nodup:=List.pairwise_map.2 (List.nodup_range.imp_of_mem λ{i j} hi hj hne e=>hne (hm.inj i j (List.mem_range.1 hi) (List.mem_range.1 hj) (ByteArray.ext (Array.toList_inj.1 e))));refine⟨List.pairwise_map.2 ?_,by rw[List.length_map,hq.length_eq];simp,λs=> ?_⟩
 ·have h1:=List.pairwise_mergeSort tr to ss
  have h2:=hq.symm.nodup nd;refine(List.pairwise_and_iff.2 ⟨h1,h2⟩).imp λ{a b} h=> ?_
  rw[kl_lt,decide_eq_true_eq];have h1:=aS h.1;by_cases h':a<b
  ·exact h'
  ·exact absurd (List.le_antisymm h1 (List.not_lt.1 h')) h.2
 ·rw[List.mem_map]
  constructor
  ·rintro ⟨l,hl,rfl⟩
   obtain⟨j,hj,rfl⟩:=List.mem_map.1 (hq.mem_iff.1 hl);exact⟨j,List.mem_range.1 hj,ByteArray.ext (by simp)⟩
  ·rintro ⟨j,hj,rfl⟩
   exact⟨_,hq.mem_iff.2 (List.mem_map.2 ⟨j,List.mem_range.2 hj,rfl⟩),ByteArray.ext (by simp)⟩
theorem Xa{m:ZMs}(hm:m.good){w:World}{Bm b:Nat}{arr:Array MapEntry}(hB:w.cell? ⟨Bm,0,none⟩=some (.map (some b)))(hBl:Bm<w.heap.size)(hb:w.heap[b]? =some (.map arr m.clk))(hr:Jz m.ms arr):
  Calls Tryz.prog 230 #[.func (.func 266) #[] #[.pointer (some ⟨Bm,0,none⟩)]] w λe w'=>
   ∃(v:Value) (ss:List (List UInt8)),e= .returned v/\ss.Perm ((List.range m.n).map λj=>(m.lk j).key.data.toList)/\
    w'.ownsRow w.heap.size 9 1 v ss.length ((ss.mergeSort (λx y=>decide (x<=y))).map encStr)/\(v= .slice none 0 0↔ss=[])/\Go.RowKit.Below w.heap.size w w':=by
 obtain⟨D0,d1,d2,d3⟩:=ownsS hm hb hr;have hz:=hm.size;have hseq:=AnyZ.keys_gives (ρ:=Tryz.keysA_ren) (H:=Unit) {Tryz.keysA with} Fence.wide 2 trivial rfl (by omega) Bm b m.n D0 w hBl hB d1;have h:=AnyZ.sorted_in Tryz.sortedA Fence.wide 5 trivial trivial trivial trivial rfl (by omega) (sortsA _) (enters_of Tryz.func265 (by kernel_rfl) rfl) 266 #[.pointer (some ⟨Bm,0,none⟩)] trivial (enters_of Tryz.func266 (by kernel_rfl) rfl) _ _ (by rw[d2];unfold maxLen;omega) (by rw[d2];omega) w hseq;refine(callsIn_wide.1 h).mono ?_
 rintro e w' ⟨v,ss,rfl,hp,hrow,hnil,hbel⟩
 exact⟨v,ss,rfl,hp.trans d3,hrow,hnil,hbel⟩
set_option maxRecDepth 20000 in
theorem ajp:cO Tryz.prog 230 ajo:=λm hp=>by
 have hm:=aZ.1 hp;refine⟨rfl,⟨Tryz.f230,by kernel_rfl,by kernel_rfl,by kernel_rfl⟩,λρ T w vs hR hl=> ?_⟩;obtain⟨u1,us,hvs,hu1,hus⟩:=hl;obtain rfl:us=[]:=hus;obtain⟨fa,ca,rfl,hfa,hca⟩:=hu1;obtain⟨u,us,hca2,hu,hus⟩:=hca;obtain rfl:us=[]:=hus;obtain⟨a,ha,rfl⟩:=hu;have hfa:fa.toList=[]:=hfa;obtain rfl:fa= #[]:=by cases fa;simp_all
 obtain rfl:ca= #[.pointer (some ⟨a.blk,a.base+0,none⟩)]:=by cases ca;simp_all
 obtain rfl:vs= #[.func (.func 266) #[] #[.pointer (some ⟨a.blk,a.base+0,none⟩)]]:=by cases vs;simp_all
 have hR':=hR;obtain⟨S,h1,h2,h3,h4,h5⟩:=hR;obtain⟨a',ha',hO⟩:=h1 0 (.cells 169 (.av [.mp 1])) rfl;rw[ha]at ha';cases ha';obtain⟨hb0,hS,arr,ha1,ha2,ha3,ha4⟩:=hO;obtain⟨um,hm1,hm2⟩:=ha4 0 (.mp 1) rfl;obtain⟨aj,haj,rfl⟩:=hm2;obtain⟨aj',haj',hOj⟩:=h1 1 (.nK m.ms) rfl;rw[haj]at haj';cases haj';obtain⟨hSj,marr,hmb,hmr⟩:=hOj;have hBl:a.blk<w.heap.size:=(h3 0 _ _ rfl hS).2;have hcell:w.cell? ⟨a.blk,0,none⟩=some (.map (some aj.blk)):=by
  simp[World.cell?,ha1,hb0]at hm1 ⊢;simpa using hm1
 rw[hb0];refine(Xa hm hcell hBl hmb hmr).mono ?_
 rintro e w' ⟨v,ss,rfl,hperm,⟨hlen,hrow⟩,hnil,hbel⟩
 have hk:=asB hm hperm;have hl:((ss.mergeSort (λx y=>decide (x<=y))).map λl=>(⟨l.toArray⟩:ByteArray)).length=ss.length:=by simp
 rcases hrow with ⟨rfl,h0⟩|⟨g,cap,cur,rfl,r1,r2,r3,r4,r5,r6⟩
 ·have hss:ss=[]:=List.eq_nil_of_length_eq_zero h0
  subst hss;obtain⟨ρ',l1,l2,l3,l4,l5⟩:=abb (a:=⟨0,0,0⟩) (S0:=λ_=>False) (o:=ajn true []) hR' hbel (λb h=>h.elim) (λρ'=> .inl ⟨rfl,rfl⟩);refine⟨ρ',.slV true 2 1 0,_,hO 3 [.cells 169 (.av [.mp 1]),.nK m.ms,ajn true []],l3,by show 2<=3;decide,?_,.inl ⟨rfl,rfl,rfl⟩,rfl,l5,eF ⟨(true,[]),aZ.2 ⟨by simpa using hk,λ_=>rfl⟩,rfl,rfl⟩⟩;exact l4
 ·have hgl:g<w'.heap.size:=(Array.getElem?_eq_some_iff.1 r2).1
  generalize hks:(ss.mergeSort (λx y=>decide (x<=y))).map (λl=>(⟨l.toArray⟩:ByteArray))=ks at hk hl;have hne:ss≠[]:=λe=>by have:=hnil.2 e;cases this
  have hcur: ∀i,i<ks.length->cur[i]? =some (.string (FI ks i)):=λi hi=>by
   have e1:(cur.toList.take (ss.length*1))[i]? =cur.toList[i]? :=List.getElem?_take_of_lt (by omega);rw[<-Array.getElem?_toList,<-e1,r6];subst hks;unfold FI;rw[List.length_map]at hi;rw[List.getElem?_map,List.getElem?_eq_getElem hi,List.getD_eq_getElem?_getD,List.getElem?_map,List.getElem?_eq_getElem hi];rfl
  obtain⟨ρ',l1,l2,l3,l4,l5⟩:=abb (a:=⟨g,0,cap⟩) (S0:=λb=>b=g) (o:=ajn false ks) hR' hbel (λb h=>by subst h;exact⟨r1,hgl⟩) (λρ'=> .inr ⟨rfl,rfl,rfl,cur,r2,by show cur.size=cap;omega,by show ks.length*1<=cap;omega,λk x hk=>by
   unfold Cs.get at hk;cases hb:Nat.blt k (ks.length*1)with
   |false=>rw[hb]at hk;cases hk
   |true=>
    rw[hb]at hk;have hb:=bg.1 hb;have hi:k<ks.length:=by omega
    have e1:k/1=k:=Nat.div_one k;have e2:k%1=0:=Nat.mod_one k;rw[e1,e2]at hk;cases hk
    exact⟨_,by rw[aA];exact hcur k hi,rfl⟩⟩)
  rw[<-hl];refine⟨ρ',.slV false 2 1 ks.length,_,hO 3 [.cells 169 (.av [.mp 1]),.nK m.ms,ajn false ks],l3,by show 2<=3;decide,?_,.inr ⟨rfl,⟨g,0,cap⟩,_,_,l2,rfl,?_,?_⟩,rfl,l5,eF ⟨(false,ks),aZ.2 ⟨hk,λh=>nomatch h⟩,rfl,rfl⟩⟩
  ·exact l4
  ·omega
  ·exactλ_=>⟨rfl,by show cap*1<=cap;omega⟩
structure ZNx where
 L:Lks
 pos:ByteArray
 past:Bool
noncomputable def anS(b:Nat):aeW:={X:=ZNx,args:=λx=>[.ptr 0 0,i64 b,.lit (.string x.pos),boo x.past],L:=λx=>x.L,pre:=λx=>Hd (x.pos.size<1099511627776),outs:=[
 {Y:=Unit,post:=λx _=>Hd (nextL x.L b x.pos x.past=none),ret:=λ_ _=> .tup [iQ.av,boo false],L:=λx _=>x.L,m:=1,ex:=λ_ _=>[]},
 {Y:=ZLnk,post:=λx y=>Hd (nextL x.L b x.pos x.past=some y),ret:=λ_ y=> .tup [y.av,boo true],L:=λx _=>x.L,m:=1,ex:=λ_ _=>[]}]}
def txtV:List Value->ByteArray
 |[.string s]=>s
 |_=>⟨#[]⟩
def apQ(x:ZNx×iY):FuncId->qL:=λf=>bif Nat.beq f 182 then(λb _ h=>bif Nat.beq b 0 then(match h.get 11 with
 |some (.iC _ _ (.row _ n g _))=>[{σ:=Nat,fr:=λi=>[(34,i64 i)],ob:=λ_=>[],inv:=λi=>Hd (i<=n/\ ∀j,j<i->x.1.past=true/\kl x.1.pos (txtV (g j))=false),meas:=λi=>n-i}]
 |_=>[])else [])elseλ_ _ _=>[]
noncomputable def ava:je:=[(230,ctrT ajo)]
def nEnd(b:Nat)(x:ZNx×iY)(m:ZMs)(l:ZLnk)(f:Bool):Prop:=(∃y:Unit×iY,(Hd (nextL x.1.L b x.1.pos x.1.past=none)/\Hd (lJ x.1.L y.2))/\(WV iQ l/\false=f/\True)/\Ht y.2 x.2 b m.ms)\/ ∃y:ZLnk×iY,(Hd (nextL x.1.L b x.1.pos x.1.past=some y.1)/\Hd (lJ x.1.L y.2))/\(WV y.1 l/\true=f/\True)/\Ht y.2 x.2 b m.ms
def nInv(x:ZNx×iY)(y:Bool×List ByteArray)(s:Nat):Prop:=Hd (s<=y.2.length/\ ∀j,j<s->x.1.past=true/\kl x.1.pos (FI y.2 j)=false)
def asC(b:Nat)(x:ZNx×iY)(m:ZMs)(y:Bool×List ByteArray):Prop:=(y.1=y.1/\y.2.length=y.2.length/\ ∀q:Nat,q<y.2.length->[Value.string (FI y.2 q)]=[Value.string (FI y.2 q)])/\(True/\True)/\WV iQ iQ/\
 (bif Nat.beq b 7 then m.ms else(x.2 7).ms)=(bif Nat.beq b 7 then m.ms else(x.2 7).ms)/\(bif Nat.beq b 6 then m.ms else(x.2 6).ms)=(bif Nat.beq b 6 then m.ms else(x.2 6).ms)/\(bif Nat.beq b 5 then m.ms else(x.2 5).ms)=(bif Nat.beq b 5 then m.ms else(x.2 5).ms)/\(bif Nat.beq b 4 then m.ms else(x.2 4).ms)=(bif Nat.beq b 4 then m.ms else(x.2 4).ms)/\(bif Nat.beq b 3 then m.ms else(x.2 3).ms)=(bif Nat.beq b 3 then m.ms else(x.2 3).ms)/\(bif Nat.beq b 2 then m.ms else(x.2 2).ms)=(bif Nat.beq b 2 then m.ms else(x.2 2).ms)/\(bif Nat.beq b 1 then m.ms else(x.2 1).ms)=(bif Nat.beq b 1 then m.ms else(x.2 1).ms)/\(bif Nat.beq b 0 then m.ms else(x.2 0).ms)=(bif Nat.beq b 0 then m.ms else(x.2 0).ms)/\att/\True
def nHit(b:Nat)(x:ZNx×iY)(m:ZMs)(y:Bool×List ByteArray)(s:Nat):Prop:=apM m (FI y.2 (0+s)) (λj=>nEnd b x m (m.lk j) true)/\kNo m (FI y.2 (0+s)) (nEnd b x m iQ true)
def gtrB(a b:ByteArray):Bool:= !(Op.bytesLess a.toList b.toList||a.toList==b.toList)
def avb(b:Nat)(x:ZNx×iY):Prop:=((0:Int)<=b/\(0:Int)<=(7:Int)-b)/\ ∃m:ZMs,Hd m.good/\((Fn.func 266=Fn.func 266/\True/\0=0/\True)/\True)/\((True/\True)/\m.ms=(x.2 b).ms/\True)/\
 ∀y:Bool×List ByteArray,Hd (ajm m y.2/\(y.1=true->y.2=[]))->(∃s:Nat,nInv x y s/\True/\((s:Int)=0/\True)/\asC b x m y)/\
  (∀s:Nat,nInv x y s->cP (decide ((s:Int)<((y.2.length:Nat):Int))) ((0<=(s:Int)/\(s:Int)<((y.2.length:Nat):Int))/\0+s<y.2.length/\cP (!x.1.past) (nHit b x m y s) (cP (gtrB (FI y.2 (0+s)) x.1.pos) (nHit b x m y s)
   (I64 ((s:Int)+1)/\ ∃s1:Nat,nInv x y s1/\y.2.length-s1<y.2.length-s/\((s1:Int)=(s:Int)+1/\True)/\asC b x m y))) (nEnd b x m iQ false))/\True
theorem anT: ∀b,b<8-> ∀x,avb b x=wpF Tryz.prog ava tt (apQ x) 200 6 182 ((anS b).E.args x) (hO 9 (flatP 1 ((anS b).E.l x))) (λv h'=>endsPK 1 x v h' (anS b).E.outs)
 |0,_=>λx=>by kernel_rfl
 |1,_=>λx=>by kernel_rfl
 |2,_=>λx=>by kernel_rfl
 |3,_=>λx=>by kernel_rfl
 |4,_=>λx=>by kernel_rfl
 |5,_=>λx=>by kernel_rfl
 |6,_=>λx=>by kernel_rfl
 |7,_=>λx=>by kernel_rfl
 |b+8,h=>absurd h (by omega)
theorem ajq(a b:ByteArray):gtrB a b=kl b a:=by
 unfold gtrB kl;cases h1:Op.bytesLess a.toList b.toList with
 |true=>
  have:Op.bytesLess b.toList a.toList=false:=by
   cases h2:Op.bytesLess b.toList a.toList with
   |false=>rfl
   |true=>have:=Lj h1 h2;rw[aaX]at this;cases this
  rw[this];rfl
 |false=>
  cases h2:Op.bytesLess b.toList a.toList with
  |true=>
   have hne:(a.toList==b.toList)=false:=by
    rw[beq_eq_false_iff_ne];intro e;rw[e,aaX]at h2;cases h2
   rw[hne];rfl
  |false=>
   have:=aiS _ _ h1 h2;rw[this];simp
theorem adN{L:Lks}(hs:srt L){p:ZLnk->Bool}{l:ZLnk}(hl:l∈L)(hp:p l=true)(hn: ∀l'∈L,kl l'.key l.key=true->p l'=false):L.find? p=some l:=by
 induction L with
 |nil=>cases hl
 |cons x L ih=>
  obtain⟨h1,h2⟩:=List.pairwise_cons.1 hs;rcases List.mem_cons.1 hl with rfl|hl
  ·rw[List.find?_cons_of_pos hp]
  ·rw[List.find?_cons_of_neg (by rw[hn x List.mem_cons_self (h1 l hl)];decide)]
   exact ih h2 hl λl' hl'=>hn l' (List.mem_cons_of_mem _ hl')
theorem asD{ks:List ByteArray}{i:Nat}(h:i<ks.length):FI ks i∈ks:=by
 unfold FI;rw[List.getD_eq_getElem?_getD,List.getElem?_eq_getElem h];exact List.getElem_mem h
theorem asE{ks:List ByteArray}{s:ByteArray}(h:s∈ks): ∃i,i<ks.length/\FI ks i=s:=by
 obtain⟨i,hi,rfl⟩:=List.mem_iff_getElem.1 h;exact⟨i,hi,by unfold FI;rw[List.getD_eq_getElem?_getD,List.getElem?_eq_getElem hi];rfl⟩
theorem avc{ks:List ByteArray}(h:ks.Pairwise λa b=>kl a b=true){i j:Nat}(hi:i<ks.length)(hj:j<ks.length)(hk:kl (FI ks i) (FI ks j)=true):i<j:=by
 rcases Nat.lt_trichotomy i j with h'|h'|h'
 ·exact h'
 ·subst h';rw[mX]at hk;cases hk
 ·have e: ∀q,q<ks.length->FI ks q=ks[q]! :=λq hq=>by unfold FI;rw[List.getD_eq_getElem?_getD,List.getElem!_eq_getElem?_getD];rfl
  have:=List.pairwise_iff_getElem.1 h j i hj hi h';have e1:FI ks i=ks[i]:=by unfold FI;rw[List.getD_eq_getElem?_getD,List.getElem?_eq_getElem hi];rfl
  have e2:FI ks j=ks[j]:=by unfold FI;rw[List.getD_eq_getElem?_getD,List.getElem?_eq_getElem hj];rfl
  rw[e1,e2]at hk;have:=jC this hk;rw[mX]at this;cases this
theorem lJ.good{L:Lks}{t:iY}(h:lJ L t){b:Nat}(hb:b<8):(t b).good:=by
 refine⟨?_,λj hj=>h.key _ (h.mem b hb j hj).1,h.inj b hb,h.born b hb,h.bi b hb⟩;rw[h.n hb];exact Nat.le_trans (List.length_filter_le _ _) h.size
theorem Sl{t:iY}{b:Nat}(hb:b<8):Ht t t b (t b).ms:=by
 have e: ∀k,k<8->(t k).ms=(bif Nat.beq b k then(t b).ms else(t k).ms):=λk hk=>by
  rw[dD];by_cases h:b=k
  ·subst h;simp
  ·rw[decide_eq_false h];rfl
 exact⟨BK,e 0 (by decide),e 1 (by decide),e 2 (by decide),e 3 (by decide),e 4 (by decide),e 5 (by decide),e 6 (by decide),e 7 (by decide),trivial⟩
theorem adO{b:Nat}(hb:b<8)(x:ZNx×iY)(h:lJ x.1.L x.2):avb b x:=by
 have hz:=(h.good hb).size;refine⟨⟨by omega,by omega⟩,x.2 b,aZ.2 (h.good hb),⟨⟨rfl,trivial,rfl,trivial⟩,trivial⟩,⟨⟨trivial,trivial⟩,rfl,trivial⟩,λy hy=> ?_⟩;obtain⟨⟨k1,k2,k3⟩,_⟩:=aZ.1 hy;have keep:asC b x (x.2 b) y:=⟨⟨rfl,rfl,λ_ _=>rfl⟩,⟨trivial,trivial⟩,kG,rfl,rfl,rfl,rfl,rfl,rfl,rfl,rfl,BK,trivial⟩;have key: ∀l∈x.1.L,bkt l.key=b-> ∃i,i<y.2.length/\FI y.2 i=l.key:=λl hl hlb=>by
  obtain⟨j,h1,h2⟩:=h.all l hl;rw[hlb]at h1 h2;exact asE ((k3 l.key).2 ⟨j,h1,by rw[h2]⟩)
 refine⟨⟨0,aZ.2 ⟨Nat.zero_le _,λj hj=>absurd hj (Nat.not_lt_zero j)⟩,trivial,⟨rfl,trivial⟩,keep⟩,λs hs=> ?_,trivial⟩;obtain⟨s1,s2⟩:=aZ.1 hs;refine bf (λhc=> ?_) λhc=> ?_
 ·have hlt:s<y.2.length:=by have:=aS hc;omega
  have hit:((!x.1.past)||kl x.1.pos (FI y.2 s))=true->nHit b x (x.2 b) y s:=λhp=>by
   unfold nHit;rw[aA];refine⟨λj hj hk=> .inr ⟨((x.2 b).lk j,x.2),⟨aZ.2 ?_,aZ.2 h⟩,⟨kG,rfl,trivial⟩,Sl hb⟩,λhn=> ?_⟩
   ·obtain⟨m1,m2⟩:=h.mem b hb j hj
    refine adN h.srt m1 ?_ λl' hl' hk'=> ?_
    ·rw[decide_eq_true m2,hk,aH];exact hp
    ·by_cases hlb:bkt l'.key=b
     ·obtain⟨i,hi,he⟩:=key l' hl' hlb
      rw[hk,<-he]at hk';have:=avc k1 hi hlt hk';obtain⟨p1,p2⟩:=s2 i this;rw[<-he,p1,p2];simp
     ·rw[decide_eq_false hlb];rfl
   ·obtain⟨j,hj,hk⟩:=(k3 _).1 (asD hlt)
    exact(hn j hj hk).elim
  refine⟨⟨by omega,by omega⟩,by omega,bf (λhp=>hit (by rw[hp];rfl)) λhp=>bf (λhq=> ?_) λhq=> ?_⟩
  ·rw[ajq,aA]at hq
   exact hit (by rw[hq];simp)
  ·rw[ajq,aA]at hq
   refine⟨by unfold I64;omega,s+1,aZ.2 ⟨by omega,λj hj=> ?_⟩,by omega,⟨by omega,trivial⟩,keep⟩;by_cases e:j=s
   ·subst e;exact⟨by simpa using hp,hq⟩
   ·exact s2 j (by omega)
 ·have hge:y.2.length<=s:=by have:=aT hc;omega
  refine .inl ⟨((),x.2),⟨aZ.2 (List.find?_eq_none.2 λl hl=> ?_),aZ.2 h⟩,⟨kG,rfl,trivial⟩,Sl hb⟩;by_cases hlb:bkt l.key=b
  ·obtain⟨i,hi,he⟩:=key l hl hlb
   obtain⟨p1,p2⟩:=s2 i (by omega);rw[<-he,p1,p2];simp
  ·rw[decide_eq_false hlb];simp
theorem anU:dZ Tryz.prog ava:= .cons (bP ajp) .nil
theorem ajr{b:Nat}(hb:b<8):cO Tryz.prog 182 (anS b).C:=Fv ⟨Tryz.f182,by kernel_rfl,by kernel_rfl,by kernel_rfl⟩ (List.forall_mem_cons.2 ⟨λ_ _=>rfl,List.forall_mem_cons.2 ⟨λ_ _=>rfl,λ_ h=>(List.not_mem_nil h).elim⟩⟩) (dh dG mixed anU 9 apQ 200 6 (λ_=>⟨rfl,rfl,rfl,rfl⟩) λx hx=>Eq.mp (anT b hb x) (adO hb x (aZ.1 hx.2)))
structure ZNk where
 L:Lks
 s:ByteArray
 pos:ByteArray
 past:Bool
noncomputable def nextK:aeW:={X:=ZNk,args:=λx=>[.ptr 0 0,i64 (bkt x.s),.lit (.string x.pos),boo x.past],L:=λx=>x.L,pre:=λx=>Hd (x.pos.size<1099511627776),outs:=[
 {Y:=Unit,post:=λx _=>Hd (nextL x.L (bkt x.s) x.pos x.past=none),ret:=λ_ _=> .tup [iQ.av,boo false],L:=λx _=>x.L,m:=1,ex:=λ_ _=>[]},
 {Y:=ZLnk,post:=λx y=>Hd (nextL x.L (bkt x.s) x.pos x.past=some y),ret:=λ_ y=> .tup [y.av,boo true],L:=λx _=>x.L,m:=1,ex:=λ_ _=>[]}]}
theorem anV:cO Tryz.prog 182 nextK.C:=jg λx hx=>⟨_,ajr (qJ x.s),rfl,⟨x.L,x.pos,x.past⟩,hx,rfl,rfl,λv h' hh=>by
 rcases nZ hh with ⟨y,h0,e1,e2⟩|⟨y,h0,e1,e2⟩
 ·exact eF ⟨(),h0,e1,e2⟩
 ·exact ER ⟨y,h0,e1,e2⟩⟩
end Go.Proofs.YtenfleoejgjklaaGreat
end
section
namespace Go.Proofs.YtenfleoejgjklaaGreat
open Go Go.Shelf Go.RowKit Go.Lib Go.Sort
def Tryz.sortFA_ren:Go.Shelf.Ren:=⟨λ|6=>118|15=>175|14=>174|28=>225|29=>226|20=>217|21=>218|22=>219|23=>220|24=>221|25=>222|26=>223|27=>224|46=>258|47=>259|48=>260|49=>261|50=>262|57=>286|n=>n,λ|22=>123|24=>41|25=>240|3=>3|39=>114|0=>0|53=>135|55=>31|4=>4|46=>330|45=>329|50=>334|5=>5|9=>9|66=>362|70=>365|76=>380|77=>381|n=>n,λ|n=>n⟩
theorem Tryz.sortFA:Go.Proofs.SlLaysF0.n6 Tryz.prog Tryz.sortFA_ren:={
 mixed:=by kernel_rfl
 f6:=⟨Tryz.f118.name,by decide,Tryz.func118.trans (congrArg some (by kernel_rfl))⟩
 f14:=⟨Tryz.f174.name,by decide,Tryz.func174.trans (congrArg some (by kernel_rfl))⟩
 f15:=Tryz.func175.trans (congrArg some (by kernel_rfl))
 f20:=⟨Tryz.f217.name,by decide,Tryz.func217.trans (congrArg some (by kernel_rfl))⟩
 f21:=⟨Tryz.f218.name,by decide,Tryz.func218.trans (congrArg some (by kernel_rfl))⟩
 f22:=⟨Tryz.f219.name,by decide,Tryz.func219.trans (congrArg some (by kernel_rfl))⟩
 f23:=⟨Tryz.f220.name,by decide,Tryz.func220.trans (congrArg some (by kernel_rfl))⟩
 f24:=⟨Tryz.f221.name,by decide,Tryz.func221.trans (congrArg some (by kernel_rfl))⟩
 f25:=⟨Tryz.f222.name,by decide,Tryz.func222.trans (congrArg some (by kernel_rfl))⟩
 f26:=⟨Tryz.f223.name,by decide,Tryz.func223.trans (congrArg some (by kernel_rfl))⟩
 f27:=⟨Tryz.f224.name,by decide,Tryz.func224.trans (congrArg some (by kernel_rfl))⟩
 f28:=Tryz.func225.trans (congrArg some (by kernel_rfl))
 f29:=Tryz.func226.trans (congrArg some (by kernel_rfl))
 f46:=⟨Tryz.f258.name,by decide,Tryz.func258.trans (congrArg some (by kernel_rfl))⟩
 f47:=Tryz.func259.trans (congrArg some (by kernel_rfl))
 f48:=Tryz.func260.trans (congrArg some (by kernel_rfl))
 f49:=⟨Tryz.f261.name,by decide,Tryz.func261.trans (congrArg some (by kernel_rfl))⟩
 f50:=⟨Tryz.f262.name,by decide,Tryz.func262.trans (congrArg some (by kernel_rfl))⟩
 f57:=⟨Tryz.f286.name,by decide,Tryz.func286.trans (congrArg some (by kernel_rfl))⟩
 t0:=Tryz.underlying0
 a0:=Tryz.isAgg0
 z0:=Tryz.sizeOf0
 v0:=Tryz.zeroValue0
 t3:=Tryz.underlying3
 a3:=Tryz.isAgg3
 z3:=Tryz.sizeOf3
 v3:=Tryz.zeroValue3
 t4:=Tryz.underlying4
 a4:=Tryz.isAgg4
 z4:=Tryz.sizeOf4
 v4:=Tryz.zeroValue4
 t5:=Tryz.underlying5
 a5:=Tryz.isAgg5
 z5:=Tryz.sizeOf5
 v5:=Tryz.zeroValue5
 t9:=Tryz.underlying9
 a9:=Tryz.isAgg9
 z9:=Tryz.sizeOf9
 v9:=Tryz.zeroValue9
 t22:=Tryz.underlying123
 a22:=Tryz.isAgg123
 z22:=Tryz.sizeOf123
 v22:=Tryz.zeroValue123
 t25:=Tryz.underlying240
 a25:=Tryz.isAgg240
 z25:=Tryz.sizeOf240
 v25:=Tryz.zeroValue240
 t39:=Tryz.underlying114
 a39:=Tryz.isAgg114
 z39:=Tryz.sizeOf114
 v39:=Tryz.zeroValue114
 t45:=Tryz.underlying329
 a45:=Tryz.isAgg329
 z45:=Tryz.sizeOf329
 v45:=Tryz.zeroValue329
 t46:=Tryz.underlying330
 a46:=Tryz.isAgg330
 z46:=Tryz.sizeOf330
 v46:=Tryz.zeroValue330
 t50:=Tryz.underlying334
 a50:=Tryz.isAgg334
 z50:=Tryz.sizeOf334
 v50:=Tryz.zeroValue334
 t53:=Tryz.underlying135
 a53:=Tryz.isAgg135
 z53:=Tryz.sizeOf135
 v53:=Tryz.zeroValue135
 t55:=Tryz.underlying31
 a55:=Tryz.isAgg31
 z55:=Tryz.sizeOf31
 v55:=Tryz.zeroValue31
 t66:=Tryz.underlying362
 a66:=Tryz.isAgg362
 z66:=Tryz.sizeOf362
 v66:=Tryz.zeroValue362
 t70:=Tryz.underlying365
 a70:=Tryz.isAgg365
 z70:=Tryz.sizeOf365
 v70:=Tryz.zeroValue365
 t76:=Tryz.underlying380
 a76:=Tryz.isAgg380
 z76:=Tryz.sizeOf380
 v76:=Tryz.zeroValue380
 t77:=Tryz.underlying381
 a77:=Tryz.isAgg381
 z77:=Tryz.sizeOf381
 v77:=Tryz.zeroValue381}
def Tryz.cmpStrA_ren:Go.Shelf.Ren:=⟨λ|106=>120|213=>176|265=>227|n=>n,λ|9=>9|3=>3|n=>n,λ|n=>n⟩
theorem Tryz.cmpStrA:Go.Proofs.Lays.n106 Tryz.prog Tryz.cmpStrA_ren:={
 mixed:=by kernel_rfl
 f106:=Tryz.func120.trans (congrArg some (by kernel_rfl))
 f213:=Tryz.func176.trans (congrArg some (by kernel_rfl))
 f265:=Tryz.func227.trans (congrArg some (by kernel_rfl))
 t3:=Tryz.underlying3
 a3:=Tryz.isAgg3
 z3:=Tryz.sizeOf3
 v3:=Tryz.zeroValue3
 t9:=Tryz.underlying9
 a9:=Tryz.isAgg9
 z9:=Tryz.sizeOf9
 v9:=Tryz.zeroValue9}
instance:Inhabited ZLnk:=⟨iQ⟩
def alj(l:ZLnk):List Value:=l.cs
def cfL(a b:ZLnk):Int:=Lib.compareBytes a.key.data.toList b.key.data.toList
set_option maxHeartbeats 1000000 in
theorem ajs(x y:ZLnk)(W:World):Calls Tryz.prog 119 #[.agg (alj x).toArray,.agg (alj y).toArray] W λe w'=>e= .returned (.int .i64 (cfL x y))/\ ∃q os',w'=grow (W.drewN q) os':=by
 have hcon:=λa b W'=>Any.strings_Compare Tryz.cmpStrA a b W'
 change∀a b W',Calls Tryz.prog 120 _ _ _ at hcon;unfold cfL;generalize hr:(λa b:ByteArray=>Lib.compareBytes a.data.toList b.data.toList)=r;have hcon: ∀(a b:ByteArray) (W':World),Calls Tryz.prog 120 #[.string a,.string b] W' λe w'=>e= .returned (.int .i64 (r a b))/\w'=W':=by subst hr;exact hcon
 have hg:Lib.compareBytes x.key.data.toList y.key.data.toList=r x.key y.key:=by subst hr;rfl
 rw[hg];clear hg hr;obtain⟨xk,x1,x2,x3,x4⟩:=x;obtain⟨yk,y1,y2,y3,y4⟩:=y;simp only[alj,ZLnk.cs]
 go_enter Tryz.func119,Tryz.ntmps119
 go_wp2_with (go_at_call 120;refine(hcon _ _ _).mono ?_;rintro e w' ⟨rfl,rfl⟩)
 go_ret
 exact⟨rfl,0,_,by rw[alloc_eq_grow,alloc_eq_grow,grow_grow];rfl⟩
end Go.Proofs.YtenfleoejgjklaaGreat
end
section
namespace Go.Proofs.YtenfleoejgjklaaGreat
open Go SE
noncomputable def abd:Ctr:=det Unit (λ_=>[gQ,.fn (.func 119) [] []]) 1 (λ_=>[.abs Ce]) (λ_=>True) (λ_=> .tup []) 1 (λ_=>[.abs Ce])
def Xb(x:Unit):Prop:=
 ((0:Int)<=0/\(0:Int)<=255)/\I64 (0:Int)/\I64 (0:Int)/\I64 (0:Int)/\I64 (1:Int)/\ ∃y:Unit,True/\True/\Ce=Ce/\True
theorem adP(x:Unit):Xb x=wpF Tryz.prog [] tt (noA x) 200 6 118 (abd.args x) (hO 1 (abd.os x)) (λv h'=>eX 1 x v h' abd.outs):=by kernel_rfl
end Go.Proofs.YtenfleoejgjklaaGreat
end
section
namespace Go.Proofs.YtenfleoejgjklaaGreat
open Go SE
open Go.Shelf Go.RowKit Go.Lib Go.Sort
theorem Sm(x:Unit):Xb x:=by
 unfold Xb;simp only[aZ,aV,aU,aA,aI,bU,bG,aO,aK,ay,aX,aW,I64];omega
theorem anW:cO Tryz.prog 118 abd:=dM dG mixed .nil noA 200 6 (λ_=>rfl) (λ_=>rfl) λx _=>Eq.mp (adP x) (Sm x)
theorem LJ(x y:ZLnk):ltOf cfL x y=kl x.key y.key:=by
 unfold ltOf cfL kl;rw[iH,iH];have h:=(nT x.key.data.toList y.key.data.toList).1;cases hb:Op.bytesLess x.key.data.toList y.key.data.toList with
 |true=>exact decide_eq_true (h.2 hb)
 |false=>exact decide_eq_false λhc=>by rw[h.1 hc]at hb;cases hb
theorem swoL:SWO (ltOf cfL):={
 irrefl x:=by rw[LJ];exact mX _
 trans x y z h1 h2:=by rw[LJ]at*;exact jC h1 h2
 ntrans x y z h1 h2:=by
  rw[LJ]at*
  cases hz:kl x.key z.key with
  |false=>rfl
  |true=>
   cases hy:kl y.key x.key with
   |true=>rw[jC hy hz]at h2;cases h2
   |false=>rw[aaY h1 hy]at hz;rw[hz]at h2;cases h2}
theorem anX{h:Heap}{ρ:SE.Ren}{T:Nat->Prop}{w w':World}(hR:Rel h ρ T w)(hs:w.heap.size<=w'.heap.size)(hw: ∀b,b<w.heap.size->w'.heap[b]? =w.heap[b]?):Rel h ρ T w':=by
 obtain⟨S,h1,h2,h3,h4,h5⟩:=hR;refine⟨S,λi o hi=> ?_,h2,λi o b hi hS=>⟨(h3 i o b hi hS).1,Nat.lt_of_lt_of_le (h3 i o b hi hS).2 hs⟩,h4,λb hb=>h5 b (Nat.le_trans hs hb)⟩;obtain⟨a,ha,ho⟩:=h1 i o hi;refine⟨a,ha,ho.stays λb hb=>hw b ?_⟩;rcases hb with hb|hb
 ·exact(h3 i o b hi hb).2
 ·rcases Nat.lt_or_ge b w.heap.size with h'|h'
  ·exact h'
  ·exact(hb (h5 b h')).elim
theorem anY{L M:Lks}(hs:srt L)(hp:M.Perm L)(hm:M.Pairwise λa b=>kl b.key a.key=false):M=L:=by
 refine List.Perm.eq_of_pairwise (le:=λa b=>kl b.key a.key=false) (λa b ha hb h1 h2=> ?_) hm (hs.imp λ{a b} h=>WJ h) hp;exact Ll hs (hp.mem_iff.1 ha) hb (aaY h2 h1)
theorem Sr(g:Nat->ZLnk){n k:Nat}(hk:k<n*5):(Cs.row 5 n (λq=>(g q).cs) []).get k=some (.lit ((g (k/5)).cs[k%5]!)):=by
 unfold Cs.get;rw[bg.2 hk,aP];have hl:(g (k/5)).cs.length=5:=rfl;have hm:k%5<5:=Nat.mod_lt _ (by decide);have he:Cs.eff (λq=>(g q).cs) [] (k/5)=(g (k/5)).cs:=rfl;rw[he,List.getElem?_eq_getElem (by rw[hl];exact hm),List.getElem!_eq_getElem?_getD,List.getElem?_eq_getElem (by rw[hl];exact hm)];rfl
structure ZSl where
 z:Bool
 M:Lks
 L:Lks
noncomputable def apR:Ctr:=det ZSl (λx=>[.slV x.z 0 5 x.M.length,.fn (.func 119) [] []]) 1 (λx=>[wC x.z x.M]) (λx=>Hd (srt x.L/\x.M.Perm x.L/\x.M.length<=300)) (λ_=> .tup []) 1 (λx=>[wC x.z x.L])
theorem ajt(M:Lks)(i:Nat)(h:i<M.length):(M.toArray)[i]! =nthL M i:=by
 unfold nthL;rw[getElem!_pos _ i (by simpa using h),List.getD_eq_getElem?_getD,List.getElem?_eq_getElem h];simp
set_option maxRecDepth 20000 in
theorem anZ{M L:Lks}(hs:srt L)(hp:M.Perm L)(hlen:M.length<=300){w:World}{blk off cap:Nat}(hoff:M.length≠0->off=0){arr:Array Value}(hb:w.heap[blk]? =some (.cells arr 41 (0,0)))(hsz:M.length*5<=arr.size)(hc: ∀k,k<M.length*5->arr[k]? =some ((nthL M (k/5)).cs[k%5]!)):
  Calls Tryz.prog 118 #[.slice (some ⟨blk,off,none⟩) M.length cap,.func (.func 119) #[] #[]] w λe w'=>e= .returned (.tuple #[])/\
   (∃arr',w'.heap[blk]? =some (.cells arr' 41 (0,0))/\arr'.size=arr.size/\ ∀k,k<L.length*5->arr'[k]? =some ((nthL L (k/5)).cs[k%5]!))/\w.heap.size<=w'.heap.size/\(w'.os=w.os/\w'.tape=w.tape/\w'.output=w.output)/\ ∀b,b≠blk->b<w.heap.size->w'.heap[b]? =w.heap[b]? :=by
 have hbl:blk<w.heap.size:=(Array.getElem?_eq_some_iff.1 hb).1;have hdz:(M.toArray).size=M.length:=by simp
 have nth: ∀i,i<M.length->(M.toArray)[i]! =nthL M i:=λi hi=>ajt M i hi
 have hH:HoldsK alj 5 w blk off M.toArray:=by
  intro t ht;rw[size_flatK,hdz]at ht;obtain rfl:=hoff (by omega);rw[get_flatK _ _ _ _ (by rw[hdz];exact ht),nth _ (by omega)];refine⟨?_,by simp[World.frozen?,hb]⟩;have:=hc t ht;simp only[World.cell?,hb,aA];simpa[alj]using this
 have h:=AnyQ.slices_SortFunc Tryz.sortFA 5 Tryz.isAgg41 Tryz.sizeOf41 alj (λ_=>rfl) (λx v hv=>by simp[alj,ZLnk.cs]at hv;rcases hv with rfl|rfl|rfl|rfl|rfl<;>rfl) cfL swoL 119 #[] blk off cap M.toArray w (enters_of Tryz.func119 (by kernel_rfl) rfl) (λ_ _ _ _ x y=>ajs x y _) hH hbl (by rw[hdz];omega);rw[hdz]at h;refine Calls.mono h ?_
 rintro e w' ⟨rfl,d',n,os,⟨p1,p2,p3⟩,hso,rfl⟩
 have hd':d'.size=M.length:=by rw[p1,hdz]
 have hDL:d'.toList=L:=by
  refine anY hs ?_ ?_
  ·have e1:(d'.extract 0 M.length).toList=d'.toList:=by simp[<-hd']
   have e2:((M.toArray).extract 0 M.length).toList=M:=by simp
   rw[e1,e2]at p3;exact p3.trans hp
  ·refine List.pairwise_iff_getElem.2 λi j hi hj hij=> ?_
   have hi':i<d'.size:=by simpa using hi
   have hj':j<d'.size:=by simpa using hj
   have:=hso i j (Nat.zero_le _) hij (by omega);rw[LJ,getElem!_pos _ i hi',getElem!_pos _ j hj']at this;simpa using this
 have hdA:d'=L.toArray:=by rw[<-hDL]
 have hLl:L.length=M.length:=hp.symm.length_eq;subst hdA;have e2:(sortWorldK alj 5 w blk off n L.toArray os).heap[blk]? =some (.cells (putCells id off (flatK alj 5 L.toArray) arr) 41 (0,0)):=by
  unfold sortWorldK putRowK;rw[heap_grow_old _ _ (by simpa using hbl)];simp[Sort.putRow,mapBlock,Sort.ahead,Array.getElem?_modify,hb,onCells]
 refine⟨rfl,⟨_,e2,by simp[putCells],λk hk=> ?_⟩,?_,⟨rfl,rfl,rfl⟩,λb hne hlt=> ?_⟩
 ·have hka:k<arr.size:=by omega
  obtain rfl:=hoff (by omega);have hfl:=get_flatK alj 5 L.toArray k (by simpa using hk);simp only[putCells,Array.getElem?_mapIdx,Nat.zero_le,aU,aA,aN,size_flatK];rw[Array.getElem?_eq_getElem hka];simp only[Option.map_some];rw[if_pos (by simpa using hk),hfl,ajt L _ (by omega)];rfl
 ·unfold sortWorldK putRowK
  simp[grow,Sort.putRow,mapBlock,Sort.ahead]
 ·unfold sortWorldK putRowK
  rw[heap_grow_old _ _ (by simpa using hlt)];simp[Sort.putRow,mapBlock,Sort.ahead,Array.getElem?_modify,Ne.symm hne]
end Go.Proofs.YtenfleoejgjklaaGreat
end
section
namespace Go.Proofs.YtenfleoejgjklaaGreat
open Go SE
set_option maxRecDepth 20000 in
theorem an0:cO Tryz.prog 118 apR:=λx hx=>⟨rfl,by
 obtain⟨hs,hp,hlen⟩:=aZ.1 hx;have hcall:lN Tryz.prog 118:=⟨Tryz.f118,by kernel_rfl,by kernel_rfl,by kernel_rfl⟩;obtain⟨z,M,L⟩:=x;simp only at hs hp hlen;have hLl:L.length=M.length:=hp.symm.length_eq;refine ai4 (k:=1) (os:=[]) rfl hcall (λhz hn=> ?_) λhz=> ?_
 ·have hM:M=[]:=List.eq_nil_of_length_eq_zero hn
  have hL:L=[]:=List.eq_nil_of_length_eq_zero (by rw[hLl];exact hn);have hz:z=true:=hz;subst hz hM hL;refine Bh (((anW () trivial).2).mono λv h' hh=> ?_);have hh:(∃y:Unit,True/\v= .tup []/\h'=hO 1 [.abs Ce])\/False:=by with_unfolding_all exact hh
  rcases hh with ⟨_,_,rfl,rfl⟩|hh
  ·refine⟨.tup [],hO 1 [wC true []],?_,by with_unfolding_all exact Or.inl ⟨(),trivial,rfl,rfl⟩⟩
   refine uP (m:=1) rfl rfl (aY _) λi o o' hi hi'=> ?_
   match i,hi,hi' with
   |0,hi,hi'=>cases hi;cases hi';exactλ_ _ _ _ _ _=> .inl ⟨rfl,rfl⟩
  ·exact hh.elim
 ·have hz:z=false:=hz
  subst hz;refine⟨hcall,λρ T w vs hR hl=> ?_⟩;obtain⟨u1,us,hvs,hu1,hl2⟩:=hl;obtain⟨u2,us2,rfl,hu2,hus⟩:=hl2;obtain rfl:us2=[]:=hus;obtain⟨a,p,c,ha,rfl,hnc,hpc⟩:=hu1;obtain⟨fa,ca,rfl,hfa,hca⟩:=hu2;have hfa:fa.toList=[]:=hfa;have hca:ca.toList=[]:=hca;obtain rfl:fa= #[]:=by cases fa;simp_all
  obtain rfl:ca= #[]:=by cases ca;simp_all
  obtain rfl:=vs2 hvs;obtain⟨S,h1,h2,h3,h4,h5⟩:=id hR;obtain⟨a',ha',hO⟩:=h1 0 _ rfl;rw[ha]at ha';cases ha';obtain⟨hb0,hS,arr,ha1,ha2,ha3,ha4⟩:=hO;have hbl:a.blk<w.heap.size:=(h3 0 _ _ rfl hS).2;have hTa:=(h3 0 _ _ rfl hS).1;have ha3:M.length*5<=a.lim:=ha3;have ha2:arr.size=a.lim:=ha2;have hnc:M.length<=c:=hnc;have hb0':a.base=0:=hb0;have hc: ∀k,k<M.length*5->arr[k]? =some ((nthL M (k/5)).cs[k%5]!):=λk hk=>by
   obtain⟨u,hu,hr⟩:=ha4 k _ (Sr (nthL M) hk);rw[aA]at hu;have hr:u=_:=hr;rw[hu,hr]
  refine(anZ hs hp hlen (off:=p+0) (cap:=c) (λhne=>by obtain⟨e,_⟩:=hpc (by omega);have e:p=a.base:=e;omega) ha1 (by omega) hc).mono ?_
  rintro e w' ⟨rfl,⟨arr',g1,g2,g3⟩,g4,⟨g5,g6,g7⟩,g8⟩
  have hRel:Rel (hO 1 [wC false L]) ρ T w':=by
   let w1:World:={w with heap:=w.heap.setIfInBounds a.blk (.cells arr' 41 (0,0))}
   have r1:Rel ((hO 1 [.room 41 (.row 5 M.length (λq=>(nthL M q).cs) [])]).set 0 (wC false L)) ρ T w1:=hR.upd rfl ha (by simp[w1]) (λb hb=>by simp[w1,Array.getElem?_setIfInBounds,Ne.symm hb]) (λS hS=>hS.2.1) λS hS _=> .inr ⟨rfl,hb0,hS,arr',by simp[w1,hbl],by rw[g2];exact ha2,by show L.length*5<=a.lim;rw[hLl];exact ha3,λk v hk=>by
    rcases Nat.lt_or_ge k (L.length*5)with hk'|hk'
    ·rw[Sr (nthL L) hk']at hk
     cases hk;exact⟨_,by rw[aA];exact g3 k hk',rfl⟩
    ·unfold Cs.get at hk
     rw[show Nat.blt k (L.length*5)=false by rw[bY];exact decide_eq_false (by omega)]at hk
     cases hk⟩
   have r2:Rel (hO 1 [wC false L]) ρ T w1:=r1.less (by simp;exact aY _) λj y hj=>by rw[zV (by rfl)];exact hj
   refine anX r2 (by simpa[w1]using g4) λb hb=> ?_
   have hb:b<w.heap.size:=by simpa[w1]using hb
   by_cases e:b=a.blk
   ·subst e;rw[g1];simp[w1,hbl]
   ·rw[g8 b e hb];simp[w1,Array.getElem?_setIfInBounds,Ne.symm e]
  refine⟨ρ,.tup [],_,hO 1 [wC false L],λ_ _=>rfl,aY _,hRel,⟨#[],rfl,rfl⟩,rfl,⟨g4,g5,g6,g7,λb hb=> ?_⟩,by with_unfolding_all exact Or.inl ⟨(),trivial,rfl,rfl⟩⟩;rcases Nat.lt_or_ge b w.heap.size with h'|h'
  ·exact g8 b (λe=>hb (e▸hTa)) h'
  ·exact(hb (h5 b h')).elim⟩
noncomputable def allT:aeW:={X:=ZLq,args:=λ_=>[.ptr 0 0],L:=λx=>x.L,pre:=λ_=>True,outs:=[
 {Y:=Bool,post:=λx z=>Hd (z=true->x.L=[]),ret:=λx z=> .slV z 1 5 x.L.length,L:=λx _=>x.L,m:=2,ex:=λx z=>[wC z x.L]}]}
def ZMs.all(m:ZMs):Lks:=(List.range m.n).map m.lk
def oh(t:iY):Nat->Lks
 |0=>[]
 |k+1=>oh t k++(t k).all
structure ZAl where
 z:Bool
 M:Lks
 seen:List Nat
def allI(t:iY)(k:Nat)(s:ZAl):Prop:=(s.z=true->s.M=[])/\ ∃ps:List Nat,ps.Nodup/\(∀p∈ps,p<(t k).n)/\s.seen=ps.map (t k).born/\s.M.Perm (oh t k++ps.map (t k).lk)
def asF:AV->Nat
 | .lit (.int _ (Int.ofNat n))=>n
 | .slV _ i _ _=>i
 | .ptr i _=>i
 |_=>100000
def gone9:List (Nat×Option dF):=[(9,none),(10,none),(11,none),(12,none),(13,none),(14,none),(15,none),(16,none),(17,none),(18,none),(19,none),(20,none),(21,none),(22,none),(23,none),(24,none),(25,none),(26,none),(27,none),(28,none),(29,none),(30,none)]
noncomputable def apS(x:ZLq×iY):FuncId->qL:=λf=>bif Nat.beq f 68 then(λb fr h=>bif Nat.beq b 2 then [
 {σ:=ZAl,fr:=λs=>[(3,.slV s.z h.next 5 s.M.length)],ob:=λs=>(asF (SE.look fr 19),some (.iter (some (asF (SE.look fr 15)+1)) (x.2 (asF (SE.look fr 15))).clk s.seen (x.2 (asF (SE.look fr 15))).clk))::(h.next,some (wC s.z s.M))::gone9,nx:=1,inv:=λs=>Hd (allI x.2 (asF (SE.look fr 15)) s),meas:=λs=>(x.2 (asF (SE.look fr 15))).n-s.seen.length}]else [])elseλ_ _ _=>[]
noncomputable def aju:je:=[(118,ctrT apR)]
def ajv(a b:Lks):Prop:= ∀q:Nat,q<a.length->(nthL a q).cs=(nthL b q).cs
def Xc(x:ZLq×iY)(k:Nat):Prop:=(x.2 k).clk=(x.2 k).clk
def ms8d(x:ZLq×iY):Prop:=(x.2 7).ms=(x.2 7).ms/\(x.2 6).ms=(x.2 6).ms/\(x.2 5).ms=(x.2 5).ms/\(x.2 4).ms=(x.2 4).ms/\(x.2 3).ms=(x.2 3).ms/\(x.2 2).ms=(x.2 2).ms/\(x.2 1).ms=(x.2 1).ms/\(x.2 0).ms=(x.2 0).ms/\att/\True
def ms8u(y t:iY):Prop:=(y 0).ms=(t 0).ms/\(y 1).ms=(t 1).ms/\(y 2).ms=(t 2).ms/\(y 3).ms=(t 3).ms/\(y 4).ms=(t 4).ms/\(y 5).ms=(t 5).ms/\(y 6).ms=(t 6).ms/\(y 7).ms=(t 7).ms/\True
def avd(x:ZLq×iY)(k:Nat)(s:ZAl)(j j1:Nat):Prop:=s.z=s.z/\s.M.length=s.M.length/\List.all [List.take 5 ((x.2 k).lk j1).cs] (λl=>Nat.beq l.length 5&&l.all Value.oneCell')=true/\(2*(s.M.length+1)+1000)*48<=281474976710656/\
 ∃s1:ZAl,Hd (allI x.2 k s1)/\(x.2 k).n-s1.seen.length<(x.2 k).n-s.seen.length/\((s1.z=false/\s1.M.length=s.M.length+1)/\True)/\(s1.z=false/\s1.M.length=s.M.length+[List.take 5 ((x.2 k).lk j1).cs].length/\ ∀q:Nat,q<s1.M.length->(nthL s1.M q).cs=Cs.eff (λq=>(nthL s.M q).cs) [(s.M.length,List.take 5 ((x.2 k).lk j1).cs)] q)/\(Xc x k/\s1.seen=s.seen++[(x.2 k).born j]/\Xc x k)/\ms8d x
def ajw(x:ZLq×iY)(k:Nat)(s:ZAl)(R:Prop):Prop:=(∀j:Nat,j<(x.2 k).n->(x.2 k).born j<(x.2 k).clk)/\Xc x k/\Xc x k/\
 (∀j:Nat,j<(x.2 k).n->((x.2 k).born j∈s.seen->False)->Xc x k/\(∃j1:Nat,j1<(x.2 k).n/\(s.seen++[(x.2 k).born j]).getLast? =some ((x.2 k).born j1))/\ ∀j1:Nat,j1<(x.2 k).n->(s.seen++[(x.2 k).born j]).getLast? =some ((x.2 k).born j1)->avd x k s j j1)/\
 ((∀j:Nat,j<(x.2 k).n->(x.2 k).born j∈s.seen)->R)
def apT(x:ZLq×iY)(s:ZAl):Prop:= ∃x1:ZSl,Hd (srt x1.L/\x1.M.Perm x1.L/\x1.M.length<=300)/\((x1.z=s.z/\x1.M.length=s.M.length)/\(Fn.func 119=Fn.func 119/\True/\True)/\True)/\((x1.z=s.z/\x1.M.length=s.M.length/\ajv x1.M s.M)/\True)/\
 ∀_:Unit,True-> ∃y1:Bool×iY,(Hd (y1.1=true->x.1.L=[])/\Hd (lJ x.1.L y1.2))/\(y1.1=s.z/\x.1.L.length=s.M.length)/\att/\(y1.1=x1.z/\x.1.L.length=x1.L.length/\ajv x.1.L x1.L)/\ms8u y1.2 x.2
def ent0(s:ZAl):Prop:=s.z=true/\s.M.length=0/\ ∀q:Nat,q<s.M.length->(nthL s.M q).cs=[]
def entS(p s:ZAl):Prop:=s.z=p.z/\s.M.length=p.M.length/\ajv s.M p.M
def sizA(z:Bool)(n:Nat)(s:ZAl):Prop:=(s.z=z/\s.M.length=n)/\True
def asG(x:ZLq×iY):Nat->Nat->Bool->Nat->(ZAl->Prop)->Prop
 |0,_,_,_,_=>True
 |r+1,k,z,n,ent=>w8 k/\(∃s:ZAl,Hd (allI x.2 k s)/\True/\sizA z n s/\ent s/\(Xc x k/\s.seen=[]/\Xc x k)/\ms8d x)/\
  (∀s:ZAl,Hd (allI x.2 k s)->ajw x k s (I64 ((k:Int)+1)/\(match r with
   |0=>apT x s
   |r'+1=>asG x (r'+1) (k+1) s.z s.M.length (entS s))))/\True
theorem asH(x:ZLq×iY):asG x 8 0 true 0 ent0=wpF Tryz.prog aju tt (apS x) 200 6 68 (allT.E.args x) (hO 9 (flatP 1 (allT.E.l x))) (λv h'=>endsPK 1 x v h' allT.E.outs):=by kernel_rfl
theorem asI{m:ZMs}{l:ZLnk}:l∈m.all↔ ∃j,j<m.n/\m.lk j=l:=by
 unfold ZMs.all;rw[List.mem_map];exact⟨λ⟨j,hj,e⟩=>⟨j,List.mem_range.1 hj,e⟩,λ⟨j,hj,e⟩=>⟨j,List.mem_range.2 hj,e⟩⟩
section
variable{L:Lks}{t:iY}
theorem lJ.front(h:lJ L t): ∀k,k<=8->(oh t k).Nodup/\ ∀l,l∈oh t k↔l∈L/\bkt l.key<k
 |0,_=>⟨List.nodup_nil,λl=>⟨λhl=>absurd hl List.not_mem_nil,λhl=>absurd hl.2 (Nat.not_lt_zero _)⟩⟩
 |k+1,hk=>by
  obtain⟨h1,h2⟩:=h.front k (by omega);have hm: ∀l,l∈(t k).all↔l∈L/\bkt l.key=k:=λl=>by
   rw[asI];constructor
   ·rintro ⟨j,hj,rfl⟩;exact h.mem k (by omega) j hj
   ·rintro ⟨hl,hb⟩
    obtain⟨j,j1,j2⟩:=h.all l hl;rw[hb]at j1 j2;exact⟨j,j1,j2⟩
  refine⟨List.nodup_append.2 ⟨h1,List.pairwise_map.2 (List.nodup_range.imp_of_mem λ{i j} hi hj hne e=>hne (h.inj k (by omega) i j (List.mem_range.1 hi) (List.mem_range.1 hj) (by rw[e]))),λa ha b hb e=> ?_⟩,λl=> ?_⟩
  ·subst e
   have e1:=((h2 a).1 ha).2;have e2:=((hm a).1 hb).2;omega
  ·show l∈oh t k++(t k).all↔_
   rw[List.mem_append,h2,hm];constructor
   ·rintro (⟨a,b⟩|⟨a,b⟩)
    ·exact⟨a,by omega⟩
    ·exact⟨a,by omega⟩
   ·rintro ⟨a,b⟩
    rcases Nat.lt_or_ge (bkt l.key) k with h'|h'
    ·exact .inl ⟨a,h'⟩
    ·exact .inr ⟨a,by omega⟩
theorem lJ.ave(h:lJ L t):(oh t 8).Perm L:=by
 obtain⟨h1,h2⟩:=h.front 8 (aY _);exact(List.perm_ext_iff_of_nodup h1 (Sj h.srt)).2 λl=>by
  rw[h2];exact⟨λh=>h.1,λh=>⟨h,qJ _⟩⟩
theorem lJ.asJ(h:lJ L t){k:Nat}(hk:k<=8):(oh t k).length<=258:=by
 obtain⟨h1,h2⟩:=h.front k hk;exact Nat.le_trans (List.Nodup.length_le_of_subset h1 λl hl=>((h2 l).1 hl).1) h.size
theorem an1{n:Nat}{ps:List Nat}(h1:ps.Nodup)(h2: ∀p∈ps,p<n):ps.length<=n:=by
 have:=List.Nodup.length_le_of_subset h1 (λp hp=>List.mem_range.2 (h2 p hp):ps ⊆ List.range n);simpa using this
theorem ajx{n:Nat}{ps:List Nat}(h1:ps.Nodup)(h2: ∀p∈ps,p<n)(h3: ∀p,p<n->p∈ps):ps.Perm (List.range n):=
 (List.perm_ext_iff_of_nodup h1 List.nodup_range).2 λp=>⟨λh=>List.mem_range.2 (h2 p h),λh=>h3 p (List.mem_range.1 h)⟩
theorem an2{M:Lks}{l:ZLnk}{q:Nat}(hq:q<(M++[l]).length):nthL (M++[l]) q=if q=M.length then l else nthL M q:=by
 unfold nthL;rw[List.length_append]at hq;have hq:q<M.length+1:=hq;rw[List.getD_eq_getElem?_getD,List.getD_eq_getElem?_getD];by_cases e:q=M.length
 ·subst e;rw[if_pos rfl,List.getElem?_append_right (aY _)];simp
 ·rw[if_neg e,List.getElem?_append_left (by omega)]
theorem BL{x:ZLq×iY}(h:lJ x.1.L x.2){k:Nat}(hk:k<8){s:ZAl}(hs:allI x.2 k s){R:Prop}(hR:(s.z=true->s.M=[])->s.M.Perm (oh x.2 (k+1))->R):ajw x k s R:=by
 obtain⟨hz,ps,p1,p2,p3,p4⟩:=hs;have hsl:s.seen.length=ps.length:=by rw[p3,List.length_map]
 have hML:s.M.length=(oh x.2 k).length+ps.length:=by rw[p4.length_eq,List.length_append,List.length_map]
 have notin: ∀j,j<(x.2 k).n->(x.2 k).born j ∉ s.seen->j ∉ ps:=λj hj hn hp=>hn (by rw[p3];exact List.mem_map_of_mem hp)
 refine⟨λj hj=>h.born k hk j hj,rfl,rfl,λj hj hn=>⟨rfl,⟨j,hj,by simp⟩,λj1 hj1 he=> ?_⟩,λhall=> ?_⟩
 ·have he:(x.2 k).born j=(x.2 k).born j1:=by simpa using he
  obtain rfl:=h.bi k hk j j1 hj hj1 he;have hjp:=notin j hj hn;have hlt:ps.length+1<=(x.2 k).n:=an1 (ps:=j::ps) (List.nodup_cons.2 ⟨hjp,p1⟩) λp hp=>by
   rcases List.mem_cons.1 hp with rfl|hp
   ·exact hj
   ·exact p2 p hp
  have hfl:(oh x.2 (k+1)).length<=258:=h.asJ (by omega);have hfe:(oh x.2 (k+1)).length=(oh x.2 k).length+(x.2 k).n:=by
   show(oh x.2 k++(x.2 k).all).length=_;rw[List.length_append];unfold ZMs.all;simp
  refine⟨rfl,rfl,rfl,by omega,⟨false,s.M++[(x.2 k).lk j],s.seen++[(x.2 k).born j]⟩,aZ.2 ⟨λh=>(by cases h),ps++[j],?_,?_,?_,?_⟩,?_,⟨⟨rfl,by simp⟩,trivial⟩,⟨rfl,by simp,λq hq=> ?_⟩,⟨rfl,rfl,rfl⟩,⟨rfl,rfl,rfl,rfl,rfl,rfl,rfl,rfl,BK,trivial⟩⟩
  ·exact List.nodup_append.2 ⟨p1,by simp,λa ha b hb e=>by simp at hb;subst hb;subst e;exact hjp ha⟩
  ·intro p hp
   rcases List.mem_append.1 hp with hp|hp
   ·exact p2 p hp
   ·simp at hp;subst hp;exact hj
  ·show s.seen++_=_;rw[p3,List.map_append];rfl
  ·show(s.M++[_]).Perm _
   rw[List.map_append,<-List.append_assoc];exact p4.append_right _
  ·show(x.2 k).n-(s.seen++[_]).length<_
   rw[List.length_append,hsl];simp only[List.length_cons,List.length_nil];omega
  ·show(nthL (s.M++[(x.2 k).lk j]) q).cs=bif Nat.beq q s.M.length then List.take 5 ((x.2 k).lk j).cs else(nthL s.M q).cs
   rw[an2 hq,dD];by_cases e:q=s.M.length
   ·rw[if_pos e,decide_eq_true e];rfl
   ·rw[if_neg e,decide_eq_false e];rfl
 ·have hp:ps.Perm (List.range (x.2 k).n):=ajx p1 p2 λp hp=>by
   have:=hall p hp;rw[p3]at this;obtain⟨q,hq,he⟩:=List.mem_map.1 this;exact h.bi k hk q p (p2 q hq) hp he▸hq
  exact hR hz (p4.trans ((hp.map _).append_left _))
theorem Xd{x:ZLq×iY}(h:lJ x.1.L x.2){s:ZAl}(hz:s.z=true->s.M=[])(hp:s.M.Perm x.1.L):apT x s:=by
 have hsz:=h.size;have hl:=hp.length_eq
 exact⟨⟨s.z,s.M,x.1.L⟩,aZ.2 ⟨h.srt,hp,by show s.M.length<=300;omega⟩,⟨⟨rfl,rfl⟩,⟨rfl,trivial,trivial⟩,trivial⟩,⟨⟨rfl,rfl,λ_ _=>rfl⟩,trivial⟩,λ_ _=>⟨(s.z,x.2),⟨aZ.2 λe=>by
  have e:=hz e;rw[e]at hp
  exact hp.symm.eq_nil,aZ.2 h⟩,⟨rfl,hl.symm⟩,BK,⟨rfl,rfl,λ_ _=>rfl⟩,⟨rfl,rfl,rfl,rfl,rfl,rfl,rfl,rfl,trivial⟩⟩⟩
theorem adQ{x:ZLq×iY}(h:lJ x.1.L x.2)(r:Nat): ∀k z n ent,k+(r+1)=8->(∃s:ZAl,s.seen=[]/\allI x.2 k s/\s.z=z/\s.M.length=n/\ent s)->asG x (r+1) k z n ent:=by
 induction r with
 |zero=>
  rintro k z n ent hk ⟨s0,e1,e2,e3,e4,e5⟩
  refine⟨⟨by omega,by omega⟩,⟨s0,aZ.2 e2,trivial,⟨⟨e3,e4⟩,trivial⟩,e5,⟨rfl,e1,rfl⟩,⟨rfl,rfl,rfl,rfl,rfl,rfl,rfl,rfl,BK,trivial⟩⟩,λs hs=>BL h (by omega) (aZ.1 hs) λhz hp=>⟨by unfold I64;omega,?_⟩,trivial⟩;obtain rfl:k=7:=by omega
  exact Xd h hz (hp.trans h.ave)
 |succ r ih=>
  rintro k z n ent hk ⟨s0,e1,e2,e3,e4,e5⟩
  refine⟨⟨by omega,by omega⟩,⟨s0,aZ.2 e2,trivial,⟨⟨e3,e4⟩,trivial⟩,e5,⟨rfl,e1,rfl⟩,⟨rfl,rfl,rfl,rfl,rfl,rfl,rfl,rfl,BK,trivial⟩⟩,λs hs=>BL h (by omega) (aZ.1 hs) λhz hp=>⟨by unfold I64;omega,?_⟩,trivial⟩;exact ih (k+1) _ _ _ (by omega) ⟨⟨s.z,s.M,[]⟩,rfl,⟨hz,[],List.nodup_nil,λp hp=>absurd hp List.not_mem_nil,rfl,by simpa using hp⟩,rfl,rfl,rfl,rfl,λ_ _=>rfl⟩
end
theorem adR:dZ Tryz.prog aju:= .cons (bP an0) .nil
theorem asK:cO Tryz.prog 68 allT.C:=Fv ⟨Tryz.f68,by kernel_rfl,by kernel_rfl,by kernel_rfl⟩ (List.forall_mem_cons.2 ⟨λ_ _=>rfl,λ_ h=>(List.not_mem_nil h).elim⟩) (dh dG mixed adR 9 apS 200 6 (λ_=>⟨rfl,rfl,rfl,rfl⟩) λx hx=>Eq.mp (asH x) (adQ (aZ.1 hx.2) 7 0 true 0 ent0 rfl ⟨⟨true,[],[]⟩,rfl,⟨λ_=>rfl,[],List.nodup_nil,λp hp=>absurd hp List.not_mem_nil,rfl,by simp[oh]⟩,rfl,rfl,rfl,rfl,λq hq=>absurd hq (Nat.not_lt_zero q)⟩))
def fQ(a:eU):Prop:=a.now=a.now/\a.dur=a.dur/\a.jr=a.jr/\(0=0/\a.t=a.t/\a.t=a.t)/\True
def lK(a:eU):Prop:=258=258/\ ∀q:Nat,q<258->[Value.bool (a.L q)]=[Value.bool (a.L q)]
def BM(a:vW):Prop:=(a.c.t=a.c.t/\ ∀q:Nat,q<a.c.t->[Value.int .i64 (ite (q=a.t/\0<=a.l/\a.l<258) (a.c.o q+1) (a.c.o q))]=[Value.int .i64 (a.c.o q)])/\True
def BN(a:vW):Prop:=258=258/\ ∀q:Nat,q<258->[Value.bool (Bool.or (a.c.N q) (decide (a.l=(q:Int))))]=[Value.bool (a.c.N q)]
def jV(a:eU):Prop:=(a.t=a.t/\ ∀q:Nat,q<a.t->[Value.int .i64 (a.o q)]=[Value.int .i64 (a.o q)])/\True
def iy(a:eU):Prop:=258=258/\ ∀q:Nat,q<258->[Value.bool (a.N q)]=[Value.bool (a.N q)]
def rV(a:vW):Prop:=(a.c.t=a.c.t/\ ∀q:Nat,q<a.c.t->[Value.int .i64 (ite (q=a.t/\0<=a.l/\a.l<258) (a.c.o q+1) (a.c.o q))]=Cs.eff (λ(k:Nat)=>[Value.int .i64 (a.c.o k)]) [(0+a.t,[Value.int .i64 (a.c.o (0+a.t)+1)])] q)/\True
def rW(a:eU):Prop:=lK a/\(@Fn.func (107: @FuncId)= @Fn.func (107: @FuncId)/\(0=0/\True)/\True)/\True
def rX(a:eU):Prop:=lK a/\(@Fn.func (165: @FuncId)= @Fn.func (165: @FuncId)/\(0=0/\True)/\True)/\True
def rY(a:eU):Prop:=lK a/\(@Fn.func (212: @FuncId)= @Fn.func (212: @FuncId)/\(0=0/\True)/\True)/\True
def rZ(a:eU):Prop:=lK a/\(@Fn.func (57: @FuncId)= @Fn.func (57: @FuncId)/\(0=0/\True)/\True)/\True
def su(a:vW):Prop:=258=258/\ ∀q:Nat,q<258->[Value.bool (Bool.or (a.c.N q) (decide (a.l=(q:Int))))]=Cs.eff (λ(k:Nat)=>[Value.bool (a.c.N k)]) [(Int.toNat a.l,[Value.bool true])] q
def sD(a:eU):Prop:=(0=a.t*1/\ ∀q:Nat,q<a.t->[Value.int .i64 (a.o q)]=List.take 1 (List.drop (q*1) (@List.nil Value)))/\jV a
def sF(a:eU):Prop:=(a.t=0+a.t/\ ∀q:Nat,q<a.t->[Value.int .i64 (a.o q)]=[Value.int .i64 (a.o (0+(q-0)))])/\jV a
def mY(a:Int):Prop:=ite (0<=a/\a<258) (0:Int) (2:Int)=2
def kR(a:vW):Prop:=0<=(a.t:Int)/\(a.t:Int)<(a.c.t:Int)
def sG(a:Int):Prop:=ite (0<=a/\a<258) (0:Int) (2:Int)=1
def sH(a:Int):Prop:=ite (0<=a/\a<258) (0:Int) (2:Int)=0
def sJ(a:Nat):Prop:=(2*(0+a)+1000)*8<=281474976710656
def Xe(a:vW):Prop:=(fQ a.c/\BN a/\rZ a.c)/\BM a
def LK(a:vW):Prop:=(fQ a.c/\BN a/\rW a.c)/\BM a
def LM(a:vW):Prop:=(fQ a.c/\BN a/\rX a.c)/\BM a
def LP(a:vW):Prop:=(fQ a.c/\BN a/\rY a.c)/\BM a
def Xf(a:vW):Prop:= ∃y:Unit,True/\mY a.l/\Xe a
def Xg(x:vW):Prop:=
 cP (decide ((x.t:Int)>=(x.c.t:Int))) (∃y:Unit,True/\sG x.l/\Xe x) (cP (decide (x.l<0)) (Xf x) (cP (decide (x.l>=(258:Int))) (Xf x) (kR x/\0+x.t<x.c.t/\I64 (x.c.o (0+x.t)+1)/\kR x/\0+x.t<x.c.t/\(0<=x.l/\x.l<258)/\Int.toNat x.l<258/\ ∃y:Unit,True/\sH x.l/\(fQ x.c/\su x/\rZ x.c)/\rV x)))
theorem adS(x:vW):Xg x=wpF Tryz.prog nU tt (noA x) 200 5 64 ((oK 1).args x) (hO 2 (flatP 1 ((oK 1).l x))) (λv h'=>endsPK 1 x v h' (oK 1).outs):=by kernel_rfl
def Xh(x:eU):Prop:=
 ∃y:Unit,True/\x.now=x.now/\(fQ x/\iy x/\rZ x)/\jV x
theorem adT(x:eU):Xh x=wpF Tryz.prog nU tt (noA x) 200 5 45 ((oL 1).args x) (hO 2 (flatP 1 ((oL 1).l x))) (λv h'=>endsPK 1 x v h' (oL 1).outs):=by kernel_rfl
def Xi(x:eU):Prop:=
 0+x.t<=x.t/\cP (Nat.beq x.t 0) (∃y:Unit,True/\(x.t=0/\0=0/\0=0)/\(fQ x/\iy x/\rZ x)/\sD x) (sJ x.t/\ ∃y:Unit,True/\(0=0/\x.t=0+x.t)/\(fQ x/\iy x/\rZ x)/\sF x)
theorem adU(x:eU):Xi x=wpF Tryz.prog nU tt (noA x) 200 5 204 ((oM 1).args x) (hO 2 (flatP 1 ((oM 1).l x))) (λv h'=>endsPK 1 x v h' (oM 1).outs):=by kernel_rfl
def Xj(x:vW):Prop:=
 cP (decide ((x.t:Int)>=(x.c.t:Int))) (∃y:Unit,True/\sG x.l/\LK x) (cP (decide (x.l<0)) (∃y:Unit,True/\mY x.l/\LK x) (cP (decide (x.l>=(258:Int))) (∃y:Unit,True/\mY x.l/\LK x) (kR x/\0+x.t<x.c.t/\I64 (x.c.o (0+x.t)+1)/\kR x/\0+x.t<x.c.t/\(0<=x.l/\x.l<258)/\Int.toNat x.l<258/\ ∃y:Unit,True/\sH x.l/\(fQ x.c/\su x/\rW x.c)/\rV x)))
theorem adV(x:vW):Xj x=wpF Tryz.prog nU tt (noA x) 200 5 64 ((oK 2).args x) (hO 2 (flatP 1 ((oK 2).l x))) (λv h'=>endsPK 1 x v h' (oK 2).outs):=by kernel_rfl
def Xk(x:eU):Prop:=
 ∃y:Unit,True/\x.now=x.now/\(fQ x/\iy x/\rW x)/\jV x
theorem adW(x:eU):Xk x=wpF Tryz.prog nU tt (noA x) 200 5 45 ((oL 2).args x) (hO 2 (flatP 1 ((oL 2).l x))) (λv h'=>endsPK 1 x v h' (oL 2).outs):=by kernel_rfl
def Xl(x:eU):Prop:=
 0+x.t<=x.t/\cP (Nat.beq x.t 0) (∃y:Unit,True/\(x.t=0/\0=0/\0=0)/\(fQ x/\iy x/\rW x)/\sD x) (sJ x.t/\ ∃y:Unit,True/\(0=0/\x.t=0+x.t)/\(fQ x/\iy x/\rW x)/\sF x)
theorem adX(x:eU):Xl x=wpF Tryz.prog nU tt (noA x) 200 5 204 ((oM 2).args x) (hO 2 (flatP 1 ((oM 2).l x))) (λv h'=>endsPK 1 x v h' (oM 2).outs):=by kernel_rfl
def Xm(x:vW):Prop:=
 cP (decide ((x.t:Int)>=(x.c.t:Int))) (∃y:Unit,True/\sG x.l/\LM x) (cP (decide (x.l<0)) (∃y:Unit,True/\mY x.l/\LM x) (cP (decide (x.l>=(258:Int))) (∃y:Unit,True/\mY x.l/\LM x) (kR x/\0+x.t<x.c.t/\I64 (x.c.o (0+x.t)+1)/\kR x/\0+x.t<x.c.t/\(0<=x.l/\x.l<258)/\Int.toNat x.l<258/\ ∃y:Unit,True/\sH x.l/\(fQ x.c/\su x/\rX x.c)/\rV x)))
theorem adY(x:vW):Xm x=wpF Tryz.prog nU tt (noA x) 200 5 64 ((oK 3).args x) (hO 2 (flatP 1 ((oK 3).l x))) (λv h'=>endsPK 1 x v h' (oK 3).outs):=by kernel_rfl
def Xn(x:eU):Prop:=
 ∃y:Unit,True/\x.now=x.now/\(fQ x/\iy x/\rX x)/\jV x
theorem adZ(x:eU):Xn x=wpF Tryz.prog nU tt (noA x) 200 5 45 ((oL 3).args x) (hO 2 (flatP 1 ((oL 3).l x))) (λv h'=>endsPK 1 x v h' (oL 3).outs):=by kernel_rfl
def Xo(x:eU):Prop:=
 0+x.t<=x.t/\cP (Nat.beq x.t 0) (∃y:Unit,True/\(x.t=0/\0=0/\0=0)/\(fQ x/\iy x/\rX x)/\sD x) (sJ x.t/\ ∃y:Unit,True/\(0=0/\x.t=0+x.t)/\(fQ x/\iy x/\rX x)/\sF x)
theorem ad1(x:eU):Xo x=wpF Tryz.prog nU tt (noA x) 200 5 204 ((oM 3).args x) (hO 2 (flatP 1 ((oM 3).l x))) (λv h'=>endsPK 1 x v h' (oM 3).outs):=by kernel_rfl
def Xp(x:vW):Prop:=
 cP (decide ((x.t:Int)>=(x.c.t:Int))) (∃y:Unit,True/\sG x.l/\LP x) (cP (decide (x.l<0)) (∃y:Unit,True/\mY x.l/\LP x) (cP (decide (x.l>=(258:Int))) (∃y:Unit,True/\mY x.l/\LP x) (kR x/\0+x.t<x.c.t/\I64 (x.c.o (0+x.t)+1)/\kR x/\0+x.t<x.c.t/\(0<=x.l/\x.l<258)/\Int.toNat x.l<258/\ ∃y:Unit,True/\sH x.l/\(fQ x.c/\su x/\rY x.c)/\rV x)))
theorem ad2(x:vW):Xp x=wpF Tryz.prog nU tt (noA x) 200 5 64 ((oK 4).args x) (hO 2 (flatP 1 ((oK 4).l x))) (λv h'=>endsPK 1 x v h' (oK 4).outs):=by kernel_rfl
def Xq(x:eU):Prop:=
 ∃y:Unit,True/\x.now=x.now/\(fQ x/\iy x/\rY x)/\jV x
theorem ad3(x:eU):Xq x=wpF Tryz.prog nU tt (noA x) 200 5 45 ((oL 4).args x) (hO 2 (flatP 1 ((oL 4).l x))) (λv h'=>endsPK 1 x v h' (oL 4).outs):=by kernel_rfl
def Xr(x:eU):Prop:=
 0+x.t<=x.t/\cP (Nat.beq x.t 0) (∃y:Unit,True/\(x.t=0/\0=0/\0=0)/\(fQ x/\iy x/\rY x)/\sD x) (sJ x.t/\ ∃y:Unit,True/\(0=0/\x.t=0+x.t)/\(fQ x/\iy x/\rY x)/\sF x)
theorem ad4(x:eU):Xr x=wpF Tryz.prog nU tt (noA x) 200 5 204 ((oM 4).args x) (hO 2 (flatP 1 ((oM 4).l x))) (λv h'=>endsPK 1 x v h' (oM 4).outs):=by kernel_rfl
theorem Sv(x:vW)(hx:x.c.ok/\x.t<x.c.t):Xg x:=by
 obtain⟨⟨h1,h2,h3,h4,h5,h6⟩,ht⟩:=hx;have hs:=h6 x.t;unfold small at hs;unfold Xg;simp only[sG,Xe,Xf,kR,sH,fQ,su,rZ,rV,lK,mY,BN,BM];simp only[aZ,aV,aU,aA,aI,bU,bG,aO,aK,ay,aX,aW,bV,bH,bJ,bK,bW,bC,bM,bn,eY,aH,aN,ah,ak,aB,aF,aC,aG];refine bf (λh=>absurd (aS h) (by omega)) λ_=>bf (λh=> ?_) λh=>bf (λh2=> ?_) λh2=> ?_
 ·have h:=aS h
  exact⟨by rw[if_neg (by omega)],λq hq=>by simp;intro;omega,λq hq=>by rw[if_neg (by omega)]⟩
 ·have h:=aS h2
  exact⟨by rw[if_neg (by omega)],λq hq=>by simp;intro;omega,λq hq=>by rw[if_neg (by omega)]⟩
 ·have h:=aT h
  have h2:=aT h2;have hl:0<=x.l/\x.l<258:=by omega
  refine⟨by omega,by omega,by unfold I64;omega,by omega,by omega,hl,by omega,by rw[if_pos hl],λq hq=> ?_,λq hq=> ?_⟩
  ·simp only[Cs.eff,bY,dA,dD,dK,<-Bool.decide_and]
   by_cases e:q=x.l.toNat
   ·rw[if_pos e,show decide (x.l=(q:Int))=true by simp;omega,Bool.or_true]
   ·rw[if_neg e,show decide (x.l=(q:Int))=false by simp;omega,Bool.or_false]
  ·simp only[Cs.eff,bY,dA,dD,dK,<-Bool.decide_and]
   by_cases e:q=x.t
   ·subst e;rw[if_pos ⟨rfl,hl⟩,if_pos rfl]
   ·rw[if_neg (by omega),if_neg e]
theorem Sz(x:eU)(hx:x.ok):Xh x:=by
 unfold Xh;simp only[fQ,iy,rZ,jV,lK];simp only[aZ,aV,aU,aA,aI,bU,bG,aO,aK,ay,aX,aW,bV,bH,bJ,bK,bW,bC,bM,bn,eY,aH,aN,ah,ak,aB,aF,aC,aG]
theorem SA(x:eU)(hx:x.ok):Xi x:=by
 have:=hx.1;have:=hx.2.1;unfold Xi;simp only[fQ,iy,rZ,sD,sJ,sF,jV,lK];simp only[aZ,aV,aU,aA,aI,bU,bG,aO,aK,ay,aX,aW,bV,bH,bJ,bK,bW,bC,bM,bn,eY,aH,aN,ah,ak,aB,aF,aC,aG];exact⟨by omega,bf (λh=>absurd (au h) (by omega)) λ_=>by omega⟩
theorem an3:cO Tryz.prog 64 (oK 1).ctr:=dh dG mixed dO 2 noA 200 5 (λ_=>⟨rfl,rfl,rfl,rfl⟩) λx hx=>Eq.mp (adS x) (Sv x (aZ.1 hx))
theorem an4:cO Tryz.prog 45 (oL 1).ctr:=dh dG mixed dO 2 noA 200 5 (λ_=>⟨rfl,rfl,rfl,rfl⟩) λx hx=>Eq.mp (adT x) (Sz x (aZ.1 hx))
theorem an5:cO Tryz.prog 204 (oM 1).ctr:=dh dG mixed dO 2 noA 200 5 (λ_=>⟨rfl,rfl,rfl,rfl⟩) λx hx=>Eq.mp (adU x) (SA x (aZ.1 hx))
theorem SB(x:vW)(hx:x.c.ok/\x.t<x.c.t):Xj x:=by
 obtain⟨⟨h1,h2,h3,h4,h5,h6⟩,ht⟩:=hx;have hs:=h6 x.t;unfold small at hs;unfold Xj;simp only[sG,LK,mY,kR,sH,fQ,su,rW,rV,lK,BN,BM];simp only[aZ,aV,aU,aA,aI,bU,bG,aO,aK,ay,aX,aW,bV,bH,bJ,bK,bW,bC,bM,bn,eY,aH,aN,ah,ak,aB,aF,aC,aG];refine bf (λh=>absurd (aS h) (by omega)) λ_=>bf (λh=> ?_) λh=>bf (λh2=> ?_) λh2=> ?_
 ·have h:=aS h
  exact⟨by rw[if_neg (by omega)],λq hq=>by simp;intro;omega,λq hq=>by rw[if_neg (by omega)]⟩
 ·have h:=aS h2
  exact⟨by rw[if_neg (by omega)],λq hq=>by simp;intro;omega,λq hq=>by rw[if_neg (by omega)]⟩
 ·have h:=aT h
  have h2:=aT h2;have hl:0<=x.l/\x.l<258:=by omega
  refine⟨by omega,by omega,by unfold I64;omega,by omega,by omega,hl,by omega,by rw[if_pos hl],λq hq=> ?_,λq hq=> ?_⟩
  ·simp only[Cs.eff,bY,dA,dD,dK,<-Bool.decide_and]
   by_cases e:q=x.l.toNat
   ·rw[if_pos e,show decide (x.l=(q:Int))=true by simp;omega,Bool.or_true]
   ·rw[if_neg e,show decide (x.l=(q:Int))=false by simp;omega,Bool.or_false]
  ·simp only[Cs.eff,bY,dA,dD,dK,<-Bool.decide_and]
   by_cases e:q=x.t
   ·subst e;rw[if_pos ⟨rfl,hl⟩,if_pos rfl]
   ·rw[if_neg (by omega),if_neg e]
theorem SC(x:eU)(hx:x.ok):Xk x:=by
 unfold Xk;simp only[fQ,iy,rW,jV,lK];simp only[aZ,aV,aU,aA,aI,bU,bG,aO,aK,ay,aX,aW,bV,bH,bJ,bK,bW,bC,bM,bn,eY,aH,aN,ah,ak,aB,aF,aC,aG]
theorem SG(x:eU)(hx:x.ok):Xl x:=by
 have:=hx.1;have:=hx.2.1;unfold Xl;simp only[fQ,iy,rW,sD,sJ,sF,jV,lK];simp only[aZ,aV,aU,aA,aI,bU,bG,aO,aK,ay,aX,aW,bV,bH,bJ,bK,bW,bC,bM,bn,eY,aH,aN,ah,ak,aB,aF,aC,aG];exact⟨by omega,bf (λh=>absurd (au h) (by omega)) λ_=>by omega⟩
theorem an6:cO Tryz.prog 64 (oK 2).ctr:=dh dG mixed dO 2 noA 200 5 (λ_=>⟨rfl,rfl,rfl,rfl⟩) λx hx=>Eq.mp (adV x) (SB x (aZ.1 hx))
theorem an7:cO Tryz.prog 45 (oL 2).ctr:=dh dG mixed dO 2 noA 200 5 (λ_=>⟨rfl,rfl,rfl,rfl⟩) λx hx=>Eq.mp (adW x) (SC x (aZ.1 hx))
theorem an8:cO Tryz.prog 204 (oM 2).ctr:=dh dG mixed dO 2 noA 200 5 (λ_=>⟨rfl,rfl,rfl,rfl⟩) λx hx=>Eq.mp (adX x) (SG x (aZ.1 hx))
theorem SH(x:vW)(hx:x.c.ok/\x.t<x.c.t):Xm x:=by
 obtain⟨⟨h1,h2,h3,h4,h5,h6⟩,ht⟩:=hx;have hs:=h6 x.t;unfold small at hs;unfold Xm;simp only[sG,LM,mY,kR,sH,fQ,su,rX,rV,lK,BN,BM];simp only[aZ,aV,aU,aA,aI,bU,bG,aO,aK,ay,aX,aW,bV,bH,bJ,bK,bW,bC,bM,bn,eY,aH,aN,ah,ak,aB,aF,aC,aG];refine bf (λh=>absurd (aS h) (by omega)) λ_=>bf (λh=> ?_) λh=>bf (λh2=> ?_) λh2=> ?_
 ·have h:=aS h
  exact⟨by rw[if_neg (by omega)],λq hq=>by simp;intro;omega,λq hq=>by rw[if_neg (by omega)]⟩
 ·have h:=aS h2
  exact⟨by rw[if_neg (by omega)],λq hq=>by simp;intro;omega,λq hq=>by rw[if_neg (by omega)]⟩
 ·have h:=aT h
  have h2:=aT h2;have hl:0<=x.l/\x.l<258:=by omega
  refine⟨by omega,by omega,by unfold I64;omega,by omega,by omega,hl,by omega,by rw[if_pos hl],λq hq=> ?_,λq hq=> ?_⟩
  ·simp only[Cs.eff,bY,dA,dD,dK,<-Bool.decide_and]
   by_cases e:q=x.l.toNat
   ·rw[if_pos e,show decide (x.l=(q:Int))=true by simp;omega,Bool.or_true]
   ·rw[if_neg e,show decide (x.l=(q:Int))=false by simp;omega,Bool.or_false]
  ·simp only[Cs.eff,bY,dA,dD,dK,<-Bool.decide_and]
   by_cases e:q=x.t
   ·subst e;rw[if_pos ⟨rfl,hl⟩,if_pos rfl]
   ·rw[if_neg (by omega),if_neg e]
theorem SI(x:eU)(hx:x.ok):Xn x:=by
 unfold Xn;simp only[fQ,iy,rX,jV,lK];simp only[aZ,aV,aU,aA,aI,bU,bG,aO,aK,ay,aX,aW,bV,bH,bJ,bK,bW,bC,bM,bn,eY,aH,aN,ah,ak,aB,aF,aC,aG]
theorem SK(x:eU)(hx:x.ok):Xo x:=by
 have:=hx.1;have:=hx.2.1;unfold Xo;simp only[fQ,iy,rX,sD,sJ,sF,jV,lK];simp only[aZ,aV,aU,aA,aI,bU,bG,aO,aK,ay,aX,aW,bV,bH,bJ,bK,bW,bC,bM,bn,eY,aH,aN,ah,ak,aB,aF,aC,aG];exact⟨by omega,bf (λh=>absurd (au h) (by omega)) λ_=>by omega⟩
theorem an9:cO Tryz.prog 64 (oK 3).ctr:=dh dG mixed dO 2 noA 200 5 (λ_=>⟨rfl,rfl,rfl,rfl⟩) λx hx=>Eq.mp (adY x) (SH x (aZ.1 hx))
theorem aoa:cO Tryz.prog 45 (oL 3).ctr:=dh dG mixed dO 2 noA 200 5 (λ_=>⟨rfl,rfl,rfl,rfl⟩) λx hx=>Eq.mp (adZ x) (SI x (aZ.1 hx))
theorem aob:cO Tryz.prog 204 (oM 3).ctr:=dh dG mixed dO 2 noA 200 5 (λ_=>⟨rfl,rfl,rfl,rfl⟩) λx hx=>Eq.mp (ad1 x) (SK x (aZ.1 hx))
theorem SL(x:vW)(hx:x.c.ok/\x.t<x.c.t):Xp x:=by
 obtain⟨⟨h1,h2,h3,h4,h5,h6⟩,ht⟩:=hx;have hs:=h6 x.t;unfold small at hs;unfold Xp;simp only[sG,LP,mY,kR,sH,fQ,su,rY,rV,lK,BN,BM];simp only[aZ,aV,aU,aA,aI,bU,bG,aO,aK,ay,aX,aW,bV,bH,bJ,bK,bW,bC,bM,bn,eY,aH,aN,ah,ak,aB,aF,aC,aG];refine bf (λh=>absurd (aS h) (by omega)) λ_=>bf (λh=> ?_) λh=>bf (λh2=> ?_) λh2=> ?_
 ·have h:=aS h
  exact⟨by rw[if_neg (by omega)],λq hq=>by simp;intro;omega,λq hq=>by rw[if_neg (by omega)]⟩
 ·have h:=aS h2
  exact⟨by rw[if_neg (by omega)],λq hq=>by simp;intro;omega,λq hq=>by rw[if_neg (by omega)]⟩
 ·have h:=aT h
  have h2:=aT h2;have hl:0<=x.l/\x.l<258:=by omega
  refine⟨by omega,by omega,by unfold I64;omega,by omega,by omega,hl,by omega,by rw[if_pos hl],λq hq=> ?_,λq hq=> ?_⟩
  ·simp only[Cs.eff,bY,dA,dD,dK,<-Bool.decide_and]
   by_cases e:q=x.l.toNat
   ·rw[if_pos e,show decide (x.l=(q:Int))=true by simp;omega,Bool.or_true]
   ·rw[if_neg e,show decide (x.l=(q:Int))=false by simp;omega,Bool.or_false]
  ·simp only[Cs.eff,bY,dA,dD,dK,<-Bool.decide_and]
   by_cases e:q=x.t
   ·subst e;rw[if_pos ⟨rfl,hl⟩,if_pos rfl]
   ·rw[if_neg (by omega),if_neg e]
theorem SN(x:eU)(hx:x.ok):Xq x:=by
 unfold Xq;simp only[fQ,iy,rY,jV,lK];simp only[aZ,aV,aU,aA,aI,bU,bG,aO,aK,ay,aX,aW,bV,bH,bJ,bK,bW,bC,bM,bn,eY,aH,aN,ah,ak,aB,aF,aC,aG]
theorem SQ(x:eU)(hx:x.ok):Xr x:=by
 have:=hx.1;have:=hx.2.1;unfold Xr;simp only[fQ,iy,rY,sD,sJ,sF,jV,lK];simp only[aZ,aV,aU,aA,aI,bU,bG,aO,aK,ay,aX,aW,bV,bH,bJ,bK,bW,bC,bM,bn,eY,aH,aN,ah,ak,aB,aF,aC,aG];exact⟨by omega,bf (λh=>absurd (au h) (by omega)) λ_=>by omega⟩
theorem aoc:cO Tryz.prog 64 (oK 4).ctr:=dh dG mixed dO 2 noA 200 5 (λ_=>⟨rfl,rfl,rfl,rfl⟩) λx hx=>Eq.mp (ad2 x) (SL x (aZ.1 hx))
theorem aod:cO Tryz.prog 45 (oL 4).ctr:=dh dG mixed dO 2 noA 200 5 (λ_=>⟨rfl,rfl,rfl,rfl⟩) λx hx=>Eq.mp (ad3 x) (SN x (aZ.1 hx))
theorem aoe:cO Tryz.prog 204 (oM 4).ctr:=dh dG mixed dO 2 noA 200 5 (λ_=>⟨rfl,rfl,rfl,rfl⟩) λx hx=>Eq.mp (ad4 x) (SQ x (aZ.1 hx))
structure ZCk where
 c:eU
 ph:Nat
noncomputable def ZCk.os(k:ZCk):List dF:=k.c.os k.ph
structure alk where
 k:ZCk
 t:Nat
 l:Int
noncomputable def avf:Ctr:=det alk (λx=>[.ptr 0 0,i64 x.t,i64 x.l]) 1 (λx=>[.abs (ownM x.k.os)]) (λx=>Hd (x.k.ph<=4/\x.k.c.ok/\x.t<x.k.c.t)) (λx=>i64 (if 0<=x.l/\x.l<258 then 0 else 2)) 1 (λx=>[.abs (ownM (ZCk.os ⟨x.k.c.note x.t x.l,x.k.ph⟩))])
noncomputable def ajy:Ctr:=det ZCk (λ_=>[.ptr 0 0]) 1 (λk=>[.abs (ownM k.os)]) (λk=>Hd (k.ph<=4/\k.c.ok)) (λk=>u64 k.c.now) 1 (λk=>[.abs (ownM k.os)])
noncomputable def asL:Ctr:=det ZCk (λ_=>[.ptr 0 0]) 1 (λk=>[.abs (ownM k.os)]) (λk=>Hd (k.ph<=4/\k.c.ok)) (λk=> .slW 1 0 1 k.c.t) 2 (λk=>[.abs (ownM k.os),.room 3 (.row 1 k.c.t (λq=>[.int .i64 (k.c.o q)]) [])])
theorem LQ{p:Nat}(h:p<=4):p=0\/p=1\/p=2\/p=3\/p=4:=by omega
theorem aof{p:Nat}(h:p<=4):cO Tryz.prog 64 (oK p).ctr:=by
 rcases LQ h with rfl|rfl|rfl|rfl|rfl
 ·exact amH
 ·exact an3
 ·exact an6
 ·exact an9
 ·exact aoc
theorem aog{p:Nat}(h:p<=4):cO Tryz.prog 45 (oL p).ctr:=by
 rcases LQ h with rfl|rfl|rfl|rfl|rfl
 ·exact amI
 ·exact an4
 ·exact an7
 ·exact aoa
 ·exact aod
theorem aoh{p:Nat}(h:p<=4):cO Tryz.prog 204 (oM p).ctr:=by
 rcases LQ h with rfl|rfl|rfl|rfl|rfl
 ·exact amJ
 ·exact an5
 ·exact an8
 ·exact aob
 ·exact aoe
theorem aoi:cO Tryz.prog 64 avf:=jg λx hx=>by
 obtain⟨h1,h2⟩:=aZ.1 hx
 exact⟨_,aof h1,rfl,⟨x.k.c,x.t,x.l⟩,aZ.2 h2,rfl,rfl,λv h' hh=>by
  obtain⟨y,h0,e1,e2⟩:=jh hh
  exact eF ⟨y,h0,e1,e2⟩⟩
theorem uY:cO Tryz.prog 45 ajy:=jg λx hx=>by
 obtain⟨h1,h2⟩:=aZ.1 hx
 exact⟨_,aog h1,rfl,x.c,aZ.2 h2,rfl,rfl,λv h' hh=>by
  obtain⟨y,h0,e1,e2⟩:=jh hh
  exact eF ⟨y,h0,e1,e2⟩⟩
theorem LU:cO Tryz.prog 204 asL:=jg λx hx=>by
 obtain⟨h1,h2⟩:=aZ.1 hx
 exact⟨_,aoh h1,rfl,x.c,aZ.2 h2,rfl,rfl,λv h' hh=>by
  obtain⟨y,h0,e1,e2⟩:=jh hh
  exact eF ⟨y,h0,e1,e2⟩⟩
structure ZSto where
 d:DevM
 p:ZPool
 r:ZRd
 c:eU
 ph:Nat
 b:iw
 l:ZLn
 L:Lks
 id:Int
 ver:Int
 n:Nat
 e:Nat->ZEff
namespace ZSto
def ck(a:ZSto):ZCk:=⟨a.c,a.ph⟩
noncomputable def os(a:ZSto):List dF:=[.cells 113 (.av [.ptr 1 0,.ptr 3 0,.ptr 4 0,.ptr 5 0,.ptr 6 0,.ptr 7 0,.ptr 8 0,.ptr 9 0,u64 a.id,u64 a.ver,.slV (Nat.beq a.n 0) 10 7 a.n]),
 .cells 145 (.av [.ptr 2 0,u32 1,.lit (.int .i32 0),u32 0]),.abs (ownM a.d.os),.abs (ownM a.p.os),.abs (ownM a.r.os),.abs (ownM a.ck.os),.abs (ownM a.b.os),.abs (tabA a.L),.abs (ordA a.L),.abs (ownM a.l.os),.iC (Nat.beq a.n 0) 95 (.row 7 a.n (λi=>(a.e i).cs) [])]
end ZSto
noncomputable def newSto(n t:Nat)(d:DevM):ZSto:=⟨d,gI ((n-2)/8) ((n-2)/8),aht t,Ql t 0,0,Rq,am1,[],0,0,0,λ_=>⟨0,⟨#[]⟩,⟨#[]⟩,0,0,0,0⟩⟩
noncomputable def ad5:iW:={X:=ZNew,args:=λx=>[i64 x.n,i64 x.t],k:=0,l:=λ_=>[],pre:=λx=>Hd (10<=x.n/\x.n<=258/\1<=x.t/\x.t<=4),outs:=[
 {Y:=DevM,post:=λx d=>Hd (d.ok/\d.n=x.n/\d.st=2/\d.fl=2/\d.fe=1),ret:=λ_ _=> .tup [.ptr 0 0,i64 0],m:=1,l:=λx d=>[.m (newSto x.n x.t d).os]}]}
noncomputable def avg:je:=nU++[(48,ctrT aiw.ctr),(79,ctrT aix.ctr),(80,ctrT Ro.ctr),(81,ctrT aiy.ctr),(82,ctrT aiz.ctr),(85,ctrT newT),(86,ctrT newO),(84,ctrT aiA.ctr),(87,ctrT aiB.ctr),(148,arS auL)]
def ajz(a:ZNew)(b:Nat)(c:DevM)(d:Prod Nat Int):Prop:=ownM (ZRd.os (aht a.t))=ownM (ZRd.os (aht b))/\ownM (ZCk.os (ZSto.ck (newSto a.n a.t c)))=ownM (eU.os (Ql d.1 d.2) 0)/\ownM Rq.os=ownM Rq.os/\tabA (@List.nil ZLnk)=tabA (@List.nil ZLnk)/\ordA (@List.nil ZLnk)=ordA (@List.nil ZLnk)/\ownM am1.os=ownM am1.os/\(Nat.beq 0 0=true/\0=0/\ ∀q:Nat,q<0->[Value.int .i64 0,Value.string (ByteArray.mk #[]),Value.string (ByteArray.mk #[]),Value.int .u64 0,Value.int .u64 0,Value.int .u64 0,Value.int .i64 0]= @List.nil Value)/\True
def ajA:Prop:=0=0/\0=0/\0=0/\0=0/\0=0/\0=0/\0=0/\0=0/\(0:Int)=0/\(0:Int)=0/\(Nat.beq 0 0=true/\0=0)/\True
def LV(a:DevM)(b:Nat):Prop:=Hd (a.ok/\a.n=b/\a.st=2/\a.fl=2/\a.fe=1)
def ajB(x:ZNew):Prop:=
 ∃x_1:Nat,Hd (1<=x_1/\x_1<=258)/\((x_1:Int)=(x.n:Int)/\True)/\True/\ ∀y:Unit,True-> ∃x_2:Nat,Hd (1<=x_2/\x_2<=4)/\((x_2:Int)=(x.t:Int)/\True)/\True/\ ∀y_1:Unit,True-> ∃x_3:DevM,Hd x_3.ok/\(0=0/\True)/\(ownM x_3.os=ownM (DevM.os (yx x_1))/\True)/\ ∀y_2:Unit,True->cP (decide ((x_3.n:Int)<10)) (∃y_3:DevM,LV y_3 x.n/\(False/\(0:Int)=2/\True)/\False/\False/\False/\False/\False/\False/\False/\False/\False/\False/\False/\True) (∃x_4:Prod Nat Int,Hd (1<=x_4.1/\x_4.1<=4/\0<=x_4.2/\x_4.2<=1152921504606846976)/\((x_4.1:Int)=(x.t:Int)/\x_4.2=0/\True)/\True/\ ∀y_3:Unit,True-> ∃x_5:DevM,Hd x_5.ok/\(0=0/\True)/\(ownM x_5.os=ownM x_3.os/\True)/\ ∀y_4:Unit,True->cP (decide ((x_5.n:Int)<10)) (∃x_6:Nat,Hd (1<=x_6/\x_6<=32)/\((x_6:Int)=0/\True)/\True/\ ∀y_5:Unit,True-> ∃x_7:Unit,Hd True/\True/\True/\ ∀y_6:Unit,True-> ∃x_8:Unit,True/\True/\True/\ ∀y_7:Unit,True-> ∃x_9:Unit,True/\True/\True/\ ∀y_8:Unit,True-> ∃x_10:Unit,Hd True/\True/\True/\ ∀y_9:Unit,True-> ∃x_11:DevM,Hd (x_11.ok/\10<=x_11.n/\x_11.wide (10:Int))/\(0=0/\True)/\(ownM x_11.os=ownM x_5.os/\True)/\ ∀y_10:DevM,Hd (y_10.ok/\y_10.n=x_11.n/\y_10.st=x_11.st+2/\y_10.fl=x_11.fl+2/\y_10.fe=x_11.fe+1)-> ∃asM:DevM,LV asM x.n/\(0=0/\(0:Int)=0/\True)/\ajA/\(0=0/\(1:Int)=1/\(0:Int)=0/\(0:Int)=0/\True)/\ownM asM.os=ownM y_10.os/\ownM (ZPool.os (gI ((x.n-2)/8) ((x.n-2)/8)))=ownM (ZPool.os (gI x_6 x_6))/\ajz x x_2 asM x_4) (I64 (Dx (x_5.n:Int) (258:Int)-2)/\((8:Int)=0->False)/\
 I64 (Int.tdiv (Dx (x_5.n:Int) (258:Int)-2) (8:Int))/\ ∃x_6:Nat,Hd (1<=x_6/\x_6<=32)/\((x_6:Int)=Int.tdiv (Dx (x_5.n:Int) (258:Int)-2) (8:Int)/\True)/\True/\ ∀y_5:Unit,True-> ∃x_7:Unit,Hd True/\True/\True/\ ∀y_6:Unit,True-> ∃x_8:Unit,True/\True/\True/\ ∀y_7:Unit,True-> ∃x_9:Unit,True/\True/\True/\ ∀y_8:Unit,True-> ∃x_10:Unit,Hd True/\True/\True/\ ∀y_9:Unit,True-> ∃x_11:DevM,Hd (x_11.ok/\10<=x_11.n/\x_11.wide (10:Int))/\(0=0/\True)/\(ownM x_11.os=ownM x_5.os/\True)/\ ∀y_10:DevM,Hd (y_10.ok/\y_10.n=x_11.n/\y_10.st=x_11.st+2/\y_10.fl=x_11.fl+2/\y_10.fe=x_11.fe+1)-> ∃asM:DevM,LV asM x.n/\(0=0/\(0:Int)=0/\True)/\ajA/\(0=0/\(1:Int)=1/\(0:Int)=0/\(0:Int)=0/\True)/\ownM asM.os=ownM y_10.os/\ownM (ZPool.os (gI ((x.n-2)/8) ((x.n-2)/8)))=ownM (ZPool.os (gI x_6 x_6))/\ajz x x_2 asM x_4))
theorem ajC(x:ZNew):ajB x=wpF Tryz.prog avg tt (noA x) 200 5 13 (ad5.args x) (hO 0 (flatP 0 (ad5.l x))) (λv h'=>endsPK 0 x v h' ad5.outs):=by kernel_rfl
theorem Xt(x:ZNew)(hx:10<=x.n/\x.n<=258/\1<=x.t/\x.t<=4):ajB x:=by
 unfold ajB;simp only[LV,ajA,ajz];simp only[aZ,aV,aU,aA,aI,bU,bG,aO,aK,ay,aX,aW,bV,bH,bJ,bK,bW,bC,bM,bn,eY,aH,aN,ah,ak,aB,aF,aC,aG];have h1:=WG x.n hx.2.1;have hm:Dx (x.n:Int) 258=x.n:=by unfold Dx;omega
 have hd:((x.n:Int)-2).tdiv 8=(((x.n-2)/8:Nat):Int):=by
  rw[show(x.n:Int)-2=((x.n-2:Nat):Int) by omega];exact(Int.ofNat_tdiv (x.n-2) 8).symm
 refine⟨x.n,⟨by omega,by omega⟩,rfl,x.t,⟨by omega,by omega⟩,rfl,yx x.n,h1,rfl,bf (λh=>absurd (aS h) (by show¬((x.n:Int)<10);omega)) λ_=>⟨(x.t,0),⟨by show 1<=x.t;omega,by show x.t<=4;omega,Int.le_refl 0,show(0:Int)<=1152921504606846976 by decide⟩,⟨rfl,rfl⟩,yx x.n,h1,rfl,bf (λh=>absurd (aS h) (by show¬((x.n:Int)<10);omega)) λ_=> ?_⟩⟩;show I64 (Dx (x.n:Int) 258-2)/\_;rw[show Dx ((yx x.n).n:Int) 258=x.n from hm,hd];refine⟨by show I64 (Dx (x.n:Int) 258-2);rw[hm];unfold I64;omega,by omega,by unfold I64;omega,(x.n-2)/8,by omega,rfl,yx x.n,⟨h1,by show 10<=x.n;omega,⟨show(0:Int)+10<1099511627776 by decide,show(0:Int)+10<1099511627776 by decide,show(0:Int)+10<1099511627776 by decide⟩⟩,rfl,λy hy=>⟨y,⟨hy.1,hy.2.1,hy.2.2.1,hy.2.2.2.1,hy.2.2.2.2⟩,?_⟩⟩
 repeat' (first|exact rfl|exactλq hq=>absurd hq (Nat.not_lt_zero q)|refine And.intro ?_ ?_)
theorem aoj:dZ Tryz.prog avg:= .append dO (.cons (bP am2) (.cons (bP am3) (.cons (bP am6) (.cons (bP am4) (.cons (bP am5) (.cons (bP asy) (.cons (bP asA) (.cons (bP am7) (.cons (bP am8) (.cons (λ_ _ _ hq=>amV am9 _ _ _ hq) .nil))))))))))
theorem ajD:cO Tryz.prog 13 ad5.ctr:=dh dG mixed aoj 0 noA 200 5 (λ_=>⟨rfl,rfl,rfl,rfl⟩) λx hx=>Eq.mp (ajC x) (Xt x (aZ.1 hx))
structure ZCh where
 kind:Int
 key:ByteArray
 value:ByteArray
 had:Bool
 old:ZLnk
 line:Int
 cls:Int
namespace ZCh
def av(x:ZCh):AV:= .agg [i64 x.kind,.lit (.string x.key),.lit (.string x.value),boo x.had,.lit (.string x.old.key),u64 x.old.id,u64 x.old.ver,i64 x.old.line,i64 x.old.cls,i64 x.line,i64 x.cls]
end ZCh
structure ZCg where
 a:ZSto
 t:Nat
 e:Int
 x:ZCh
 ln:Nat
 g:Int
namespace ZCg
def av(y:ZCg)(k:Int)(had:Bool):AV:=({y.x with kind:=k,had:=had,line:=y.ln}:ZCh).av
def gr(y:ZCg):Int:=if y.g=0 then y.a.ver+1 else y.g
def idP(y:ZCg)(had:Bool):Int:=bif had then y.x.old.id else y.a.id+1
def blk(y:ZCg)(k:Int)(had:Bool):ZBlk:=if k=2 then⟨y.x.cls,1,y.idP had,y.a.ver+1,y.e,y.x.key,y.x.value⟩else if k=4 then⟨y.x.cls,2,y.a.id+1,y.a.ver+1,y.e,⟨#[]⟩,y.x.value⟩else⟨0,3,y.x.old.id,y.a.ver+1,y.e,⟨#[]⟩,⟨#[]⟩⟩
def lnk(y:ZCg)(k:Int)(had:Bool):ZLnk:=⟨(y.blk k had).key,(y.blk k had).id,y.a.ver+1,y.ln,(y.blk k had).cls⟩
def eff(y:ZCg)(k:Int)(had:Bool):ZEff:=if k=2 then⟨1,y.x.key,y.x.value,y.idP had,y.a.ver+1,y.e,y.gr⟩else if k=3 then⟨2,y.x.key,⟨#[]⟩,y.x.old.id,y.a.ver+1,y.e,y.gr⟩else if k=4 then⟨3,⟨#[]⟩,y.x.value,y.a.id+1,y.a.ver+1,y.e,y.gr⟩else⟨4,⟨#[]⟩,⟨#[]⟩,y.x.old.id,y.a.ver+1,y.e,y.gr⟩
def ent(y:ZCg)(k:Int):gG:=⟨y.x.old.line,y.x.old.cls,y.a.r.now,y.e,if k=2 then-1 else y.ln⟩
noncomputable def res(y:ZCg)(k:Int)(had:Bool):ZSto:={y.a with
 d:=y.a.d.store y.ln 0 64 (y.blk k had).enc
 c:=y.a.c.notes y.t y.ln (y.blk k had).dL
 b:=if had=true/\k≠4 then y.a.b.put (y.ent k)else y.a.b
 l:=if k=4 then y.a.l.push (y.lnk k had)else if k=5 then y.a.l.pop else y.a.l
 L:=if k=2 then jv y.a.L (y.lnk k had)else if k=3 then fZ y.a.L y.x.key else y.a.L
 id:=if k=4\/k=2/\had=false then y.a.id+1 else y.a.id
 ver:=y.a.ver+1
 n:=y.a.n+1
 e:=λi=>if i=y.a.n then y.eff k had else y.a.e i}
def ok(y:ZCg)(k:Int)(had:Bool):Prop:=y.a.d.ok/\y.a.c.ok/\y.a.ph<=4/\y.t<y.a.c.t/\y.ln<y.a.d.n/\y.a.d.n<=258/\(y.blk k had).may/\y.x.key.size<1099511627776/\y.x.value.size<1099511627776/\0<=y.a.ver/\y.a.ver<1152921504606846976/\0<=y.a.id/\y.a.id<1152921504606846976/\0<=y.g/\y.g<1152921504606846977/\y.a.n<1099511627776/\
 (∀q,y.a.c.o q+8<1099511627776)/\(had=true->y.a.b.ok/\y.a.r.ok/\(y.ent k).may)/\(k=2->(jv y.a.L (y.lnk k had)).length<=258)/\(k=4\/k=5->y.a.l.ok)
end ZCg
noncomputable def aok(k:Int)(had:Bool):iW:=oJ ZCg (λy=>[.ptr 0 0,i64 y.t,u64 y.e,y.av k had,u64 y.g]) 1 (λy=>[.m y.a.os]) (λy=>Hd (y.ok k had)) (λy=>u64 (y.a.ver+1)) 1 (λy=>[.m (y.res k had).os])
noncomputable def anCg(k:Int)(had:Bool)(y:ZCg):FuncId->qL:=λf=>bif Nat.beq f 210 then(λb _ _=>
 bif Nat.beq b 1007 then [{σ:=Unit,fr:=λ_=>[(4,u64 y.gr)],ob:=λ_=>[],inv:=λ_=>Hd True,meas:=λ_=>0}]else
 bif Nat.beq b 0 then [{σ:=Nat,fr:=λi=>[(67,i64 i)],ob:=λi=>[(5,some (.abs (ownM (ZCk.os ⟨y.a.c.notes y.t y.ln i,y.a.ph⟩))))],inv:=λi=>Hd (i<=(y.blk k had).dL),meas:=λi=>(y.blk k had).dL-i}]else [])elseλ_ _ _=>[]
noncomputable def apU:aeW:={X:=ZTq,args:=λx=>[.ptr 0 0,.lit (.string x.s)],L:=λx=>x.L,pre:=λx=>Hd (x.s.size<1099511627776),outs:=[
 {Y:=ZLnk×Bool,post:=λ_ _=>True,ret:=λ_ y=> .tup [y.1.av,boo y.2],L:=λx _=>fZ x.L x.s,m:=1,ex:=λ_ _=>[]}]}
theorem aol{L:Lks}{s:ByteArray}(h:gY L s=none):fZ L s=L:=List.filter_eq_self.2 λl hl=>by
 have:=uU h l hl;rw[decide_eq_false this];rfl
theorem ajE:cO Tryz.prog 252 apU.C:=jg λx hx=>⟨_,anJ,rfl,x,hx,rfl,rfl,λv h' hh=>by
 rcases nZ hh with ⟨y,h0,e1,e2⟩|⟨y,h0,e1,e2⟩
 ·have e2:h'=hO 1 [.abs (tabA x.L)]:=e2
  refine eF ⟨(iQ,false),trivial,e1,?_⟩;show h'=hO 1 [.abs (tabA (fZ x.L x.s))];rw[aol (aZ.1 h0)];exact e2
 ·exact eF ⟨(y,true),trivial,e1,e2⟩⟩
noncomputable def asN:je:=nU++[(113,aiH),(180,ctrT apD),(62,ctrT IX.ctr),(64,ctrT avf),(250,ctrT au2.C),(251,ctrT setO.C),(252,ctrT apU.C),(253,ctrT au9.C),(254,ctrT QS.ctr),(255,ctrT aaB.ctr),(66,ctrT ahN.ctr),(67,ctrT auw.ctr)]
def wE(a:Nat):Prop:=Nat.beq a 0=Nat.beq a 0
def BO(a:ZSto):Prop:=wE a.n/\a.n=a.n/\ ∀q:Nat,q<a.n->[Value.int .i64 (ZEff.kind (a.e q)),Value.string (ZEff.key (a.e q)),Value.string (ZEff.value (a.e q)),Value.int .u64 (ZEff.id (a.e q)),Value.int .u64 (ZEff.ver (a.e q)),Value.int .u64 (ZEff.epoch (a.e q)),Value.int .i64 (ZEff.group (a.e q))]=[Value.int .i64 (ZEff.kind (a.e q)),Value.string (ZEff.key (a.e q)),Value.string (ZEff.value (a.e q)),Value.int .u64 (ZEff.id (a.e q)),Value.int .u64 (ZEff.ver (a.e q)),Value.int .u64 (ZEff.epoch (a.e q)),Value.int .i64 (ZEff.group (a.e q))]
def abe(a:ZCg):Prop:=a.x.old.key=a.x.old.key/\a.x.old.id=a.x.old.id/\a.x.old.ver=a.x.old.ver/\a.x.old.line=a.x.old.line/\a.x.old.cls=a.x.old.cls/\(a.ln:Int)=(a.ln:Int)/\a.x.cls=a.x.cls/\True
def FK(a:Int):Prop:=IntKind.wrap .u64 (a+1)=IntKind.wrap .u64 (a+1)
def FM(a:Int):Prop:=a+1=IntKind.wrap .u64 (a+1)
def sK(a:ZPool):Prop:=ownM a.os=ownM a.os
def zY:Prop:=0=0/\(1:Int)=1/\(0:Int)=0/\(0:Int)=0/\True
def LW(a:Nat):Prop:=AV.slV (Nat.beq a 0) 10 7 a=AV.slV (Nat.beq a 0) 10 7 a/\True
def Xu(a:Int):Prop:=AV.lit (Value.int .i64 a)=AV.lit (Value.int .i64 a)
def ajF(a:ZLnk):Prop:=Xu a.cls/\Xu a.line/\AV.ptr 6 0=AV.ptr 6 0/\True
def yZ(a:Nat):Prop:=Nat.beq (a+1) 0=false
def LX(a:ZSto):Prop:=FM a.ver/\(yZ a.n/\a.n+1=a.n+1)/\True
def qp(a:Int)(b:Int):Prop:=a=IntKind.wrap .u64 (b+1)
def FN(a:ZLnk)(b:ZCg):Prop:=qp a.ver b.a.ver/\a.line=(b.ln:Int)/\a.cls=b.x.cls/\True
def LY(a:Nat):Prop:=(2*(a+1)+1000)*72<=281474976710656
def Xv(a:ZCg)(b:lD)(c:Nat):Prop:=I64 a.gr/\ ∃x_2:Hr,Hd (x_2.l.key.size<1099511627776/\List.length (jv x_2.L x_2.l)<=258)/\(0=0/\(x_2.l.key=a.x.key/\x_2.l.id=a.x.old.id/\FN x_2.l a)/\True)/\(tabA x_2.L=tabA a.a.L/\True)/\ ∀y_3:Unit,True->True/\ ∃x_3:Hr,Hd (x_3.l.key.size<1099511627776/\List.length (jv x_3.L x_3.l)<=300)/\(0=0/\(x_3.l.key=a.x.key/\x_3.l.id=a.x.old.id/\FN x_3.l a)/\True)/\(ordA x_3.L=ordA a.a.L/\True)/\ ∀y_4:Unit,True->True/\ ∃x_4:ZRd,Hd x_4.ok/\(0=0/\True)/\(ownM x_4.os=ownM a.a.r.os/\True)/\ ∀y_5:Unit,True->ajF a.x.old/\ ∃x_5:Cj,Hd (x_5.b.ok/\x_5.x.may)/\(0=0/\(x_5.x.line=a.x.old.line/\x_5.x.cls=a.x.old.cls/\x_5.x.r=x_4.now/\x_5.x.d=a.e/\x_5.x.anti=(-(1:Int))/\True)/\True)/\(ownM x_5.b.os=ownM a.a.b.os/\True)/\ ∀y_6:Unit,True->True/\LW a.a.n/\wE a.a.n/\a.a.n=a.a.n/\List.all [List.take 7 [Value.int .i64 1,Value.string a.x.key,Value.string a.x.value,Value.int .u64 a.x.old.id,Value.int .u64 (IntKind.wrap .u64 (a.a.ver+1)),Value.int .u64 a.e,Value.int .i64 a.gr]] (λ(l:List Value)=>Nat.beq (List.length l) 7&&List.all l Value.oneCell')=true/\LY a.a.n/\True/\True/\ ∃y_7:Unit,True/\FM a.a.ver/\(0=0/\0=0/\0=0/\0=0/\0=0/\0=0/\0=0/\0=0/\ite ((2:Int)=4\/(2:Int)=2/\true=false) (a.a.id+1) a.a.id=a.a.id/\LX a.a)/\zY/\ownM (DevM.os (a.a.d.store a.ln 0 64 (ZBlk.enc (a.blk (2:Int) true))))=ownM (DevM.os (b.d.store b.k b.a b.b.n (λ(q:Nat)=>b.b.g (b.b.q+q))))/\sK a.a.p/\ownM a.a.r.os=ownM x_4.os/\ownM (ZCk.os (ZSto.ck (a.res (2:Int) true)))=ownM (ZCk.os (ZCk.mk (a.a.c.notes a.t (a.ln:Int) c) a.a.ph))/\ownM (iw.os (ite (true=true/\
 (2:Int)≠(4:Int)) (a.a.b.put (a.ent (2:Int))) a.a.b))=ownM (iw.os (x_5.b.put x_5.x))/\tabA (ite ((2:Int)=2) (jv a.a.L (a.lnk (2:Int) true)) (ite ((2:Int)=3) (fZ a.a.L a.x.key) a.a.L))=tabA (jv x_2.L x_2.l)/\ordA (ite ((2:Int)=2) (jv a.a.L (a.lnk (2:Int) true)) (ite ((2:Int)=3) (fZ a.a.L a.x.key) a.a.L))=ordA (jv x_3.L x_3.l)/\ownM (ZLn.os (ite ((2:Int)=4) (a.a.l.push (a.lnk (2:Int) true)) (ite ((2:Int)=5) a.a.l.pop a.a.l)))=ownM a.a.l.os/\(yZ a.a.n/\a.a.n+1=a.a.n+List.length [List.take 7 [Value.int .i64 1,Value.string a.x.key,Value.string a.x.value,Value.int .u64 a.x.old.id,Value.int .u64 (IntKind.wrap .u64 (a.a.ver+1)),Value.int .u64 a.e,Value.int .i64 a.gr]]/\ ∀q:Nat,q<a.a.n+1->[Value.int .i64 (ZEff.kind (ite (q=a.a.n) (a.eff (2:Int) true) (a.a.e q))),Value.string (ZEff.key (ite (q=a.a.n) (a.eff (2:Int) true) (a.a.e q))),Value.string (ZEff.value (ite (q=a.a.n) (a.eff (2:Int) true) (a.a.e q))),Value.int .u64 (ZEff.id (ite (q=a.a.n) (a.eff (2:Int) true) (a.a.e q))),Value.int .u64 (ZEff.ver (ite (q=a.a.n) (a.eff (2:Int) true) (a.a.e q))),Value.int .u64 (ZEff.epoch (ite (q=a.a.n) (a.eff (2:Int) true) (a.a.e q))),Value.int .i64 (ZEff.group (ite (q=a.a.n) (a.eff (2:Int) true) (a.a.e q)))]=Cs.eff (λ(i:Nat)=>ZEff.cs (a.a.e i)) [(a.a.n,List.take 7 [Value.int .i64 1,Value.string a.x.key,Value.string a.x.value,Value.int .u64 a.x.old.id,Value.int .u64 (IntKind.wrap .u64 (a.a.ver+1)),Value.int .u64 a.e,Value.int .i64 a.gr])] q)/\True
def LZ(a:lD):Prop:=ownM (DevM.os (a.d.store a.k a.a a.b.n (λ(q:Nat)=>a.b.g (a.b.q+q))))=ownM (DevM.os (a.d.store a.k a.a a.b.n (λ(q:Nat)=>a.b.g (a.b.q+q))))
def Xw(a:ZSto):Prop:=zY/\(0=0/\0=0/\0=0/\0=0/\0=0/\0=0/\0=0/\0=0/\FK a.id/\FK a.ver/\(wE a.n/\a.n=a.n)/\True)/\True
def Xx(a:ZSto)(b:lD):Prop:=ownM a.r.os=ownM a.r.os/\sK a.p/\LZ b/\Xw a
def Xy(a:ZSto):Prop:=zY/\(0=0/\0=0/\0=0/\0=0/\0=0/\0=0/\0=0/\0=0/\a.id=a.id/\FK a.ver/\(wE a.n/\a.n=a.n)/\True)/\True
def Xz(a:ZLnk)(b:ZCg):Prop:=qp a.id b.a.id/\FN a b
def XA(a:ZCg)(b:lD)(c:Nat):Prop:=I64 a.gr/\ ∃x_2:Hr,Hd (x_2.l.key.size<1099511627776/\List.length (jv x_2.L x_2.l)<=258)/\(0=0/\(x_2.l.key=a.x.key/\Xz x_2.l a)/\True)/\(tabA x_2.L=tabA a.a.L/\True)/\ ∀y_3:Unit,True->True/\ ∃x_3:Hr,Hd (x_3.l.key.size<1099511627776/\List.length (jv x_3.L x_3.l)<=300)/\(0=0/\(x_3.l.key=a.x.key/\Xz x_3.l a)/\True)/\(ordA x_3.L=ordA a.a.L/\True)/\ ∀y_4:Unit,True->True/\LW a.a.n/\wE a.a.n/\a.a.n=a.a.n/\List.all [List.take 7 [Value.int .i64 1,Value.string a.x.key,Value.string a.x.value,Value.int .u64 (IntKind.wrap .u64 (a.a.id+1)),Value.int .u64 (IntKind.wrap .u64 (a.a.ver+1)),Value.int .u64 a.e,Value.int .i64 a.gr]] (λ(l:List Value)=>Nat.beq (List.length l) 7&&List.all l Value.oneCell')=true/\LY a.a.n/\True/\True/\ ∃y_5:Unit,True/\FM a.a.ver/\(0=0/\0=0/\0=0/\0=0/\0=0/\0=0/\0=0/\0=0/\ite ((2:Int)=4\/(2:Int)=2/\false=false) (a.a.id+1) a.a.id=IntKind.wrap .u64 (a.a.id+1)/\LX a.a)/\zY/\ownM (DevM.os (a.a.d.store a.ln 0 64 (ZBlk.enc (a.blk (2:Int) false))))=ownM (DevM.os (b.d.store b.k b.a b.b.n (λ(q:Nat)=>b.b.g (b.b.q+q))))/\sK a.a.p/\ownM a.a.r.os=ownM a.a.r.os/\ownM (ZCk.os (ZSto.ck (a.res (2:Int) false)))=ownM (ZCk.os (ZCk.mk (a.a.c.notes a.t (a.ln:Int) c) a.a.ph))/\ownM (iw.os (ite (false=true/\(2:Int)≠(4:Int)) (a.a.b.put (a.ent (2:Int))) a.a.b))=ownM a.a.b.os/\tabA (ite ((2:Int)=2) (jv a.a.L (a.lnk (2:Int) false)) (ite ((2:Int)=3) (fZ a.a.L a.x.key) a.a.L))=tabA (jv x_2.L x_2.l)/\ordA (ite ((2:Int)=2) (jv a.a.L (a.lnk (2:Int) false)) (ite ((2:Int)=3) (fZ a.a.L a.x.key) a.a.L))=ordA (jv x_3.L x_3.l)/\
 ownM (ZLn.os (ite ((2:Int)=4) (a.a.l.push (a.lnk (2:Int) false)) (ite ((2:Int)=5) a.a.l.pop a.a.l)))=ownM a.a.l.os/\(yZ a.a.n/\a.a.n+1=a.a.n+List.length [List.take 7 [Value.int .i64 1,Value.string a.x.key,Value.string a.x.value,Value.int .u64 (IntKind.wrap .u64 (a.a.id+1)),Value.int .u64 (IntKind.wrap .u64 (a.a.ver+1)),Value.int .u64 a.e,Value.int .i64 a.gr]]/\ ∀q:Nat,q<a.a.n+1->[Value.int .i64 (ZEff.kind (ite (q=a.a.n) (a.eff (2:Int) false) (a.a.e q))),Value.string (ZEff.key (ite (q=a.a.n) (a.eff (2:Int) false) (a.a.e q))),Value.string (ZEff.value (ite (q=a.a.n) (a.eff (2:Int) false) (a.a.e q))),Value.int .u64 (ZEff.id (ite (q=a.a.n) (a.eff (2:Int) false) (a.a.e q))),Value.int .u64 (ZEff.ver (ite (q=a.a.n) (a.eff (2:Int) false) (a.a.e q))),Value.int .u64 (ZEff.epoch (ite (q=a.a.n) (a.eff (2:Int) false) (a.a.e q))),Value.int .i64 (ZEff.group (ite (q=a.a.n) (a.eff (2:Int) false) (a.a.e q)))]=Cs.eff (λ(i:Nat)=>ZEff.cs (a.a.e i)) [(a.a.n,List.take 7 [Value.int .i64 1,Value.string a.x.key,Value.string a.x.value,Value.int .u64 (IntKind.wrap .u64 (a.a.id+1)),Value.int .u64 (IntKind.wrap .u64 (a.a.ver+1)),Value.int .u64 a.e,Value.int .i64 a.gr])] q)/\True
def L6(a:ZCg):Prop:=FK a.a.ver/\a.e=a.e/\a.x.key=a.x.key/\a.x.value=a.x.value/\True
def XB(a:ZSto)(b:lD):Prop:=ownM a.r.os=ownM a.r.os/\sK a.p/\LZ b/\Xy a
def kH(a:ZCg):Prop:=a.x.cls=a.x.cls/\(1:Int)=1/\a.x.old.id=a.x.old.id/\L6 a
def XC(a:ZSto):Prop:=BO a/\ownM a.l.os=ownM a.l.os/\ordA a.L=ordA a.L/\tabA a.L=tabA a.L/\ownM a.b.os=ownM a.b.os/\ownM a.ck.os=ownM a.ck.os/\ownM a.r.os=ownM a.r.os/\sK a.p/\ownM a.d.os=ownM a.d.os/\Xw a
def XD(a:ZSto):Prop:=BO a/\ownM a.l.os=ownM a.l.os/\ordA a.L=ordA a.L/\tabA a.L=tabA a.L/\ownM a.b.os=ownM a.b.os/\ownM a.ck.os=ownM a.ck.os/\ownM a.r.os=ownM a.r.os/\sK a.p/\ownM a.d.os=ownM a.d.os/\Xy a
def ajG(a:ZCg):Prop:=a.x.key=a.x.key/\a.x.value=a.x.value/\true=true/\abe a
def ajH(a:ZCg):Prop:=a.x.key=a.x.key/\a.x.value=a.x.value/\false=false/\abe a
def L8(a:ZCg)(b:Nat)(c:alk):Prop:=ownM (ZCk.os (ZCk.mk (a.a.c.notes a.t (a.ln:Int) b) a.a.ph))=ownM (ZCk.os (ZCk.mk (c.k.c.note c.t c.l) c.k.ph))
def XE(a:ZCg)(b:Nat)(c:alk)(d:lD):Prop:=BO a.a/\ownM a.a.l.os=ownM a.a.l.os/\ordA a.a.L=ordA a.a.L/\tabA a.a.L=tabA a.a.L/\ownM a.a.b.os=ownM a.a.b.os/\L8 a b c/\Xx a.a d
def XF(a:ZCg)(b:Nat)(c:alk)(d:lD):Prop:=BO a.a/\ownM a.a.l.os=ownM a.a.l.os/\ordA a.a.L=ordA a.a.L/\tabA a.a.L=tabA a.a.L/\ownM a.a.b.os=ownM a.a.b.os/\L8 a b c/\XB a.a d
def zZ(a:ZBlk):Prop:=64=64/\ ∀q:Nat,q<64->[Value.int .u8 (a.enc q)]=[Value.int .u8 (a.enc q)]
def Aa(a:Nat):Prop:=AV.lit (Value.int .i64 (a:Int))=AV.lit (Value.int .i64 (a:Int))/\True
def kJ(a:ZCg):Prop:=a.x.cls=a.x.cls/\(1:Int)=1/\FK a.a.id/\L6 a
def XG(a:ZCg)(b:Nat)(c:lD):Prop:=BO a.a/\ownM a.a.l.os=ownM a.a.l.os/\ordA a.a.L=ordA a.a.L/\tabA a.a.L=tabA a.a.L/\ownM a.a.b.os=ownM a.a.b.os/\ownM (ZCk.os (ZCk.mk (a.a.c.notes a.t (a.ln:Int) b) a.a.ph))=ownM a.a.ck.os/\Xx a.a c
def XH(a:ZCg)(b:Nat)(c:lD):Prop:=BO a.a/\ownM a.a.l.os=ownM a.a.l.os/\ordA a.a.L=ordA a.a.L/\tabA a.a.L=tabA a.a.L/\ownM a.a.b.os=ownM a.a.b.os/\ownM (ZCk.os (ZCk.mk (a.a.c.notes a.t (a.ln:Int) b) a.a.ph))=ownM a.a.ck.os/\XB a.a c
def Ac(a:lD)(b:Nat):Prop:=0=0/\(a.k:Int)=(b:Int)/\(a.a:Int)=0/\(a.b.q=0/\a.b.n=64)/\True
def Ad(a:ZBlk):Prop:=64*a.dL=64*a.dL/\ ∀q:Nat,q<64*a.dL->[Value.int .u8 (a.enc q)]=[Value.int .u8 (a.enc q)]
def L9(a:Bys)(b:ZBlk):Prop:= ∀q:Nat,q<a.N->[Value.int .u8 (a.g q)]=[Value.int .u8 (b.enc q)]
def Mc(a:lD)(b:DevM)(c:ZBlk):Prop:=ownM a.d.os=ownM b.os/\(a.b.N=64/\L9 a.b c)/\True
def Ae(a:ZCk)(b:ZCg)(c:Nat):Prop:=ownM a.os=ownM (ZCk.os (ZCk.mk (b.a.c.notes b.t (b.ln:Int) c) b.a.ph))/\True
def Af(a:alk)(b:ZCg)(c:Nat):Prop:=0=0/\(a.t:Int)=(b.t:Int)/\a.l=(b.ln:Int)+(c:Int)/\True
def Ag(a:lD):Prop:=Hd (a.d.ok/\a.k<a.d.n/\a.b.ok/\a.a+a.b.n<=64)
def FQ(a:ByteArray):Prop:=AV.lit (Value.string a)=AV.lit (Value.string a)
def Ah(a:alk):Prop:=Hd (a.k.ph<=4/\a.k.c.ok/\a.t<a.k.c.t)
def Ai(a:ByteArray):Prop:=FQ a/\True
def mZ(a:ZCg):Prop:=(2:Int)=2/\ajH a
def ng(a:ZCg):Prop:=(2:Int)=2/\ajG a
def wF(a:Nat)(b:ZCg):Prop:=Hd (a<=ZBlk.dL (b.blk (2:Int) false))
def Md(a:ZCg):Prop:=a.gr=IntKind.wrap .u64 (a.a.ver+1)/\True
def Aj(a:Nat)(b:Nat):Prop:=(a:Int)=(b:Int)+1/\True
def wG(a:Nat)(b:ZCg):Prop:=Hd (a<=ZBlk.dL (b.blk (2:Int) true))
def Me(a:ZBlk):Prop:=Hd (a.may/\a.key.size<1099511627776/\a.value.size<1099511627776)
def MB:Prop:=0<=64/\64<=64/\64<=64
def MC(a:ZBlk):Prop:=0<=64/\64<=64*a.dL/\64*a.dL<=64*a.dL
def Dq(a:lD)(b:DevM)(c:ZBlk):Prop:=ownM a.d.os=ownM b.os/\(a.b.N=64*c.dL/\L9 a.b c)/\True
def uZ(a:Nat)(b:Nat):Prop:=I64 ((a:Int)+(b:Int))
def vg(a:Nat):Prop:=(a:Int)=0/\True
def XI(y:ZCg):Prop:=
 cP (BEq.beq y.g (0:Int)) (∃s:Unit,Hd True/\True/\Md y/\mZ y/\XC y.a) (∃s:Unit,Hd True/\True/\(y.gr=y.g/\True)/\mZ y/\XC y.a)/\(∀s:Unit,Hd True->(FQ y.x.value/\Ai y.x.key)/\Ai y.x.value/\True/\ ∃x:ZBlk,Me x/\((x.cls=y.x.cls/\x.kind=1/\qp x.id y.a.id/\qp x.ver y.a.ver/\x.epoch=y.e/\x.key=y.x.key/\x.value=y.x.value/\True)/\True)/\True/\(∀y_1:Unit,Hd (x.cls=0)->(0:Int)<=64/\MB/\Aa y.ln/\ ∃x_1:lD,Ag x_1/\Ac x_1 y.ln/\Mc x_1 y.a.d x/\ ∀y_2:Unit,True->True/\(∃s_1:Nat,wF s_1 y/\True/\vg s_1/\zZ x/\kJ y/\kJ y/\kJ y/\mZ y/\mZ y/\XG y s_1 x_1)/\(∀s_1:Nat,wF s_1 y->cP (decide ((s_1:Int)<spn y.x.cls)) (uZ y.ln s_1/\ ∃x_2:alk,Ah x_2/\Af x_2 y s_1/\Ae x_2.k y s_1/\ ∀y_3:Unit,True->True/\I64 ((s_1:Int)+1)/\ ∃s_2:Nat,wF s_2 y/\ZBlk.dL (y.blk (2:Int) false)-s_2<ZBlk.dL (y.blk (2:Int) false)-s_1/\Aj s_2 s_1/\zZ x/\kJ y/\kJ y/\kJ y/\mZ y/\mZ y/\XE y s_2 x_2 x_1) (XA y x_1 s_1))/\True)/\ ∀y_1:Unit,Hd (x.cls≠(0:Int))->(0:Int)<=64/\MC x/\Aa y.ln/\ ∃x_1:lD,Ag x_1/\Ac x_1 y.ln/\Dq x_1 y.a.d x/\ ∀y_2:Unit,True->True/\(∃s_1:Nat,wF s_1 y/\True/\vg s_1/\Ad x/\kJ y/\kJ y/\kJ y/\mZ y/\mZ y/\XG y s_1 x_1)/\(∀s_1:Nat,wF s_1 y->cP (decide ((s_1:Int)<spn y.x.cls)) (uZ y.ln s_1/\ ∃x_2:alk,Ah x_2/\Af x_2 y s_1/\Ae x_2.k y s_1/\ ∀y_3:Unit,True->True/\I64 ((s_1:Int)+1)/\
 ∃s_2:Nat,wF s_2 y/\ZBlk.dL (y.blk (2:Int) false)-s_2<ZBlk.dL (y.blk (2:Int) false)-s_1/\Aj s_2 s_1/\Ad x/\kJ y/\kJ y/\kJ y/\mZ y/\mZ y/\XE y s_2 x_2 x_1) (XA y x_1 s_1))/\True)/\True
theorem ad6(y:ZCg):XI y=wpF Tryz.prog asN tt (anCg 2 false y) 200 6 210 ((aok 2 false).args y) (hO 11 (flatP 1 ((aok 2 false).l y))) (λv h'=>endsPK 1 y v h' (aok 2 false).outs):=by kernel_rfl
def XJ(y:ZCg):Prop:=
 cP (BEq.beq y.g (0:Int)) (∃s:Unit,Hd True/\True/\Md y/\ng y/\XD y.a) (∃s:Unit,Hd True/\True/\(y.gr=y.g/\True)/\ng y/\XD y.a)/\(∀s:Unit,Hd True->(FQ y.x.value/\Ai y.x.key)/\Ai y.x.value/\True/\ ∃x:ZBlk,Me x/\((x.cls=y.x.cls/\x.kind=1/\x.id=y.x.old.id/\qp x.ver y.a.ver/\x.epoch=y.e/\x.key=y.x.key/\x.value=y.x.value/\True)/\True)/\True/\(∀y_1:Unit,Hd (x.cls=0)->(0:Int)<=64/\MB/\Aa y.ln/\ ∃x_1:lD,Ag x_1/\Ac x_1 y.ln/\Mc x_1 y.a.d x/\ ∀y_2:Unit,True->True/\(∃s_1:Nat,wG s_1 y/\True/\vg s_1/\zZ x/\kH y/\kH y/\kH y/\ng y/\ng y/\XH y s_1 x_1)/\(∀s_1:Nat,wG s_1 y->cP (decide ((s_1:Int)<spn y.x.cls)) (uZ y.ln s_1/\ ∃x_2:alk,Ah x_2/\Af x_2 y s_1/\Ae x_2.k y s_1/\ ∀y_3:Unit,True->True/\I64 ((s_1:Int)+1)/\ ∃s_2:Nat,wG s_2 y/\ZBlk.dL (y.blk (2:Int) true)-s_2<ZBlk.dL (y.blk (2:Int) true)-s_1/\Aj s_2 s_1/\zZ x/\kH y/\kH y/\kH y/\ng y/\ng y/\XF y s_2 x_2 x_1) (Xv y x_1 s_1))/\True)/\ ∀y_1:Unit,Hd (x.cls≠(0:Int))->(0:Int)<=64/\MC x/\Aa y.ln/\ ∃x_1:lD,Ag x_1/\Ac x_1 y.ln/\Dq x_1 y.a.d x/\ ∀y_2:Unit,True->True/\(∃s_1:Nat,wG s_1 y/\True/\vg s_1/\Ad x/\kH y/\kH y/\kH y/\ng y/\ng y/\XH y s_1 x_1)/\(∀s_1:Nat,wG s_1 y->cP (decide ((s_1:Int)<spn y.x.cls)) (uZ y.ln s_1/\ ∃x_2:alk,Ah x_2/\Af x_2 y s_1/\Ae x_2.k y s_1/\ ∀y_3:Unit,True->True/\I64 ((s_1:Int)+1)/\ ∃s_2:Nat,wG s_2 y/\
 ZBlk.dL (y.blk (2:Int) true)-s_2<ZBlk.dL (y.blk (2:Int) true)-s_1/\Aj s_2 s_1/\Ad x/\kH y/\kH y/\kH y/\ng y/\ng y/\XF y s_2 x_2 x_1) (Xv y x_1 s_1))/\True)/\True
theorem ad7(y:ZCg):XJ y=wpF Tryz.prog asN tt (anCg 2 true y) 200 6 210 ((aok 2 true).args y) (hO 11 (flatP 1 ((aok 2 true).l y))) (λv h'=>endsPK 1 y v h' (aok 2 true).outs):=by kernel_rfl
theorem MF{n:Nat}{e:Nat->ZEff}{E:ZEff}{cs:List Value}(h:cs=E.cs)(q:Nat):(if q=n then E else e q:ZEff).cs=Cs.eff (λi=>(e i).cs) [(n,List.take 7 cs)] q:=by
 subst h;show _=bif Nat.beq q n then List.take 7 E.cs else(e q).cs;rw[dD];by_cases hq:q=n
 ·rw[if_pos hq,decide_eq_true hq];rfl
 ·rw[if_neg hq,decide_eq_false hq];rfl
theorem apV{y:ZCg}(h1:0<=y.a.ver)(h2:y.a.ver<1152921504606846976)(h3:0<=y.g)(h4:y.g<1152921504606846977):I64 y.gr:=by
 unfold ZCg.gr I64;split<;>omega
theorem SS(y:ZCg)(hy:y.ok 2 true):XJ y:=by
 obtain⟨o1,o2,o3,o4,o5,o6,o7,o8,o9,o10,o11,o12,o13,o14,o15,o16,o17,o18,o19,o20⟩:=hy;obtain⟨p1,p2,p3⟩:=o18 rfl;have o19:=o19 rfl;have w1:IntKind.u64.wrap (y.a.ver+1)=y.a.ver+1:=jf (by omega) (by omega);have w2:IntKind.u64.wrap (y.a.id+1)=y.a.id+1:=jf (by omega) (by omega);have hg:=apV o10 o11 o14 o15;have hs8:=oN (y.blk 2 true);have hsc:((y.blk 2 true).dL:Int)=spn y.x.cls:=hs8.2;have hsp:=yU o7;have hd: ∀N,(⟨y.a.d,y.ln,0,⟨(y.blk 2 true).enc,0,64,N⟩⟩:lD).d.store y.ln 0 64 (λq=>(y.blk 2 true).enc (0+q))=y.a.d.store y.ln 0 64 (y.blk 2 true).enc:=λ_=>aaR _ _ _ _ _
 unfold XJ;simp only[Md,ng,XD,FQ,Ai,Me,qp,MB,Aa,Ag,Ac,Mc,wG,vg,zZ,kH,XH,uZ,Ah,Af,Ae,Aj,XF,Xv,MC,Dq,Ad,L9,FN,ajF,LW,wE,LY,FM,LX,zY,sK,yZ,Xu,BO,L8,XB,LZ,Xy,FK,L6,ajG,abe];simp only[aZ,aV,aU,aA,aI,bU,bG,aO,aK,ay,aX,aW,bV,bH,bJ,bK,bW,bC,bM,bn,eY,aH,aN,ah,ak,aB,aF,aC,aG,w1,w2];refine⟨bf (λh=> ?_) λh=> ?_,y.blk 2 true,⟨o7,o8,o9⟩,⟨rfl,rfl,rfl,rfl,rfl,rfl,rfl⟩,λh0=> ?_,λh0=> ?_⟩
 ·have h:=beq_iff_eq.1 h
  unfold ZCg.gr;rw[if_pos h]
 ·have h:=beq_eq_false_iff_ne.1 h
  unfold ZCg.gr;rw[if_neg h]
 ·refine⟨by decide,⟨by decide,by decide⟩,⟨y.a.d,y.ln,0,⟨(y.blk 2 true).enc,0,64,64⟩⟩,⟨o1,o5,⟨aY _,by show 64<1099511627776;decide,yS o7⟩,aY _⟩,⟨rfl,rfl,rfl,rfl⟩,⟨rfl,rfl,λ_ _=>rfl⟩,⟨0,Nat.zero_le _,rfl,rfl⟩,λs hs=>bf (λh=> ?_) λh=> ?_⟩
  ·have h:=aS h
   exact⟨by unfold I64;omega,⟨⟨y.a.c.notes y.t y.ln s,y.a.ph⟩,y.t,y.ln+s⟩,⟨o3,yT o2 o17 _ _ (by omega),by show y.t<(y.a.c.notes y.t y.ln s).t;rw[rJ];exact o4⟩,⟨rfl,rfl⟩,rfl,by unfold I64;omega,s+1,by omega,by omega,by omega,rfl⟩
  ·have h:=aT h
   have hs:s<=(y.blk 2 true).dL:=hs;obtain rfl:s=(y.blk 2 true).dL:=by omega
   exact⟨hg,⟨y.a.L,y.lnk 2 true⟩,⟨o8,o19⟩,⟨rfl,rfl,rfl,rfl,rfl⟩,rfl,⟨y.a.L,y.lnk 2 true⟩,⟨o8,Nat.le_trans o19 (by decide)⟩,⟨rfl,rfl,rfl,rfl,rfl⟩,rfl,y.a.r,p2,rfl,⟨y.a.b,y.ent 2⟩,⟨p1,p3⟩,⟨rfl,rfl,rfl,rfl,rfl⟩,rfl,rfl,by omega,⟨rfl,rfl⟩,(congrArg (λd=>ownM (DevM.os d)) (hd 64)).symm,rfl,rfl,rfl,rfl,rfl,rfl,rfl,rfl,λq _=>MF (E:=y.eff 2 true) rfl q⟩
 ·refine⟨by decide,⟨by decide,by omega⟩,⟨y.a.d,y.ln,0,⟨(y.blk 2 true).enc,0,64,64*(y.blk 2 true).dL⟩⟩,⟨o1,o5,⟨by show 0+64<=64*(y.blk 2 true).dL;omega,by show 64<1099511627776;decide,yS o7⟩,aY _⟩,⟨rfl,rfl,rfl,rfl⟩,⟨rfl,rfl,λ_ _=>rfl⟩,⟨0,Nat.zero_le _,rfl,rfl⟩,λs hs=>bf (λh=> ?_) λh=> ?_⟩
  ·have h:=aS h
   exact⟨by unfold I64;omega,⟨⟨y.a.c.notes y.t y.ln s,y.a.ph⟩,y.t,y.ln+s⟩,⟨o3,yT o2 o17 _ _ (by omega),by show y.t<(y.a.c.notes y.t y.ln s).t;rw[rJ];exact o4⟩,⟨rfl,rfl⟩,rfl,by unfold I64;omega,s+1,by omega,by omega,by omega,rfl⟩
  ·have h:=aT h
   have hs:s<=(y.blk 2 true).dL:=hs;obtain rfl:s=(y.blk 2 true).dL:=by omega
   exact⟨hg,⟨y.a.L,y.lnk 2 true⟩,⟨o8,o19⟩,⟨rfl,rfl,rfl,rfl,rfl⟩,rfl,⟨y.a.L,y.lnk 2 true⟩,⟨o8,Nat.le_trans o19 (by decide)⟩,⟨rfl,rfl,rfl,rfl,rfl⟩,rfl,y.a.r,p2,rfl,⟨y.a.b,y.ent 2⟩,⟨p1,p3⟩,⟨rfl,rfl,rfl,rfl,rfl⟩,rfl,rfl,by omega,⟨rfl,rfl⟩,(congrArg (λd=>ownM (DevM.os d)) (hd (64*(y.blk 2 true).dL))).symm,rfl,rfl,rfl,rfl,rfl,rfl,rfl,rfl,λq _=>MF (E:=y.eff 2 true) rfl q⟩
theorem SV(y:ZCg)(hy:y.ok 2 false):XI y:=by
 obtain⟨o1,o2,o3,o4,o5,o6,o7,o8,o9,o10,o11,o12,o13,o14,o15,o16,o17,o18,o19,o20⟩:=hy;have o19:=o19 rfl;have w1:IntKind.u64.wrap (y.a.ver+1)=y.a.ver+1:=jf (by omega) (by omega);have w2:IntKind.u64.wrap (y.a.id+1)=y.a.id+1:=jf (by omega) (by omega);have hg:=apV o10 o11 o14 o15;have hs8:=oN (y.blk 2 false);have hsc:((y.blk 2 false).dL:Int)=spn y.x.cls:=hs8.2;have hsp:=yU o7;have hd: ∀N,(⟨y.a.d,y.ln,0,⟨(y.blk 2 false).enc,0,64,N⟩⟩:lD).d.store y.ln 0 64 (λq=>(y.blk 2 false).enc (0+q))=y.a.d.store y.ln 0 64 (y.blk 2 false).enc:=λ_=>aaR _ _ _ _ _
 unfold XI;simp only[Md,mZ,XC,FQ,Ai,Me,qp,MB,Aa,Ag,Ac,Mc,wF,vg,zZ,kJ,XG,uZ,Ah,Af,Ae,Aj,XE,XA,MC,Dq,Ad,L9,Xz,LW,wE,LY,FM,LX,zY,sK,yZ,FN,BO,L8,Xx,LZ,Xw,FK,L6,ajH,abe];simp only[aZ,aV,aU,aA,aI,bU,bG,aO,aK,ay,aX,aW,bV,bH,bJ,bK,bW,bC,bM,bn,eY,aH,aN,ah,ak,aB,aF,aC,aG,w1,w2];refine⟨bf (λh=> ?_) λh=> ?_,y.blk 2 false,⟨o7,o8,o9⟩,⟨rfl,rfl,rfl,rfl,rfl,rfl,rfl⟩,λh0=> ?_,λh0=> ?_⟩
 ·have h:=beq_iff_eq.1 h
  unfold ZCg.gr;rw[if_pos h]
 ·have h:=beq_eq_false_iff_ne.1 h
  unfold ZCg.gr;rw[if_neg h]
 ·refine⟨by decide,⟨by decide,by decide⟩,⟨y.a.d,y.ln,0,⟨(y.blk 2 false).enc,0,64,64⟩⟩,⟨o1,o5,⟨aY _,by show 64<1099511627776;decide,yS o7⟩,aY _⟩,⟨rfl,rfl,rfl,rfl⟩,⟨rfl,rfl,λ_ _=>rfl⟩,⟨0,Nat.zero_le _,rfl,rfl⟩,λs hs=>bf (λh=> ?_) λh=> ?_⟩
  ·have h:=aS h
   exact⟨by unfold I64;omega,⟨⟨y.a.c.notes y.t y.ln s,y.a.ph⟩,y.t,y.ln+s⟩,⟨o3,yT o2 o17 _ _ (by omega),by show y.t<(y.a.c.notes y.t y.ln s).t;rw[rJ];exact o4⟩,⟨rfl,rfl⟩,rfl,by unfold I64;omega,s+1,by omega,by omega,by omega,rfl⟩
  ·have h:=aT h
   have hs:s<=(y.blk 2 false).dL:=hs;obtain rfl:s=(y.blk 2 false).dL:=by omega
   exact⟨hg,⟨y.a.L,y.lnk 2 false⟩,⟨o8,o19⟩,⟨rfl,rfl,rfl,rfl,rfl⟩,rfl,⟨y.a.L,y.lnk 2 false⟩,⟨o8,Nat.le_trans o19 (by decide)⟩,⟨rfl,rfl,rfl,rfl,rfl⟩,rfl,rfl,by omega,⟨rfl,rfl⟩,(congrArg (λd=>ownM (DevM.os d)) (hd 64)).symm,rfl,rfl,rfl,rfl,rfl,rfl,rfl,λq _=>MF (E:=y.eff 2 false) rfl q⟩
 ·refine⟨by decide,⟨by decide,by omega⟩,⟨y.a.d,y.ln,0,⟨(y.blk 2 false).enc,0,64,64*(y.blk 2 false).dL⟩⟩,⟨o1,o5,⟨by show 0+64<=64*(y.blk 2 false).dL;omega,by show 64<1099511627776;decide,yS o7⟩,aY _⟩,⟨rfl,rfl,rfl,rfl⟩,⟨rfl,rfl,λ_ _=>rfl⟩,⟨0,Nat.zero_le _,rfl,rfl⟩,λs hs=>bf (λh=> ?_) λh=> ?_⟩
  ·have h:=aS h
   exact⟨by unfold I64;omega,⟨⟨y.a.c.notes y.t y.ln s,y.a.ph⟩,y.t,y.ln+s⟩,⟨o3,yT o2 o17 _ _ (by omega),by show y.t<(y.a.c.notes y.t y.ln s).t;rw[rJ];exact o4⟩,⟨rfl,rfl⟩,rfl,by unfold I64;omega,s+1,by omega,by omega,by omega,rfl⟩
  ·have h:=aT h
   have hs:s<=(y.blk 2 false).dL:=hs;obtain rfl:s=(y.blk 2 false).dL:=by omega
   exact⟨hg,⟨y.a.L,y.lnk 2 false⟩,⟨o8,o19⟩,⟨rfl,rfl,rfl,rfl,rfl⟩,rfl,⟨y.a.L,y.lnk 2 false⟩,⟨o8,Nat.le_trans o19 (by decide)⟩,⟨rfl,rfl,rfl,rfl,rfl⟩,rfl,rfl,by omega,⟨rfl,rfl⟩,(congrArg (λd=>ownM (DevM.os d)) (hd (64*(y.blk 2 false).dL))).symm,rfl,rfl,rfl,rfl,rfl,rfl,rfl,λq _=>MF (E:=y.eff 2 false) rfl q⟩
theorem abf:dZ Tryz.prog asN:= .append dO (.cons Ld (.cons (bP apG) (.cons (bP QI) (.cons (bP aoi) (.cons (bP asw) (.cons (bP asx) (.cons (bP ajE) (.cons (bP anL) (.cons (bP V8) (.cons (bP ac3) (.cons (bP ahP) (.cons (bP auA) .nil))))))))))))
theorem aom:cO Tryz.prog 210 (aok 2 false).ctr:=dh dG mixed abf 11 (anCg 2 false) 200 6 (λ_=>⟨rfl,rfl,rfl,rfl⟩) λx hx=>Eq.mp (ad6 x) (SV x (aZ.1 hx))
theorem aon:cO Tryz.prog 210 (aok 2 true).ctr:=dh dG mixed abf 11 (anCg 2 true) 200 6 (λ_=>⟨rfl,rfl,rfl,rfl⟩) λx hx=>Eq.mp (ad7 x) (SS x (aZ.1 hx))
def arnS(d p r c b t o l i v:AV):dF:= .ro (.av [d,p,r,c,b,t,o,l,i,v,.any])
structure sN where
 b:iw
 l:ZLn
 L:Lks
 k:Int
namespace sN
def inT(x:sN):Prop:= ∃i,i<x.L.length/\(nthL x.L i).line=x.k
def inL(x:sN):Prop:= ∃i,i<x.l.n/\(x.l.get i).line=x.k
def inB(x:sN):Prop:= ∃i,i<x.b.n/\((x.b.e i).line=x.k\/(x.b.e i).anti=x.k)
def used(x:sN):Prop:=x.inT\/x.inL\/x.inB
noncomputable def os(x:sN):List dF:=[arnS .any .any .any .any (.ptr 1 0) (.ptr 2 0) .any (.ptr 3 0) .any .any,.abs (ownM x.b.os),.abs (tabA x.L),.abs (ownM x.l.os)]
def nth(x:sN)(i:Nat):ZLnk:=if i<x.L.length then nthL x.L i else x.l.get (i-x.L.length)
end sN
noncomputable def XK:Ctr:={X:=sN,args:=λx=>[.ptr 0 0,i64 x.k],k:=4,os:=sN.os,pre:=λx=>Hd (x.b.ok/\x.l.ok/\x.l.n<1099511627776/\x.L.length<=300),outs:=[
 {Y:=Unit,post:=λx _=>Hd x.used,ret:=λ_ _=>boo true,m:=4,os:=λx _=>x.os},
 {Y:=Unit,post:=λx _=>Hd (¬x.used),ret:=λ_ _=>boo false,m:=4,os:=λx _=>x.os}]}
def ajI(x:sN):FuncId->qL:=λf=>bif Nat.beq f 247 then(λb _ h=>bif Nat.beq b 2000 then [
 {σ:=Bool,fr:=λz=>[(19,.slV z h.next 5 (x.L.length+x.l.n)),(20,i64 (x.L.length+x.l.n:Nat)),(21,i64 0)],ob:=λz=>[(h.next,some (.iC z 41 (.row 5 (x.L.length+x.l.n) (λj=>(x.nth j).cs) [])))],nx:=1,inv:=λ_=>Hd True,meas:=λ_=>0}]else bif Nat.beq b 0 then [
 {σ:=Nat,fr:=λi=>[(21,i64 i)],ob:=λ_=>[],inv:=λi=>Hd (i<=x.L.length+x.l.n/\ ∀j,j<i->(x.nth j).line≠x.k),meas:=λi=>x.L.length+x.l.n-i}]else bif Nat.beq b 2 then [
 {σ:=Nat,fr:=λi=>[(36,i64 i)],ob:=λ_=>[],inv:=λi=>Hd (i<=x.b.n/\ ∀j,j<i->(x.b.e j).line≠x.k/\(x.b.e j).anti≠x.k),meas:=λi=>x.b.n-i}]else [])elseλ_ _ _=>[]
noncomputable def avh:je:=[(68,ctrT allT.C),(70,ctrT aaC.ctr),(278,ctrT ahO.ctr)]
def abg(a:Bool)(b:sN):Prop:=a=a/\List.length b.L+b.l.n=List.length b.L+b.l.n/\ ∀q:Nat,q<List.length b.L+b.l.n->[Value.string (ZLnk.key (b.nth q)),Value.int .u64 (ZLnk.id (b.nth q)),Value.int .u64 (ZLnk.ver (b.nth q)),Value.int .i64 (ZLnk.line (b.nth q)),Value.int .i64 (ZLnk.cls (b.nth q))]=[Value.string (ZLnk.key (b.nth q)),Value.int .u64 (ZLnk.id (b.nth q)),Value.int .u64 (ZLnk.ver (b.nth q)),Value.int .i64 (ZLnk.line (b.nth q)),Value.int .i64 (ZLnk.cls (b.nth q))]
def SX:Prop:=True/\True/\True/\True/\0=0/\0=0/\True/\0=0/\True/\True/\True/\True
def MG(a:iw):Prop:=ownM a.os=ownM a.os
def Ak(a:iw):Prop:=MG a/\SX/\True
def ajJ(a:Bool)(b:sN)(c:Lks)(d:ZLn):Prop:=True/\ ∃s:Bool,Hd True/\True/\((s=a/\List.length b.L+b.l.n=List.length c)/\((List.length b.L+b.l.n:Nat):Int)=((List.length c:Nat):Int)/\(0:Int)=0/\True)/\(s=a/\List.length b.L+b.l.n=List.length c/\ ∀q:Nat,q<List.length b.L+b.l.n->[Value.string (ZLnk.key (b.nth q)),Value.int .u64 (ZLnk.id (b.nth q)),Value.int .u64 (ZLnk.ver (b.nth q)),Value.int .i64 (ZLnk.line (b.nth q)),Value.int .i64 (ZLnk.cls (b.nth q))]=[Value.string (ZLnk.key (nthL c q)),Value.int .u64 (ZLnk.id (nthL c q)),Value.int .u64 (ZLnk.ver (nthL c q)),Value.int .i64 (ZLnk.line (nthL c q)),Value.int .i64 (ZLnk.cls (nthL c q))])/\ownM b.l.os=ownM d.os/\tabA b.L=tabA c/\Ak b.b
def MH(a:sN):Prop:=tabA a.L=tabA a.L/\ownM a.l.os=ownM a.l.os/\True
def FT(a:sN)(b:iw):Prop:=SX/\ownM a.b.os=ownM b.os/\MH a
def XL(a:iw)(b:Bool)(c:sN):Prop:=(a.n=a.n/\ ∀q:Nat,q<a.n->[Value.int .i64 (gG.line (a.e q)),Value.int .i64 (gG.cls (a.e q)),Value.int .u64 (gG.r (a.e q)),Value.int .u64 (gG.d (a.e q)),Value.int .i64 (gG.anti (a.e q))]=[Value.int .i64 (gG.line (a.e q)),Value.int .i64 (gG.cls (a.e q)),Value.int .u64 (gG.r (a.e q)),Value.int .u64 (gG.d (a.e q)),Value.int .i64 (gG.anti (a.e q))])/\abg b c/\ownM c.l.os=ownM c.l.os/\tabA c.L=tabA c.L/\Ak a
def Am(a:Nat)(b:sN):Prop:=Hd (a<=b.b.n/\ ∀j:Nat,j<a->gG.line (b.b.e j)≠b.k/\gG.anti (b.b.e j)≠b.k)
def MI(a:Nat)(b:sN):Prop:=Hd (a<=List.length b.L+b.l.n/\ ∀j:Nat,j<a->ZLnk.line (b.nth j)≠b.k)
def XM(a:sN)(b:iw):Prop:=(∃y_1:Unit,Hd a.used/\true=false/\FT a b)\/ ∃y_1:Unit,Hd (Not a.used)/\false=false/\FT a b
def XO(a:sN)(b:iw):Prop:=(∃y_1:Unit,Hd a.used/\true=true/\FT a b)\/ ∃y_1:Unit,Hd (Not a.used)/\false=true/\FT a b
def XP(a:Bool)(b:sN):Prop:=abg a b/\ownM b.l.os=ownM b.l.os/\tabA b.L=tabA b.L/\Ak b.b
def XT(x:sN):Prop:=
 (∃x_1:ZLq,True/\(0=0/\True)/\(tabA x_1.L=tabA x.L/\True)/\ ∀y:Bool,Hd (y=true->x_1.L= @List.nil ZLnk)->(AV.ptr 3 0=AV.ptr 3 0/\True)/\ ∃x_2:ZLn,Hd x_2.ok/\(0=0/\True)/\(ownM x_2.os=ownM x.l.os/\True)/\(∀y_1:Unit,Hd (x_2.n=0)->True/\y=y/\List.length x_1.L=List.length x_1.L/\ajJ y x x_1.L x_2)/\ ∀y_1:Unit,Hd (x_2.n≠0)->True/\y=y/\List.length x_1.L=List.length x_1.L/\0+x_2.n<=x_2.n/\cP (Nat.beq x_2.n 0) (ajJ y x x_1.L x_2) ((∀k:Nat,k<x_2.n->(Nat.beq (List.length [Value.string (ZLnk.key (x_2.get (0+k))),Value.int .u64 (ZLnk.id (x_2.get (0+k))),Value.int .u64 (ZLnk.ver (x_2.get (0+k))),Value.int .i64 (ZLnk.line (x_2.get (0+k))),Value.int .i64 (ZLnk.cls (x_2.get (0+k)))]) 5&&List.all [Value.string (ZLnk.key (x_2.get (0+k))),Value.int .u64 (ZLnk.id (x_2.get (0+k))),Value.int .u64 (ZLnk.ver (x_2.get (0+k))),Value.int .i64 (ZLnk.line (x_2.get (0+k))),Value.int .i64 (ZLnk.cls (x_2.get (0+k)))] Value.oneCell')=true)/\(2*(List.length x_1.L+x_2.n)+1000)*48<=281474976710656/\True/\ ∃s:Bool,Hd True/\True/\((s=false/\List.length x.L+x.l.n=List.length x_1.L+x_2.n)/\((List.length x.L+x.l.n:Nat):Int)=((List.length x_1.L+x_2.n:Nat):Int)/\(0:Int)=0/\True)/\(s=false/\List.length x.L+x.l.n=List.length x_1.L+x_2.n/\
 ∀q:Nat,q<List.length x.L+x.l.n->[Value.string (ZLnk.key (x.nth q)),Value.int .u64 (ZLnk.id (x.nth q)),Value.int .u64 (ZLnk.ver (x.nth q)),Value.int .i64 (ZLnk.line (x.nth q)),Value.int .i64 (ZLnk.cls (x.nth q))]=Cs.eff (λ(q_1:Nat)=>cond (Nat.blt q_1 (List.length x_1.L)) [Value.string (ZLnk.key (nthL x_1.L q_1)),Value.int .u64 (ZLnk.id (nthL x_1.L q_1)),Value.int .u64 (ZLnk.ver (nthL x_1.L q_1)),Value.int .i64 (ZLnk.line (nthL x_1.L q_1)),Value.int .i64 (ZLnk.cls (nthL x_1.L q_1))] [Value.string (ZLnk.key (x_2.get (0+(q_1-List.length x_1.L)))),Value.int .u64 (ZLnk.id (x_2.get (0+(q_1-List.length x_1.L)))),Value.int .u64 (ZLnk.ver (x_2.get (0+(q_1-List.length x_1.L)))),Value.int .i64 (ZLnk.line (x_2.get (0+(q_1-List.length x_1.L)))),Value.int .i64 (ZLnk.cls (x_2.get (0+(q_1-List.length x_1.L))))]) [] q)/\ownM x.l.os=ownM x_2.os/\tabA x.L=tabA x_1.L/\Ak x.b))/\(∀s:Bool,Hd True->(∃s_1:Nat,MI s_1 x/\True/\((s_1:Int)=0/\True)/\XP s x)/\(∀s_1:Nat,MI s_1 x->cP (decide ((s_1:Int)<((List.length x.L+x.l.n:Nat):Int))) ((0<=(s_1:Int)/\(s_1:Int)<((List.length x.L+x.l.n:Nat):Int))/\0+s_1<List.length x.L+x.l.n/\cP (BEq.beq (ZLnk.line (x.nth (0+s_1))) x.k) ((∃y:Unit,Hd x.used/\true=true/\SX/\MG x.b/\MH x)\/ ∃y:Unit,Hd (Not x.used)/\false=true/\SX/\MG x.b/\MH x) (I64 ((s_1:Int)+1)/\ ∃s_2:Nat,MI s_2 x/\List.length x.L+x.l.n-s_2<List.length x.L+x.l.n-s_1/\((s_2:Int)=(s_1:Int)+1/\True)/\XP s x)) (∃x_1:iw,Hd x_1.ok/\(0=0/\True)/\(ownM x_1.os=ownM x.b.os/\True)/\(∀y:Unit,Hd (x_1.n=0)->(∃s_2:Nat,Am s_2 x/\True/\((s_2:Int)=0/\True)/\
 abg s x/\ownM x.l.os=ownM x.l.os/\tabA x.L=tabA x.L/\Ak x_1)/\(∀s_2:Nat,Am s_2 x->XM x x_1)/\True)/\ ∀y:Unit,Hd True->(∃s_2:Nat,Am s_2 x/\True/\((s_2:Int)=0/\True)/\XL x_1 s x)/\(∀s_2:Nat,Am s_2 x->cP (decide ((s_2:Int)<(x_1.n:Int))) ((0<=(s_2:Int)/\(s_2:Int)<(x_1.n:Int))/\0+s_2<x_1.n/\cP (BEq.beq (gG.line (x_1.e (0+s_2))) x.k) (XO x x_1) (cP (BEq.beq (gG.anti (x_1.e (0+s_2))) x.k) (XO x x_1) (I64 ((s_2:Int)+1)/\ ∃s_3:Nat,Am s_3 x/\x.b.n-s_3<x.b.n-s_2/\((s_3:Int)=(s_2:Int)+1/\True)/\XL x_1 s x))) (XM x x_1))/\True))/\True)/\True
theorem ad8(x:sN):XT x=wpF Tryz.prog avh tt (ajI x) 200 6 247 (XK.args x) (hO XK.k (XK.os x)) (λv h'=>eX XK.k x v h' XK.outs):=by kernel_rfl
theorem SY(x:sN)(hx:x.b.ok/\x.l.ok/\x.l.n<1099511627776/\x.L.length<=300):XT x:=by
 obtain⟨hb,hl,hln,hL⟩:=hx;have hbn:=hb.1;have rows:x.l.n=0-> ∀q,q<x.L.length+x.l.n->(x.nth q).cs=(nthL x.L q).cs:=λh0 q hq=>by unfold sN.nth;rw[if_pos (by omega)]
 have no: ∀s,(∀j,j<s->(x.nth j).line≠x.k)->x.L.length+x.l.n<=s-> ¬x.inT/\ ¬x.inL:=λs hs hge=>by
  refine⟨λ⟨i,hi,he⟩=>hs i (by omega) ?_,λ⟨i,hi,he⟩=>hs (x.L.length+i) (by omega) ?_⟩
  ·unfold sN.nth;rw[if_pos hi];exact he
  ·unfold sN.nth;rw[if_neg (by omega),show x.L.length+i-x.L.length=i by omega];exact he
 have yes: ∀s,s<x.L.length+x.l.n->(x.nth s).line=x.k->x.used:=λs hs he=>by
  unfold sN.nth at he;by_cases h:s<x.L.length
  ·rw[if_pos h]at he;exact .inl ⟨s,h,he⟩
  ·rw[if_neg h]at he;exact .inr (.inl ⟨s-x.L.length,by omega,he⟩)
 unfold XT;simp only[ajJ,Ak,MI,XP,SX,MG,MH,Am,abg,XM,XL,XO,FT];simp only[aZ,aV,aU,aA,aI,bU,bG,aO,aK,ay,aX,aW,bV,bH,bJ,bK,bW,bC,bM,bn,eY,aH,aN,ah,ak,aB,aF,aC,aG];refine⟨⟨⟨x.L⟩,rfl,λy hy=>⟨x.l,hl,rfl,λh0=> ?_,λh0=>⟨aY _,bf (λhz=>absurd (au hz) h0) λ_=>⟨λk _=>rfl,by show(2*(x.L.length+x.l.n)+1000)*48<=281474976710656;omega,false,⟨⟨rfl,rfl⟩,rfl⟩,⟨rfl,rfl,λq hq=> ?_⟩,rfl,rfl⟩⟩⟩⟩,λz=>⟨⟨0,⟨Nat.zero_le _,λj hj=>absurd hj (Nat.not_lt_zero j)⟩,rfl⟩,λs hs=>bf (λh=> ?_) λh=> ?_⟩⟩
 ·exact⟨y,⟨⟨rfl,by show x.L.length+x.l.n=x.L.length;omega⟩,by show((x.L.length+x.l.n:Nat):Int)=(x.L.length:Nat);rw[h0,aI]⟩,⟨rfl,by show x.L.length+x.l.n=x.L.length;omega,λq hq=>rows h0 q hq⟩,rfl,rfl⟩
 ·show(x.nth q).cs=bif Nat.blt q x.L.length then(nthL x.L q).cs else(x.l.get (q-x.L.length)).cs
  unfold sN.nth;rw[bY];by_cases h:q<x.L.length
  ·rw[if_pos h,decide_eq_true h];rfl
  ·rw[if_neg h,decide_eq_false h];rfl
 ·have h':s<x.L.length+x.l.n:=by have:=aS h;omega
  refine⟨⟨by omega,by omega⟩,h',bf (λe=> .inl (yes s h' (beq_iff_eq.1 e))) λe=>⟨by unfold I64;omega,s+1,⟨by omega,λj hj=> ?_⟩,by omega,by omega⟩⟩;by_cases hjs:j=s
  ·subst hjs;exact beq_eq_false_iff_ne.1 e
  ·exact hs.2 j (by omega)
 ·have hge:x.L.length+x.l.n<=s:=by have:=aT h;omega
  obtain⟨n1,n2⟩:=no s hs.2 hge;refine⟨x.b,hb,rfl,λh0=>⟨⟨0,⟨Nat.zero_le _,λj hj=>absurd hj (Nat.not_lt_zero j)⟩,rfl⟩,λs1 hs1=> .inr ⟨λhu=> ?_,rfl⟩⟩,⟨0,⟨Nat.zero_le _,λj hj=>absurd hj (Nat.not_lt_zero j)⟩,rfl⟩,λs1 hs1=>bf (λh=> ?_) λh=> ?_⟩
  ·rcases hu with hu|hu|⟨i,hi,_⟩
   ·exact n1 hu
   ·exact n2 hu
   ·omega
  ·have h':s1<x.b.n:=by have:=aS h;omega
   refine⟨⟨by omega,by omega⟩,h',bf (λe=> .inl ⟨.inr (.inr ⟨s1,h',.inl (beq_iff_eq.1 e)⟩),rfl⟩) λe=>bf (λe2=> .inl ⟨.inr (.inr ⟨s1,h',.inr (beq_iff_eq.1 e2)⟩),rfl⟩) λe2=>⟨by unfold I64;omega,s1+1,⟨by omega,λj hj=> ?_⟩,by omega,by omega⟩⟩;by_cases hjs:j=s1
   ·subst hjs;exact⟨beq_eq_false_iff_ne.1 e,beq_eq_false_iff_ne.1 e2⟩
   ·exact hs1.2 j (by omega)
  ·have h': ¬s1<x.b.n:=by have:=aT h;omega
   refine .inr ⟨λhu=> ?_,rfl⟩;rcases hu with hu|hu|⟨i,hi,hh⟩
   ·exact n1 hu
   ·exact n2 hu
   ·exact hh.elim (hs1.2 i (by omega)).1 (hs1.2 i (by omega)).2
theorem aoo:dZ Tryz.prog avh:= .cons (bP asK) (.cons (bP ac4) (.cons (bP ahQ) .nil))
theorem abh:cO Tryz.prog 247 XK:=iP dG mixed aoo ajI 200 6 (λ_=>rfl) (λ_=>⟨λ_=>rfl,λ_=>rfl,trivial⟩) λx hx=>Eq.mp (ad8 x) (SY x (aZ.1 hx))
def pOf:AV->Nat
 | .ptr i _=>i
 |_=>0
def ad9(A:SE.Own)(ids:List Nat)(h:Heap):Heap:=(SE.fZ ids h).set (atL ids 0) (.abs A)
def isAbs:Option dF->Bool
 |some (.abs _)=>true
 |_=>false
def Jk(h:Heap)(i:Nat):List Nat:=match h.get i with
 |some (.cells _ (.av [d0,p,r,c,b,t,o,l,_,_,ef]))=>match h.get (pOf d0)with
  |some (.cells _ (.av (d::_)))=>match ef with
   | .slV _ j _ _=>[i,pOf d0,pOf d,pOf p,pOf r,pOf c,pOf b,pOf t,pOf o,pOf l,j]
   |_=>[]
  |_=>[]
 |_=>[]
def avi(a:ZSto)(ids:List Nat)(h:Heap):Prop:=DJ (atL ids) 11 h 0 a.os
noncomputable def ajK(T:WTr):WTr:=λargs h K=>match args with
 | .ptr i z::r=>bif isAbs (h.get i)then T (.ptr i z::r) h K else
  bif GN 0 (Jk h i) (Jk h i).length&&Nat.beq (Jk h i).length 11 then∃a:ZSto,avi a (Jk h i) h/\T (.ptr i z::r) (ad9 (ownM a.os) (Jk h i) h) K else False
 |_=>False
theorem S9{P:Program}{f:FuncId}{T:WTr}(hT: ∀args h K,T args h K->Sp P f args h K)(args:List AV)(h:Heap)(K:AV->Heap->Prop)(hq:ajK T args h K):Sp P f args h K:=by
 unfold ajK at hq;split at hq
 ·rename_i i z r
  cases ha:isAbs (h.get i)<;>rw[ha]at hq
  ·generalize Jk h i=ids at hq
   cases hb:(GN 0 ids ids.length&&Nat.beq ids.length 11)<;>rw[hb]at hq
   ·exact hq.elim
   ·simp only[aJ]at hb
    obtain⟨b1,b2⟩:=hb;obtain⟨a,hs,hq⟩:=hq;have hl:ids.length=11:=au b2;rw[hl]at b1;refine PZ (Φ:=λh=>h=hOf a.os) 11 ids a.os rfl rfl b1 rfl hs (hT _ _ _ ?_);have e:qU (λh=>h=hOf a.os) ids h=ad9 (ownM a.os) ids h:=by
     unfold qU ad9;rw[rC];rfl
    rw[e];exact hq
  ·exact hT _ _ _ hq
 ·exact hq.elim
structure ZPt where
 a:ZSto
 t:Nat
 e:Int
 x:ZCh
 ln:Nat
namespace ZPt
def cg(y:ZPt):ZCg:=⟨y.a,y.t,y.e,{y.x with line:=y.ln},y.ln,0⟩
def lst(y:ZPt)(k:Int)(had:Bool):dF:= .ro (.av [i64 k,.lit (.string y.x.key),.lit (.string y.x.value),boo had,.lit (.string y.x.old.key),u64 y.x.old.id,u64 y.x.old.ver,i64 y.x.old.line,i64 y.x.old.cls,i64 y.ln,i64 y.x.cls])
def was(y:ZPt)(had:Bool):Prop:=gY y.a.L y.x.key=(if had=true then some y.x.old else none)
def inP(y:ZPt)(i j:Nat):Prop:=i<y.a.p.n/\0<=y.a.p.cls i/\j<ZPool.many (y.a.p.cls i)/\y.a.p.tk i j=true/\(y.ln:Int)=2+i*8+j*spn (y.a.p.cls i)
def us(y:ZPt):sN:=⟨y.a.b,y.a.l,y.a.L,y.ln⟩
def ok(y:ZPt)(k:Int)(had:Bool):Prop:=y.cg.ok k had/\y.was had/\y.a.c.now=y.e/\y.a.p.ok/\y.a.b.ok/\y.a.l.ok/\y.a.l.n<1099511627776/\y.a.L.length<=300/\(∃i j,y.inP i j/\y.a.p.cls i=y.x.cls)/\(¬y.us.used)/\(k≠2->y.x.cls=0)
def bad(y:ZPt)(had:Bool):Prop:=y.a.c.ok/\y.a.ph<=4/\y.t<y.a.c.t/\y.x.key.size<1099511627776/\(y.a.c.now≠y.e\/ ¬y.was had)
end ZPt
noncomputable def aop(k:Int)(had:Bool):iW:=oJ ZPt (λy=>[.ptr 0 0,i64 y.t,u64 y.e,.sl 1 0 1 1]) 2 (λy=>[.m y.a.os,.o (y.lst k had)]) (λy=>Hd (y.ok k had)) (λ_=> .tup [.slW 2 0 1 1,i64 0]) 3 (λy=>[.o (.abs (ownM (y.cg.res k had).os)),.o (y.lst k had),.o (.room 4 (.row 1 1 (λ_=>[.bool had]) []))])
noncomputable def aoq(k:Int)(had:Bool):je:=nU++[(204,ctrT asL),(45,ctrT ajy),(245,ctrT atr.C),(246,ctrT ofP.ctr),(247,ctrT XK),(229,ctrT apC),(210,ajK (ctrT (aok k had).ctr))]
noncomputable def y5(k:Int)(had:Bool):Ctr:=det ZPt (λy=>[.ptr 0 0,i64 y.t,u64 y.e,.sl 3 0 1 1]) 4 (λy=>[arnS .any .any .any (.ptr 1 0) .any (.ptr 2 0) .any .any .any .any,.abs (ownM y.a.ck.os),.abs (tabA y.a.L),y.lst k had]) (λy=>Hd (y.bad had)) (λ_=> .tup [gQ,i64 8]) 4 (λy=>[arnS .any .any .any (.ptr 1 0) .any (.ptr 2 0) .any .any .any .any,.abs (ownM y.a.ck.os),.abs (tabA y.a.L),y.lst k had])
def avj:WTr:=λ_ _ _=>False
theorem aor{P:Program}{f:FuncId}(args:List AV)(h:Heap)(K:AV->Heap->Prop)(hq:avj args h K):Sp P f args h K:=hq.elim
noncomputable def asO:je:=nU++[(207,avj),(204,ctrT asL),(45,ctrT ajy),(245,ctrT atr.C)]
def Jl(a:ZPt):Prop:=a.x.old.key=a.x.old.key/\a.x.old.id=a.x.old.id/\a.x.old.ver=a.x.old.ver/\a.x.old.line=a.x.old.line/\a.x.old.cls=a.x.old.cls/\(a.ln:Int)=(a.ln:Int)/\a.x.cls=a.x.cls/\True
def FU(a:ZPt):Prop:=a.x.key=a.x.key/\a.x.value=a.x.value/\true=true/\Jl a
def MJ:Prop:=(0=0/\1=1)/\(0:Int)=0/\True
def kS(a:ZPt):Prop:=False/\((2:Int)=2/\FU a)/\False/\True
def jW(a:ByteArray):Prop:=AV.lit (Value.string a)=AV.lit (Value.string a)
def MK(a:ZBlk)(b:ZPt):Prop:=(a.cls=b.x.cls/\a.kind=1/\a.id=1/\a.ver=1/\a.epoch=b.e/\a.key=b.x.key/\a.value=b.x.value/\True)/\True
def ML(a:ZCg)(b:ZPt):Prop:=a.x.old.key=b.x.old.key/\a.x.old.id=b.x.old.id/\a.x.old.ver=b.x.old.ver/\a.x.old.line=b.x.old.line/\a.x.old.cls=b.x.old.cls/\(a.ln:Int)=(b.ln:Int)/\a.x.cls=b.x.cls/\True
def MN(a:ZSto)(b:ZSto)(c:ZCk)(d:sN):Prop:=(true=true/\false=false/\some (dF.abs (ownM a.r.os))=some (dF.abs (ownM b.r.os)))/\(true=true/\false=false/\some (dF.abs (ownM c.os))=some (dF.abs (ownM b.ck.os)))/\(true=true/\false=false/\some (dF.abs (ownM d.b.os))=some (dF.abs (ownM b.b.os)))/\(true=true/\false=false/\some (dF.abs (tabA d.L))=some (dF.abs (tabA b.L)))/\(true=true/\false=false/\some (dF.abs (ordA a.L))=some (dF.abs (ordA b.L)))/\(true=true/\false=false/\some (dF.abs (ownM d.l.os))=some (dF.abs (ownM b.l.os)))/\(true=true/\false=false/\some (dF.iC (Nat.beq a.n 0) (95: @TypeId) (Cs.row 7 a.n (λ(i:Nat)=>[Value.int .i64 (ZEff.kind (a.e i)),Value.string (ZEff.key (a.e i)),Value.string (ZEff.value (a.e i)),Value.int .u64 (ZEff.id (a.e i)),Value.int .u64 (ZEff.ver (a.e i)),Value.int .u64 (ZEff.epoch (a.e i)),Value.int .i64 (ZEff.group (a.e i))]) (@List.nil (Prod Nat (List Value)))))=some (dF.iC (Nat.beq b.n 0) (95: @TypeId) (Cs.row 7 b.n (λ(i:Nat)=>[Value.int .i64 (ZEff.kind (b.e i)),Value.string (ZEff.key (b.e i)),Value.string (ZEff.value (b.e i)),Value.int .u64 (ZEff.id (b.e i)),Value.int .u64 (ZEff.ver (b.e i)),Value.int .u64 (ZEff.epoch (b.e i)),Value.int .i64 (ZEff.group (b.e i))]) (@List.nil (Prod Nat (List Value))))))/\True
def MO:Prop:=true=true/\false=false/\some (dF.cells (145: @TypeId) (Cs.av [AV.ptr 3 0,AV.lit (Value.int .u32 1),AV.lit (Value.int .i32 0),AV.lit (Value.int .u32 0)]))=some (dF.cells (145: @TypeId) (Cs.av [AV.ptr 3 0,AV.lit (Value.int .u32 1),AV.lit (Value.int .i32 0),AV.lit (Value.int .u32 0)]))
def MP(a:sN)(b:ZSto)(c:Lks):Prop:=(True/\True/\True/\True/\0=0/\0=0/\True/\0=0/\True/\True/\True/\True)/\ownM a.b.os=ownM b.b.os/\tabA a.L=tabA c/\ownM a.l.os=ownM b.l.os/\True
def MQ(a:ZSto)(b:ZSto):Prop:=true=true/\false=false/\some (dF.cells (113: @TypeId) (Cs.av [AV.ptr 2 0,AV.ptr 4 0,AV.ptr 5 0,AV.ptr 6 0,AV.ptr 7 0,AV.ptr 8 0,AV.ptr 9 0,AV.ptr 10 0,AV.lit (Value.int .u64 a.id),AV.lit (Value.int .u64 a.ver),AV.slV (Nat.beq a.n 0) 11 7 a.n]))=some (dF.cells (113: @TypeId) (Cs.av [AV.ptr 2 0,AV.ptr 4 0,AV.ptr 5 0,AV.ptr 6 0,AV.ptr 7 0,AV.ptr 8 0,AV.ptr 9 0,AV.ptr 10 0,AV.lit (Value.int .u64 b.id),AV.lit (Value.int .u64 b.ver),AV.slV (Nat.beq b.n 0) 11 7 b.n]))
def MR(a:ZPool)(b:ZPool):Prop:=true=true/\false=false/\some (dF.abs (ownM a.os))=some (dF.abs (ownM b.os))
def sO:Prop:=False/\(0:Int)=1/\True
def MV(a:ZBlk):Prop:=Hd (a.key.size<1099511627776/\a.value.size<1099511627776)
def Ap:Prop:=False/\(0:Int)=10/\True
def MW(a:DevM)(b:DevM):Prop:=true=true/\false=false/\some (dF.abs (ownM a.os))=some (dF.abs (ownM b.os))
def qw:Prop:=False/\(0:Int)=8/\True
def iM:Prop:=(0:Int)<=0/\(0:Int)<=0
def ajL:Prop:=(1=1/\ ∀q:Nat,q<1->[Value.bool true]=Cs.eff (λ(x_7:Nat)=>[]) [(0,List.take 1 [Value.bool true])] q)/\True
def Aq:Prop:=False/\(0:Int)=3/\True
def MX(a:sN):Prop:=Hd (a.b.ok/\a.l.ok/\a.l.n<1099511627776/\List.length a.L<=300)
def ajM(a0:ZLnk)(b:ZPt)(c:Lks)(d:ZCk):Prop:=True/\True/\cP (Bool.not (BEq.beq (ByteArray.toList a0.key) (ByteArray.toList b.x.old.key)&&(BEq.beq a0.id b.x.old.id&&(BEq.beq a0.ver b.x.old.ver&&(BEq.beq a0.line b.x.old.line&&(BEq.beq a0.cls b.x.old.cls&&true)))))) (∃y_4:Unit,True/\qw/\kS b) (I64 (1:Int)/\iM/\ ∃x_3:fP,Hd x_3.ok/\(0=0/\x_3.line=(b.ln:Int)/\True)/\(ownM x_3.p.os=ownM b.a.p.os/\True)/\ ∀y_4:Unit,True->True/\cP (bne (x_3.p.cls x_3.i) b.x.cls) (∃y_5:Unit,True/\sO/\kS b) (∃x_4:sN,MX x_4/\(0=0/\x_4.k=(b.ln:Int)/\True)/\MP x_4 b.a c/\(∀y_5:Unit,Hd x_4.used-> ∃y_6:Unit,True/\sO/\kS b)/\ ∀y_5:Unit,Hd (Not x_4.used)->I64 (1:Int)/\True/\True/\iM/\(jW b.x.value/\jW b.x.key/\True)/\(jW b.x.value/\True)/\True/\ ∃x_5:ZBlk,MV x_5/\MK x_5 b/\True/\ ∀y_6:Unit,True->cP (Bool.not x_5.OJ) (∃y_7:Unit,True/\Aq/\kS b) (cP (bne b.x.cls b.x.cls) (∃y_7:Unit,True/\Aq/\kS b) (cP (decide (IntKind.wrap .u64 (b.a.ver+1)>(2305843009213693952:Int))) (I64 (1:Int)/\ ∃y_7:Unit,True/\Ap/\kS b) (I64 (1:Int)/\cP (decide (b.a.id>(2305843009213693952:Int))) (∃y_7:Unit,True/\Ap/\kS b) (iM/\1002<=281474976710656/\ ∃a:ZSto,(MQ b.a a/\MO/\MW b.a.d a.d/\MR x_3.p a.p/\MN b.a a d x_4)/\ ∃x_6:ZCg,Hd (x_6.ok (2:Int) true)/\(0=0/\(x_6.t:Int)=(b.t:Int)/\x_6.e=b.e/\((2:Int)=2/\x_6.x.key=b.x.key/\x_6.x.value=b.x.value/\true=true/\ML x_6 b)/\x_6.g=0/\True)/\(ownM x_6.a.os=ownM a.os/\True)/\ ∀y_7:Unit,True->I64 (1:Int)/\ ∃y_8:Unit,True/\MJ/\
 ownM (ZSto.os (b.cg.res (2:Int) true))=ownM (ZSto.os (x_6.res (2:Int) true))/\((2:Int)=2/\FU b)/\ajL))))))
def wH(a:ZPt):Prop:=(2:Int)=2/\a.x.key=a.x.key/\a.x.value=a.x.value/\false=false/\Jl a
def ni(a:ZPt):Prop:=False/\wH a/\False/\True
def ajN(a0:ZPt)(b:Lks)(c:ZCk):Prop:=True/\True/\I64 (1:Int)/\iM/\ ∃x_3:fP,Hd x_3.ok/\(0=0/\x_3.line=(a0.ln:Int)/\True)/\(ownM x_3.p.os=ownM a0.a.p.os/\True)/\ ∀y_4:Unit,True->True/\cP (bne (x_3.p.cls x_3.i) a0.x.cls) (∃y_5:Unit,True/\sO/\ni a0) (∃x_4:sN,MX x_4/\(0=0/\x_4.k=(a0.ln:Int)/\True)/\MP x_4 a0.a b/\(∀y_5:Unit,Hd x_4.used-> ∃y_6:Unit,True/\sO/\ni a0)/\ ∀y_5:Unit,Hd (Not x_4.used)->I64 (1:Int)/\True/\True/\iM/\(jW a0.x.value/\jW a0.x.key/\True)/\(jW a0.x.value/\True)/\True/\ ∃x_5:ZBlk,MV x_5/\MK x_5 a0/\True/\ ∀y_6:Unit,True->cP (Bool.not x_5.OJ) (∃y_7:Unit,True/\Aq/\ni a0) (cP (bne a0.x.cls a0.x.cls) (∃y_7:Unit,True/\Aq/\ni a0) (cP (decide (IntKind.wrap .u64 (a0.a.ver+1)>(2305843009213693952:Int))) (I64 (1:Int)/\ ∃y_7:Unit,True/\Ap/\ni a0) (I64 (1:Int)/\cP (decide (IntKind.wrap .u64 (a0.a.id+1)>(2305843009213693952:Int))) (∃y_7:Unit,True/\Ap/\ni a0) (iM/\1002<=281474976710656/\ ∃a:ZSto,(MQ a0.a a/\MO/\MW a0.a.d a.d/\MR x_3.p a.p/\MN a0.a a c x_4)/\ ∃x_6:ZCg,Hd (x_6.ok (2:Int) false)/\(0=0/\(x_6.t:Int)=(a0.t:Int)/\x_6.e=a0.e/\((2:Int)=2/\x_6.x.key=a0.x.key/\x_6.x.value=a0.x.value/\false=false/\ML x_6 a0)/\x_6.g=0/\True)/\(ownM x_6.a.os=ownM a.os/\True)/\ ∀y_7:Unit,True->I64 (1:Int)/\ ∃y_8:Unit,True/\MJ/\ownM (ZSto.os (a0.cg.res (2:Int) false))=ownM (ZSto.os (x_6.res (2:Int) false))/\wH a0/\(1=1/\ ∀q:Nat,q<1->[Value.bool false]=Cs.eff (λ(x_7:Nat)=>[]) [(0,List.take 1 [Value.bool false])] q)/\True)))))
def sQ:Prop:=True/\True/\True/\0=0/\True/\0=0/\True/\True/\True/\True/\True/\True
def FV:Prop:=Value.slice none 0 0=Value.slice none 0 0
def Ar:Prop:=FV/\(8:Int)=8/\True
def sS(a:ZSto)(b:ZCk):Prop:=ownM a.ck.os=ownM b.os
def MZ(a:ZPt)(b:ZCk)(c:Lks):Prop:= ∃y_4:Unit,True/\Ar/\sQ/\sS a.a b/\tabA a.a.L=tabA c/\((2:Int)=2/\FU a)/\True
def XU(a:ZLnk)(b:ZPt)(c:ZCk)(d:Lks):Prop:=True/\True/\cP (Bool.not (BEq.beq (ByteArray.toList a.key) (ByteArray.toList b.x.old.key)&&(BEq.beq a.id b.x.old.id&&(BEq.beq a.ver b.x.old.ver&&(BEq.beq a.line b.x.old.line&&(BEq.beq a.cls b.x.old.cls&&true)))))) (MZ b c d) (I64 (1:Int)/\False)
def kT(a:ZTq):Prop:=Hd (gY a.L a.s= @Option.none ZLnk)
def kU(a:ByteArray):Prop:=Hd (a.size<1099511627776)
def kV(a:ZCk):Prop:=Hd (a.ph<=4/\a.c.ok)
def kW(a:ZTq)(b:ZLnk):Prop:=Hd (gY a.L a.s=some b)
def kX(a:Lks)(b:Lks):Prop:=tabA a=tabA b/\True
def kY(a:ByteArray)(b:ByteArray):Prop:=0=0/\a=b/\True
def sU(a:ZCk)(b:ZSto):Prop:=ownM a.os=ownM b.ck.os/\True
def XV(a:ZPt)(b:ZCk)(c:Lks):Prop:=True/\True/\ ∃y_4:Unit,True/\Ar/\sQ/\sS a.a b/\tabA a.a.L=tabA c/\wH a/\True
def sV(a:ZCk)(b:ZCk):Prop:=ownM a.os=ownM b.os/\True
def XW(y:ZPt):Prop:=
 ∃x:ZCk,kV x/\(0=0/\True)/\sU x y.a/\ ∀y_1:Unit,True->cP (decide ((y.t:Int)>=(x.c.t:Int))) (∃y_2:Unit,True/\sO/\ni y) (iM/\I64 (1:Int)/\ ∃x_1:ZCk,kV x_1/\(0=0/\True)/\sV x_1 x/\ ∀y_2:Unit,True->cP (bne x_1.c.now y.e) (∃y_3:Unit,True/\qw/\ni y) (iM/\(∃x_2:ZTq,kU x_2.s/\kY x_2.s y.x.key/\kX x_2.L y.a.L/\(∀y_3:Unit,kT x_2->True/\ajN y x_2.L x_1)/\ ∀y_3:ZLnk,kW x_2 y_3->True/\True/\True/\ ∃y_4:Unit,True/\qw/\ni y)/\(jW y.x.key/\AV.ptr 8 0=AV.ptr 8 0/\True)/\ ∃x_2:ZTq,kU x_2.s/\kY x_2.s y.x.key/\kX x_2.L y.a.L/\(∀y_3:Unit,kT x_2->ajN y x_2.L x_1)/\ ∀y_3:ZLnk,kW x_2 y_3->True/\True/\ ∃y_4:Unit,True/\qw/\ni y))
theorem aea(y:ZPt):XW y=wpF Tryz.prog (aoq 2 false) tt (noA y) 200 6 162 ((aop 2 false).args y) (hO 12 (flatP 2 ((aop 2 false).l y))) (λv h'=>endsPK 2 y v h' (aop 2 false).outs):=by kernel_rfl
def XY(y:ZPt):Prop:=
 ∃x:ZCk,kV x/\(0=0/\True)/\sU x y.a/\ ∀y_1:Unit,True->cP (decide ((y.t:Int)>=(x.c.t:Int))) (∃y_2:Unit,True/\sO/\kS y) (iM/\I64 (1:Int)/\ ∃x_1:ZCk,kV x_1/\(0=0/\True)/\sV x_1 x/\ ∀y_2:Unit,True->cP (bne x_1.c.now y.e) (∃y_3:Unit,True/\qw/\kS y) (iM/\(∃x_2:ZTq,kU x_2.s/\kY x_2.s y.x.key/\kX x_2.L y.a.L/\(∀y_3:Unit,kT x_2->True/\True/\True/\ ∃y_4:Unit,True/\qw/\kS y)/\ ∀y_3:ZLnk,kW x_2 y_3->True/\ajM y_3 y x_2.L x_1)/\(jW y.x.key/\AV.ptr 8 0=AV.ptr 8 0/\True)/\ ∃x_2:ZTq,kU x_2.s/\kY x_2.s y.x.key/\kX x_2.L y.a.L/\(∀y_3:Unit,kT x_2->True/\True/\ ∃y_4:Unit,True/\qw/\kS y)/\ ∀y_3:ZLnk,kW x_2 y_3->ajM y_3 y x_2.L x_1))
theorem aeb(y:ZPt):XY y=wpF Tryz.prog (aoq 2 true) tt (noA y) 200 6 162 ((aop 2 true).args y) (hO 12 (flatP 2 ((aop 2 true).l y))) (λv h'=>endsPK 2 y v h' (aop 2 true).outs):=by kernel_rfl
def XZ(y:ZPt):Prop:=
 ∃x:ZCk,kV x/\(0=0/\True)/\sU x y.a/\ ∀y_1:Unit,True->cP (decide ((y.t:Int)>=(x.c.t:Int))) (∃y_2:Unit,True/\(FV/\(8:Int)=1/\True)/\sQ/\sS y.a x/\tabA y.a.L=tabA y.a.L/\wH y/\True) (iM/\I64 (1:Int)/\ ∃x_1:ZCk,kV x_1/\(0=0/\True)/\sV x_1 x/\ ∀y_2:Unit,True->cP (bne x_1.c.now y.e) (∃y_3:Unit,True/\Ar/\sQ/\sS y.a x_1/\tabA y.a.L=tabA y.a.L/\wH y/\True) (iM/\(∃x_2:ZTq,kU x_2.s/\kY x_2.s y.x.key/\kX x_2.L y.a.L/\(∀y_3:Unit,kT x_2->True/\True/\True/\I64 (1:Int)/\False)/\ ∀y_3:ZLnk,kW x_2 y_3->True/\XV y x_1 x_2.L)/\(jW y.x.key/\AV.ptr 2 0=AV.ptr 2 0/\True)/\ ∃x_2:ZTq,kU x_2.s/\kY x_2.s y.x.key/\kX x_2.L y.a.L/\(∀y_3:Unit,kT x_2->True/\True/\I64 (1:Int)/\False)/\ ∀y_3:ZLnk,kW x_2 y_3->XV y x_1 x_2.L))
theorem aec(y:ZPt):XZ y=wpF Tryz.prog asO tt (noA y) 200 6 162 ((y5 2 false).args y) (hO 4 ((y5 2 false).os y)) (λv h'=>eX 4 y v h' (y5 2 false).outs):=by kernel_rfl
def X0(y:ZPt):Prop:=
 ∃x:ZCk,kV x/\(0=0/\True)/\sU x y.a/\ ∀y_1:Unit,True->cP (decide ((y.t:Int)>=(x.c.t:Int))) (∃y_2:Unit,True/\(FV/\(8:Int)=1/\True)/\sQ/\sS y.a x/\tabA y.a.L=tabA y.a.L/\((2:Int)=2/\FU y)/\True) (iM/\I64 (1:Int)/\ ∃x_1:ZCk,kV x_1/\(0=0/\True)/\sV x_1 x/\ ∀y_2:Unit,True->cP (bne x_1.c.now y.e) (∃y_3:Unit,True/\Ar/\sQ/\sS y.a x_1/\tabA y.a.L=tabA y.a.L/\((2:Int)=2/\FU y)/\True) (iM/\(∃x_2:ZTq,kU x_2.s/\kY x_2.s y.x.key/\kX x_2.L y.a.L/\(∀y_3:Unit,kT x_2->True/\True/\True/\MZ y x_1 x_2.L)/\ ∀y_3:ZLnk,kW x_2 y_3->True/\XU y_3 y x_1 x_2.L)/\(jW y.x.key/\AV.ptr 2 0=AV.ptr 2 0/\True)/\ ∃x_2:ZTq,kU x_2.s/\kY x_2.s y.x.key/\kX x_2.L y.a.L/\(∀y_3:Unit,kT x_2->True/\True/\MZ y x_1 x_2.L)/\ ∀y_3:ZLnk,kW x_2 y_3->XU y_3 y x_1 x_2.L))
theorem aed(y:ZPt):X0 y=wpF Tryz.prog asO tt (noA y) 200 6 162 ((y5 2 true).args y) (hO 4 ((y5 2 true).os y)) (λv h'=>eX 4 y v h' (y5 2 true).outs):=by kernel_rfl
theorem Tc(y:ZPt)(hy:y.bad false):XZ y:=by
 obtain⟨b1,b2,b3,b4,b5⟩:=hy;unfold XZ;simp only[kV,sU,FV,sQ,sS,wH,iM,sV,Ar,kU,kY,kX,kT,kW,XV,jW,Jl];simp only[aZ,aV,aU,aA,aI,bU,bG,aO,aK,ay,aX,aW,bV,bH,bJ,bK,bW,bC,bM,bn,eY,aH,aN,ah,ak,aB,aF,aC,aG];refine⟨y.a.ck,⟨b2,b1⟩,rfl,bf (λh=>absurd (aS h) (by show¬((y.t:Int)>=(y.a.c.t:Nat));omega)) λ_=>⟨by decide,by unfold I64;omega,y.a.ck,⟨b2,b1⟩,rfl,bf (λ_=>rfl) λh=>⟨by decide,⟨y.a.L,y.x.key⟩,b4,rfl,rfl,λhn=> ?_,λl hl=>⟨rfl,rfl⟩⟩⟩⟩;have h:y.a.c.now=y.e:=by have h:(y.a.c.now !=y.e)=false:=h;simpa using h
 exact(b5.elim (λe=>e h) λe=>e hn).elim
theorem asP{l k:ZLnk}(h:(!(l.key.toList==k.key.toList&&(l.id==k.id&&(l.ver==k.ver&&(l.line==k.line&&(l.cls==k.cls&&true))))))=false):l=k:=by
 simp only[Bool.not_eq_false',aJ,beq_iff_eq,aV]at h;obtain⟨h1,h2,h3,h4,h5⟩:=h;rw[iH,iH]at h1;exact ZLnk.ext5 (ByteArray.ext (Array.toList_inj.1 h1)) h2 h3 h4 h5
theorem Td(y:ZPt)(hy:y.bad true):X0 y:=by
 obtain⟨b1,b2,b3,b4,b5⟩:=hy;unfold X0;simp only[kV,sU,FV,sQ,sS,FU,iM,sV,Ar,kU,kY,kX,kT,MZ,kW,XU,jW,Jl];simp only[aZ,aV,aU,aA,aI,bU,bG,aO,aK,ay,aX,aW,bV,bH,bJ,bK,bW,bC,bM,bn,eY,aH,aN,ah,ak,aB,aF,aC,aG];refine⟨y.a.ck,⟨b2,b1⟩,rfl,bf (λh=>absurd (aS h) (by show¬((y.t:Int)>=(y.a.c.t:Nat));omega)) λ_=>⟨by decide,by unfold I64;omega,y.a.ck,⟨b2,b1⟩,rfl,bf (λ_=>rfl) λh=>⟨by decide,⟨y.a.L,y.x.key⟩,b4,rfl,rfl,λhn=>⟨rfl,rfl⟩,λl hl=>bf (λ_=>⟨rfl,rfl⟩) λhc=> ?_⟩⟩⟩;have h:y.a.c.now=y.e:=by have h:(y.a.c.now !=y.e)=false:=h;simpa using h
 have e:=asP hc;exact(b5.elim (λe=>e h) λe2=>e2 (hl.trans (congrArg some e))).elim
theorem Tf(y:ZPt)(hy:y.ok 2 false):XW y:=by
 obtain⟨hg,c1,c2,c3,c4,c5,c6,c7,⟨i,j,⟨p1,p2,p3,p4,p5⟩,p6⟩,c8,c9⟩:=hy;obtain⟨o1,o2,o3,o4,o5,o6,o7,o8,o9,o10,o11,o12,o13,o14,o15,o16,o17,o18,o19,o20⟩:=id hg;have q10:0<=y.a.ver:=o10;have q11:y.a.ver<1152921504606846976:=o11;have q12:0<=y.a.id:=o12;have q13:y.a.id<1152921504606846976:=o13;have q4:y.t<y.a.c.t:=o4;have w1:IntKind.u64.wrap (y.a.ver+1)=y.a.ver+1:=jf (by omega) (by omega);have w2:IntKind.u64.wrap (y.a.id+1)=y.a.id+1:=jf (by omega) (by omega);have hq:ZBlk.may ⟨y.x.cls,1,1,1,y.e,y.x.key,y.x.value⟩:=by
  obtain⟨m0,m⟩:=o7;refine⟨m0,?_⟩;rcases m with ⟨m,_⟩|⟨_,m1,m2,m3,m4,_,_,m5⟩|⟨m,_⟩|⟨m,_⟩
  ·exact absurd (show(1:Int)=0 from m) (by decide)
  ·exact .inr (.inl ⟨rfl,m1,m2,m3,m4,⟨show(1:Int)<=1 by decide,show(1:Int)<=2305843009213693952 by decide⟩,⟨show(1:Int)<=1 by decide,show(1:Int)<=2305843009213693952 by decide⟩,m5⟩)
  ·exact absurd (show(1:Int)=2 from m) (by decide)
  ·exact absurd (show(1:Int)=3 from m) (by decide)
 have core: ∀R:Prop,R->cP (!(⟨y.x.cls,1,1,1,y.e,y.x.key,y.x.value⟩:ZBlk).OJ) ((False/\(0:Int)=3)/\False) R:=λR h=>by rw[yO.2 hq,Bool.not_true,iE];exact h
 unfold XW;simp only[kV,sU,sO,ni,iM,sV,qw,kU,kY,kX,kT,ajN,kW,jW,MX,MP,MV,MK,Aq,Ap,MQ,MO,MW,MR,MN,ML,MJ,wH,Jl];simp only[aZ,aV,aU,aA,aI,bU,bG,aO,aK,ay,aX,aW,bV,bH,bJ,bK,bW,bC,bM,bn,eY,aH,aN,ah,ak,aB,aF,aC,aG,w1,w2];refine⟨y.a.ck,⟨o3,o2⟩,rfl,bf (λh=>absurd (aS h) (by show¬((y.t:Int)>=(y.a.c.t:Nat));omega)) λ_=>⟨by decide,by unfold I64;omega,y.a.ck,⟨o3,o2⟩,rfl,bf (λh=>absurd c2 (bne_iff_ne.1 h)) λ_=>⟨by decide,⟨y.a.L,y.x.key⟩,o8,rfl,rfl,λ_=>⟨by unfold I64;omega,by decide,⟨y.a.p,i,j⟩,⟨c3,p1,p2,p3,p4⟩,p5.symm,rfl,bf (λh=>absurd p6 (bne_iff_ne.1 h)) λ_=>⟨y.us,⟨c4,c5,c6,c7⟩,rfl,⟨rfl,rfl,rfl⟩,λhu=>absurd hu c8,λ_=>⟨by unfold I64;omega,by decide,⟨y.x.cls,1,1,1,y.e,y.x.key,y.x.value⟩,⟨o8,o9⟩,⟨rfl,rfl,rfl,rfl,rfl,rfl,rfl⟩,core _ ?_⟩⟩⟩,λl hl=>absurd (c1.symm.trans hl) (by simp)⟩⟩⟩;rw[bne_self_eq_false,iE];refine bf (λh=>absurd (aS h) (by omega)) λ_=>⟨by unfold I64;omega,bf (λh=>absurd (aS h) (by omega)) λ_=>⟨by decide,by decide,y.a,?_,y.cg,hg,?_⟩⟩
 ·repeat' (first|exact rfl|refine And.intro ?_ ?_)
 ·repeat' (first|exact rfl|(intro q hq;have h0:q=0:=(by omega);subst h0;rfl)|(show I64 _;unfold I64;omega)|refine And.intro ?_ ?_)
theorem Ti(y:ZPt)(hy:y.ok 2 true):XY y:=by
 obtain⟨hg,c1,c2,c3,c4,c5,c6,c7,⟨i,j,⟨p1,p2,p3,p4,p5⟩,p6⟩,c8,c9⟩:=hy;obtain⟨o1,o2,o3,o4,o5,o6,o7,o8,o9,o10,o11,o12,o13,o14,o15,o16,o17,o18,o19,o20⟩:=id hg;have q10:0<=y.a.ver:=o10;have q11:y.a.ver<1152921504606846976:=o11;have q12:0<=y.a.id:=o12;have q13:y.a.id<1152921504606846976:=o13;have q4:y.t<y.a.c.t:=o4;have w1:IntKind.u64.wrap (y.a.ver+1)=y.a.ver+1:=jf (by omega) (by omega);have w2:IntKind.u64.wrap (y.a.id+1)=y.a.id+1:=jf (by omega) (by omega);have hq:ZBlk.may ⟨y.x.cls,1,1,1,y.e,y.x.key,y.x.value⟩:=by
  obtain⟨m0,m⟩:=o7;refine⟨m0,?_⟩;rcases m with ⟨m,_⟩|⟨_,m1,m2,m3,m4,_,_,m5⟩|⟨m,_⟩|⟨m,_⟩
  ·exact absurd (show(1:Int)=0 from m) (by decide)
  ·exact .inr (.inl ⟨rfl,m1,m2,m3,m4,⟨show(1:Int)<=1 by decide,show(1:Int)<=2305843009213693952 by decide⟩,⟨show(1:Int)<=1 by decide,show(1:Int)<=2305843009213693952 by decide⟩,m5⟩)
  ·exact absurd (show(1:Int)=2 from m) (by decide)
  ·exact absurd (show(1:Int)=3 from m) (by decide)
 have core: ∀R:Prop,R->cP (!(⟨y.x.cls,1,1,1,y.e,y.x.key,y.x.value⟩:ZBlk).OJ) ((False/\(0:Int)=3)/\False) R:=λR h=>by rw[yO.2 hq,Bool.not_true,iE];exact h
 unfold XY;simp only[kV,sU,sO,kS,iM,sV,qw,kU,kY,kX,kT,kW,ajM,jW,MX,MP,MV,MK,Aq,Ap,MQ,MO,MW,MR,MN,ML,MJ,FU,ajL,Jl];simp only[aZ,aV,aU,aA,aI,bU,bG,aO,aK,ay,aX,aW,bV,bH,bJ,bK,bW,bC,bM,bn,eY,aH,aN,ah,ak,aB,aF,aC,aG,w1,w2];refine⟨y.a.ck,⟨o3,o2⟩,rfl,bf (λh=>absurd (aS h) (by show¬((y.t:Int)>=(y.a.c.t:Nat));omega)) λ_=>⟨by decide,by unfold I64;omega,y.a.ck,⟨o3,o2⟩,rfl,bf (λh=>absurd c2 (bne_iff_ne.1 h)) λ_=>⟨by decide,⟨y.a.L,y.x.key⟩,o8,rfl,rfl,λhn=>absurd (c1.symm.trans hn) (by simp),λl hl=>bf (λhc=> ?_) λ_=>⟨by unfold I64;omega,by decide,⟨y.a.p,i,j⟩,⟨c3,p1,p2,p3,p4⟩,p5.symm,rfl,bf (λh=>absurd p6 (bne_iff_ne.1 h)) λ_=>⟨y.us,⟨c4,c5,c6,c7⟩,rfl,⟨rfl,rfl,rfl⟩,λhu=>absurd hu c8,λ_=>⟨by unfold I64;omega,by decide,⟨y.x.cls,1,1,1,y.e,y.x.key,y.x.value⟩,⟨o8,o9⟩,⟨rfl,rfl,rfl,rfl,rfl,rfl,rfl⟩,core _ ?_⟩⟩⟩⟩⟩⟩
 ·have e:l=y.x.old:=by have:=c1.symm.trans hl;simpa using this.symm
  subst e;simp at hc
 ·rw[bne_self_eq_false,iE]
  refine bf (λh=>absurd (aS h) (by omega)) λ_=>⟨by unfold I64;omega,bf (λh=>absurd (aS h) (by omega)) λ_=>⟨by decide,by decide,y.a,?_,y.cg,hg,?_⟩⟩
  ·repeat' (first|exact rfl|refine And.intro ?_ ?_)
  ·repeat' (first|exact rfl|(intro q hq;have h0:q=0:=(by omega);subst h0;rfl)|(show I64 _;unfold I64;omega)|refine And.intro ?_ ?_)
theorem aee:dZ Tryz.prog (aoq 2 false):= .append dO (.cons (bP LU) (.cons (bP uY) (.cons (bP WX) (.cons (bP auv) (.cons (bP abh) (.cons (bP ah0) (.cons (S9 (bP aom)) .nil)))))))
theorem aos:cO Tryz.prog 162 (aop 2 false).ctr:=dh dG mixed aee 12 noA 200 6 (λ_=>⟨rfl,rfl,rfl,rfl⟩) λx hx=>Eq.mp (aea x) (Tf x (aZ.1 hx))
theorem aef:dZ Tryz.prog (aoq 2 true):= .append dO (.cons (bP LU) (.cons (bP uY) (.cons (bP WX) (.cons (bP auv) (.cons (bP abh) (.cons (bP ah0) (.cons (S9 (bP aon)) .nil)))))))
theorem aot:cO Tryz.prog 162 (aop 2 true).ctr:=dh dG mixed aef 12 noA 200 6 (λ_=>⟨rfl,rfl,rfl,rfl⟩) λx hx=>Eq.mp (aeb x) (Ti x (aZ.1 hx))
theorem abj:dZ Tryz.prog asO:= .append dO (.cons aor (.cons (bP LU) (.cons (bP uY) (.cons (bP WX) .nil))))
theorem aou:cO Tryz.prog 162 (y5 2 false):=dM dG mixed abj noA 200 6 (λ_=>rfl) (λ_=>rfl) λx hx=>Eq.mp (aec x) (Tc x (aZ.1 hx))
theorem aov:cO Tryz.prog 162 (y5 2 true):=dM dG mixed abj noA 200 6 (λ_=>rfl) (λ_=>rfl) λx hx=>Eq.mp (aed x) (Td x (aZ.1 hx))
structure ZFp where
 key:ByteArray
 value:ByteArray
 to:ByteArray
 epoch:Int
 pos:ByteArray
 past:Bool
 had:Bool
 old:ZLnk
 line:Int
 cls:Int
 piece:Int
 code:Int
 found:Bool
 ans:ByteArray
 aep:Int
namespace ZFp
def l(f:ZFp)(k ph:Int)(b:AV):List AV:=[i64 k,.lit (.string f.key),.lit (.string f.value),.lit (.string f.to),gQ,i64 ph,u64 f.epoch,.lit (.string f.pos),boo f.past,i64 0,boo f.had,.lit (.string f.old.key),u64 f.old.id,u64 f.old.ver,i64 f.old.line,i64 f.old.cls,i64 f.line,i64 f.cls,i64 f.piece,b,i64 0,gQ,i64 f.code,boo f.found,.lit (.string f.ans),gQ,gQ,u64 f.aep]
def av(f:ZFp)(k ph:Int)(b:AV):AV:= .agg (f.l k ph b)
end ZFp
def goodP(k:Int)(key v:ByteArray):Int:=if key.size=0 then 1 else if 16<key.size\/k=2/\400<v.size then 5 else 0
structure ZPs where
 a:ZSto
 f:ZFp
 t:Nat
namespace ZSto
def vI(a:ZSto)(t:Nat)(v:Int):ZSto:={a with r:=a.r.put t v}
def X3(a:ZSto)(p:ZPool):ZSto:={a with p:=p}
def Gx(a:ZSto)(d:DevM):ZSto:={a with d:=d}
end ZSto
namespace ZPs
noncomputable def nxt(x:ZPs):Option ZLnk:=nextL x.a.L (bkt x.f.key) x.f.pos x.f.past
def goes(x:ZPs)(y:ZLnk):Prop:=x.nxt=some y/\kl y.key x.f.key=true
def hit(x:ZPs)(y:ZLnk):Prop:=x.nxt=some y/\y.key=x.f.key
def miss(x:ZPs):Prop:= ∀y,x.nxt=some y->kl y.key x.f.key=false/\y.key≠x.f.key
def nd(x:ZPs)(k:Int):Int:=if k=2 then ned ((x.f.key.size+x.f.value.size:Nat):Int)else 0
end ZPs
def nx3(f:ZFp)(k:Int)(h:Bool):Int:=if k=1 then(if h=true then 2 else 6)else if k=3/\h=false then 6 else if f.line<0 then 3 else 5
noncomputable def qx(k:Int):iW:={X:=ZPs,args:=λx=>[.ptr 0 0,i64 x.t,x.f.av k 0 gQ],k:=1,l:=λx=>[.m x.a.os],pre:=λx=>Hd (x.a.r.ok/\x.a.c.ok/\x.a.ph<=4/\x.t<x.a.r.t/\x.a.r.has x.t=0),outs:=[
 {Y:=Unit,post:=λx _=>Hd (goodP k x.f.key x.f.value≠0),ret:=λx _=>{x.f with code:=goodP k x.f.key x.f.value}.av k 7 gQ,m:=1,l:=λx _=>[.m x.a.os]},
 {Y:=Unit,post:=λx _=>Hd (goodP k x.f.key x.f.value=0),ret:=λx _=>{x.f with epoch:=x.a.c.now}.av k 1 gQ,m:=1,l:=λx _=>[.m (x.a.vI x.t x.a.r.now).os]}]}
noncomputable def sW(k:Int):iW:={X:=ZPs,args:=λx=>[.ptr 0 0,i64 x.t,x.f.av k 1 gQ],k:=1,l:=λx=>[.m x.a.os],pre:=λx=>Hd (x.f.key.size<1099511627776/\x.f.pos.size<1099511627776/\(k=3->x.miss->x.f.line<0)),outs:=[
 {Y:=ZLnk,post:=λx y=>Hd (x.goes y),ret:=λx y=>{x.f with pos:=y.key,past:=true}.av k 1 gQ,m:=1,l:=λx _=>[.m x.a.os]},
 {Y:=ZLnk,post:=λx y=>Hd (x.hit y),ret:=λx y=>{x.f with had:=true,old:=y,piece:=if k=1 then 0 else x.f.piece}.av k (nx3 x.f k true) gQ,m:=1,l:=λx _=>[.m x.a.os]},
 {Y:=Unit,post:=λx _=>Hd x.miss,ret:=λx _=>{x.f with had:=false,old:=iQ}.av k (nx3 x.f k false) gQ,m:=1,l:=λx _=>[.m x.a.os]}]}
structure ZPg where
 a:ZSto
 f:ZFp
 t:Nat
 i:Nat
 k:Nat
def ZPg.pb(x:ZPg):fP:=⟨x.a.p,x.i,x.k⟩
def ZPg.fr(x:ZPg):ZFp:={x.f with line:=x.pb.line}
noncomputable def avk:iW:=oJ ZPg (λx=>[.ptr 0 0,i64 x.t,x.fr.av 3 1 gQ]) 1 (λx=>[.m x.a.os]) (λx=>Hd (x.f.key.size<1099511627776/\x.f.pos.size<1099511627776/\x.pb.ok/\ZPs.miss ⟨x.a,x.f,x.t⟩)) (λx=>{x.f with had:=false,old:=iQ,line:= -1}.av 3 6 gQ) 1 (λx=>[.m (x.a.X3 (x.a.p.give x.i x.k)).os])
noncomputable def Tj(k:Int):iW:={X:=ZPs,args:=λx=>[.ptr 0 0,i64 x.t,x.f.av k 3 gQ],k:=1,l:=λx=>[.m x.a.os],pre:=λx=>Hd (x.a.p.ok/\x.f.key.size<=16/\x.f.value.size<=400),outs:=[
 {Y:=Unit,post:=λx _=>Hd (∀i,i<x.a.p.n->x.a.p.cls i≠ -1/\x.a.p.full (x.nd k) i),ret:=λx _=>{x.f with cls:=x.nd k,code:=4}.av k 6 gQ,m:=1,l:=λx _=>[.m x.a.os]},
 {Y:=Nat×Nat,post:=λx y=>Hd (x.a.p.takes (x.nd k) y.1 y.2),ret:=λx y=>{x.f with cls:=x.nd k,line:=2+y.1*8+y.2*spn (x.nd k),piece:=0}.av k 4 gQ,m:=1,l:=λx y=>[.m (x.a.X3 (x.a.p.take (x.nd k) y.1 y.2)).os]}]}
noncomputable def oP(k:Int):iW:=oJ ZPs (λx=>[.ptr 0 0,i64 x.t,x.f.av k 6 gQ]) 1 (λx=>[.m x.a.os]) (λx=>Hd (x.a.r.ok/\x.t<x.a.r.t)) (λx=>x.f.av k 7 gQ) 1 (λx=>[.m (x.a.vI x.t 0).os])
structure ZPw where
 a:ZSto
 f:ZFp
 t:Nat
 ln:Nat
 c:Int
 p:Nat
def ZPw.draft(x:ZPw):ZBlk:=⟨x.c,0,0,0,0,⟨#[]⟩,⟨#[]⟩⟩
def ZPw.blk(x:ZPw):ZBlk:=⟨x.c,1,0,0,0,x.f.key,x.f.value⟩
def ZPw.ok(x:ZPw):Prop:=x.a.d.ok/\0<=x.c/\x.c<=3/\x.ln+spn x.c<=x.a.d.n/\x.p<spn x.c/\x.f.key.size<=16/\x.f.value.size<=400/\x.a.d.st+10<1099511627776
noncomputable def ZPw.d'(x:ZPw):DevM:=if x.p=0 then x.a.d.store x.ln 0 64 (x.draft.jL (λ_=>0) (cpc x.c).toNat)else x.a.d.store (x.ln+x.p) 0 64 (λq=>x.blk.enc (64*x.p+q))
def ZPw.fr(x:ZPw)(p:Int):ZFp:={x.f with line:=x.ln,cls:=x.c,piece:=p}
noncomputable def FW(k:Int):iW:={X:=ZPw,args:=λx=>[.ptr 0 0,i64 x.t,(x.fr 0).av k 4 gQ],k:=1,l:=λx=>[.m x.a.os],pre:=λx=>Hd (x.ok/\x.p=0),outs:=[
 {Y:=Unit,post:=λx _=>Hd (1≠spn x.c),ret:=λx _=>(x.fr 1).av k 4 gQ,m:=1,l:=λx _=>[.m (x.a.Gx x.d').os]},
 {Y:=Unit,post:=λx _=>Hd (1=spn x.c),ret:=λx _=>(x.fr 0).av k 5 gQ,m:=1,l:=λx _=>[.m (x.a.Gx x.d').os]}]}
noncomputable def FX:iW:={X:=ZPw,args:=λx=>[.ptr 0 0,i64 x.t,(x.fr x.p).av 2 4 gQ],k:=1,l:=λx=>[.m x.a.os],pre:=λx=>Hd (x.ok/\x.p≠0),outs:=[
 {Y:=Unit,post:=λx _=>Hd (x.p+1≠spn x.c),ret:=λx _=>(x.fr (x.p+1)).av 2 4 gQ,m:=1,l:=λx _=>[.m (x.a.Gx x.d').os]},
 {Y:=Unit,post:=λx _=>Hd (x.p+1=spn x.c),ret:=λx _=>(x.fr 0).av 2 5 gQ,m:=1,l:=λx _=>[.m (x.a.Gx x.d').os]}]}
structure ZPr where
 a:ZSto
 f:ZFp
 t:Nat
 b:ZBlk
 ln:Nat
 p:Nat
def ZPr.ok(x:ZPr):Prop:=x.a.d.ok/\x.b.may/\x.b.kind=1/\x.ln+spn x.b.cls<=x.a.d.n/\x.p<spn x.b.cls/\ ∀q,q<64*x.b.dL->x.a.d.b ((x.ln+q/64)*193+q%64)=x.b.enc q
def ZPr.fr(x:ZPr)(p:Int):ZFp:={x.f with had:=true,old:=⟨x.b.key,x.b.id,x.b.ver,x.ln,x.b.cls⟩,piece:=p}
def ZPr.fr2(x:ZPr)(p:Int):ZFp:={x.fr p with found:=true,ans:=x.b.value}
noncomputable def Jm:iW:={X:=ZPr,args:=λx=>[.ptr 0 0,i64 x.t,(x.fr 0).av 1 2 gQ],k:=1,l:=λx=>[.m x.a.os],pre:=λx=>Hd (x.ok/\x.p=0),outs:=[
 {Y:=Unit,post:=λx _=>Hd (1≠spn x.b.cls),ret:=λx _=>(x.fr 1).av 1 2 (.slW 1 0 1 64),m:=2,l:=λx _=>[.m x.a.os,.o (aaQ x.b.enc 64)]},
 {Y:=Unit,post:=λx _=>Hd (1=spn x.b.cls),ret:=λx _=>(x.fr2 1).av 1 6 gQ,m:=1,l:=λx _=>[.m x.a.os]}]}
noncomputable def Tm:iW:={X:=ZPr,args:=λx=>[.ptr 0 0,i64 x.t,(x.fr x.p).av 1 2 (.slW 1 0 1 (64*x.p))],k:=2,l:=λx=>[.m x.a.os,.o (aaQ x.b.enc (64*x.p))],pre:=λx=>Hd (x.ok/\x.p≠0),outs:=[
 {Y:=Unit,post:=λx _=>Hd (x.p+1≠spn x.b.cls),ret:=λx _=>(x.fr (x.p+1)).av 1 2 (.slW 2 0 1 (64*(x.p+1))),m:=3,l:=λx _=>[.m x.a.os,.o (aaQ x.b.enc (64*x.p)),.o (aaQ x.b.enc (64*(x.p+1)))]},
 {Y:=Unit,post:=λx _=>Hd (x.p+1=spn x.b.cls),ret:=λx _=>(x.fr2 (x.p+1)).av 1 6 gQ,m:=2,l:=λx _=>[.m x.a.os,.o (aaQ x.b.enc (64*x.p))]}]}
structure ZDm where
 cls:Int
 id:Int
 ver:Int
 epoch:Int
 key:ByteArray
 value:ByteArray
 g:Nat->Int
def ZDm.b(x:ZDm):ZBlk:=⟨x.cls,1,x.id,x.ver,x.epoch,x.key,x.value⟩
noncomputable def avl:Ctr:=det ZDm (λx=>[.slW 0 0 1 (64*x.b.dL)]) 1 (λx=>[aaQ x.g (64*x.b.dL)]) (λx=>Hd (x.b.may/\x.b.key.size<1099511627776/\x.b.value.size<1099511627776/\ ∀k,k<64*x.b.dL->x.g k=x.b.enc k)) (λx=> .tup [x.b.av,boo true]) 1 (λx=>[aaQ x.g (64*x.b.dL)])
theorem asQ:cO Tryz.prog 121 avl:=jg λx hx=>by
 have hx:=aZ.1 hx;refine⟨arL,auJ,rfl,⟨x.b,x.g⟩,aZ.2 ⟨hx.1,hx.2.1,hx.2.2.1,hx.2.2.2⟩,rfl,rfl,λv h' hh=> ?_⟩;obtain⟨u,e1,e2,e3⟩:=jh hh;exact eF ⟨u,trivial,e2,e3⟩
structure ZPp where
 a:ZSto
 f:ZFp
 t:Nat
 ln:Nat
namespace ZPp
def pt(x:ZPp)(k:Int):ZPt:=⟨x.a,x.t,x.f.epoch,⟨k,x.f.key,x.f.value,x.f.had,x.f.old,x.ln,x.f.cls⟩,x.ln⟩
def fr(x:ZPp)(h:Bool):ZFp:={x.f with had:=h,line:=x.ln}
end ZPp
noncomputable def Na(k:Int)(had:Bool):Ctr:=det ZPp (λx=>[.ptr 0 0,i64 x.t,(x.fr had).av k 5 gQ]) 1 (λx=>[.abs (ownM x.a.os)]) (λx=>Hd ((x.pt k).ok k had)) (λx=>{x.fr had with found:=had,aep:=x.f.epoch,line:= -1}.av k 6 gQ) 1 (λx=>[.abs (ownM ((x.pt k).cg.res k had).os)])
noncomputable def Nb(k:Int)(had:Bool):iW:=oJ ZPp (λx=>[.ptr 0 0,i64 x.t,(x.fr had).av k 5 gQ]) 1 (λx=>[.m x.a.os]) (λx=>Hd ((x.pt k).bad had)) (λx=>{x.fr had with epoch:=x.a.c.now,pos:=emp,past:=false,had:=false,old:=iQ}.av k 1 gQ) 1 (λx=>[.m x.a.os])
noncomputable def y7(k:Int):Ctr:=det ZPs (λx=>[.ptr 0 0,i64 x.t,x.f.av k 7 gQ]) 1 (λx=>[.abs (ownM x.a.os)]) (λ_=>Hd True) (λx=>x.f.av k 7 gQ) 1 (λx=>[.abs (ownM x.a.os)])
def aow:dF:=arnS .any .any .any .any .any (.ptr 1 0) .any .any .any .any
noncomputable def vJ(k:Int):Ctr:={X:=ZPs,args:=λx=>[.ptr 0 0,i64 x.t,x.f.av k 1 gQ],k:=2,os:=λx=>[aow,.abs (tabA x.a.L)],pre:=λx=>Hd (x.f.key.size<1099511627776/\x.f.pos.size<1099511627776/\(k=3->x.miss->x.f.line<0)),outs:=[
 {Y:=ZLnk,post:=λx y=>Hd (x.goes y),ret:=λx y=>{x.f with pos:=y.key,past:=true}.av k 1 gQ,m:=2,os:=λx _=>[aow,.abs (tabA x.a.L)]},
 {Y:=ZLnk,post:=λx y=>Hd (x.hit y),ret:=λx y=>{x.f with had:=true,old:=y,piece:=if k=1 then 0 else x.f.piece}.av k (nx3 x.f k true) gQ,m:=2,os:=λx _=>[aow,.abs (tabA x.a.L)]},
 {Y:=Unit,post:=λx _=>Hd x.miss,ret:=λx _=>{x.f with had:=false,old:=iQ}.av k (nx3 x.f k false) gQ,m:=2,os:=λx _=>[aow,.abs (tabA x.a.L)]}]}
noncomputable def asR:je:=Fe++[(199,ctrT Qz.ctr),(45,ctrT ajy)]
noncomputable def asT:je:=Fe++[(183,ctrT Fh),(182,ctrT nextK.C),(65,ctrT ahf.ctr)]
noncomputable def avm:je:=Fe++[(201,ar1),(202,ctrT ahe.ctr)]
noncomputable def asU:je:=Fe++[(113,aiH),(121,ctrT avl),(181,ctrT ahu.ctr)]
noncomputable def aox(k:Int)(had:Bool):je:=Fe++[(162,ctrT (aop k had).ctr)]
noncomputable def aoy(k:Int)(had:Bool):je:=Fe++[(162,ctrT (y5 k had)),(45,ctrT ajy)]
def BP(a:ZSto):Prop:=ordA a.L=ordA a.L/\ownM a.l.os=ownM a.l.os/\(Nat.beq a.n 0=Nat.beq a.n 0/\a.n=a.n/\ ∀q:Nat,q<a.n->[Value.int .i64 (ZEff.kind (a.e q)),Value.string (ZEff.key (a.e q)),Value.string (ZEff.value (a.e q)),Value.int .u64 (ZEff.id (a.e q)),Value.int .u64 (ZEff.ver (a.e q)),Value.int .u64 (ZEff.epoch (a.e q)),Value.int .i64 (ZEff.group (a.e q))]=[Value.int .i64 (ZEff.kind (a.e q)),Value.string (ZEff.key (a.e q)),Value.string (ZEff.value (a.e q)),Value.int .u64 (ZEff.id (a.e q)),Value.int .u64 (ZEff.ver (a.e q)),Value.int .u64 (ZEff.epoch (a.e q)),Value.int .i64 (ZEff.group (a.e q))])/\True
def Jo(a:ZSto):Prop:=ownM a.b.os=ownM a.b.os/\tabA a.L=tabA a.L/\BP a
def qy:Prop:=0=0/\(1:Int)=1/\(0:Int)=0/\(0:Int)=0/\True
def bQ(a:Int):Prop:=a=a
def iV(a:ZSto):Prop:=0=0/\0=0/\0=0/\0=0/\0=0/\0=0/\0=0/\0=0/\bQ a.id/\bQ a.ver/\(Nat.beq a.n 0=Nat.beq a.n 0/\a.n=a.n)/\True
def sZ(a:ZPw)(b:lD):Prop:=iV a.a/\qy/\ownM a.d'.os=ownM (DevM.os (b.d.store b.k b.a b.b.n (λ(q:Nat)=>b.b.g (b.b.q+q))))/\ownM a.a.p.os=ownM a.a.p.os/\ownM a.a.r.os=ownM a.a.r.os/\ownM (ZCk.os (ZSto.ck (a.a.Gx a.d')))=ownM a.a.ck.os/\Jo a.a
def dY:Prop:=Value.slice none 0 0=Value.slice none 0 0
def jk(a:Int):Prop:=dY/\dY/\bQ a/\True
def bZ(a:ByteArray):Prop:=a=a
def kZ(a:ZFp):Prop:=(0:Int)=0/\dY/\bQ a.code/\a.found=a.found/\bZ a.ans/\jk a.aep
def jG(a:ZFp):Prop:=dY/\kZ a
def Au(a:ZPr):Prop:=64*a.p=64*a.p/\ ∀q:Nat,q<64*a.p->[Value.int .u8 (a.b.enc q)]=[Value.int .u8 (a.b.enc q)]
def tq(a:Nat):Prop:=(a:Int)+1=(a:Int)+1
def gy(a:Nat):Prop:=(a:Int)=(a:Int)
def Aw(a:ZPr):Prop:=true=a.f.found/\a.b.value=a.f.ans/\jk a.f.aep
def ny(a:ZSto)(b:DevM):Prop:=qy/\ownM a.d.os=ownM b.os/\ownM a.p.os=ownM a.p.os/\ownM a.r.os=ownM a.r.os/\ownM a.ck.os=ownM a.ck.os/\Jo a
def FY(a:ZPr):Prop:=Hd ((a.p:Int)+1≠spn a.b.cls)
def Nc(a:ZPr)(b:DevM):Prop:=(∃y_2:Unit,FY a/\False)\/ ∃y_2:Unit,Hd ((a.p:Int)+1=spn a.b.cls)/\((1:Int)=1/\bZ a.f.key/\bZ a.f.value/\bZ a.f.to/\dY/\(6:Int)=6/\bQ a.f.epoch/\bZ a.f.pos/\a.f.past=a.f.past/\(0:Int)=0/\true=true/\bZ a.b.key/\bQ a.b.id/\bQ a.b.ver/\gy a.ln/\bQ a.b.cls/\bQ a.f.line/\bQ a.f.cls/\tq a.p/\dY/\(0:Int)=0/\dY/\a.f.code=6/\Aw a)/\iV a.a/\Au a/\ny a.a b
def X4(a:ZPw)(b:lD):Prop:=Hd ((a.p:Int)+1≠spn a.c)/\((2:Int)=2/\bZ a.f.key/\bZ a.f.value/\bZ a.f.to/\dY/\(4:Int)=4/\bQ a.f.epoch/\bZ a.f.pos/\a.f.past=a.f.past/\(0:Int)=0/\a.f.had=a.f.had/\bZ a.f.old.key/\bQ a.f.old.id/\bQ a.f.old.ver/\bQ a.f.old.line/\bQ a.f.old.cls/\gy a.ln/\bQ a.c/\tq a.p/\jG a.f)/\sZ a b
def X5(a:ZPw)(b:lD):Prop:=Hd ((a.p:Int)+1≠spn a.c)/\((2:Int)=2/\bZ a.f.key/\bZ a.f.value/\bZ a.f.to/\dY/\(4:Int)=5/\bQ a.f.epoch/\bZ a.f.pos/\a.f.past=a.f.past/\(0:Int)=0/\a.f.had=a.f.had/\bZ a.f.old.key/\bQ a.f.old.id/\bQ a.f.old.ver/\bQ a.f.old.line/\bQ a.f.old.cls/\gy a.ln/\bQ a.c/\(a.p:Int)+1=0/\jG a.f)/\sZ a b
def X6(a:ZPw)(b:lD):Prop:=Hd ((a.p:Int)+1=spn a.c)/\((2:Int)=2/\bZ a.f.key/\bZ a.f.value/\bZ a.f.to/\dY/\(5:Int)=4/\bQ a.f.epoch/\bZ a.f.pos/\a.f.past=a.f.past/\(0:Int)=0/\a.f.had=a.f.had/\bZ a.f.old.key/\bQ a.f.old.id/\bQ a.f.old.ver/\bQ a.f.old.line/\bQ a.f.old.cls/\gy a.ln/\bQ a.c/\0=(a.p:Int)+1/\jG a.f)/\sZ a b
def FZ(a:ZPw):Prop:=bZ a.f.key/\bZ a.f.value/\bZ a.f.to/\dY/\(5:Int)=5/\bQ a.f.epoch/\bZ a.f.pos/\a.f.past=a.f.past/\(0:Int)=0/\a.f.had=a.f.had/\bZ a.f.old.key/\bQ a.f.old.id/\bQ a.f.old.ver/\bQ a.f.old.line/\bQ a.f.old.cls/\gy a.ln/\bQ a.c/\(0:Int)=0/\jG a.f
def X7(a:ZPw)(b:lD):Prop:= ∀y:Unit,True->I64 ((a.p:Int)+1)/\True/\I64 ((a.p:Int)+1)/\cP (BEq.beq ((a.p:Int)+1) (spn a.c)) ((∃y_1:Unit,X5 a b)\/ ∃y_1:Unit,Hd ((a.p:Int)+1=spn a.c)/\((2:Int)=2/\FZ a)/\sZ a b) ((∃y_1:Unit,X4 a b)\/ ∃y_1:Unit,X6 a b)
def Nh(a:ZPr)(b:DevM):Prop:=(∃y_2:Unit,Hd ((1:Int)≠spn a.b.cls)/\False)\/ ∃y_2:Unit,Hd (1=spn a.b.cls)/\((1:Int)=1/\bZ a.f.key/\bZ a.f.value/\bZ a.f.to/\dY/\(6:Int)=6/\bQ a.f.epoch/\bZ a.f.pos/\a.f.past=a.f.past/\(0:Int)=0/\true=true/\bZ a.b.key/\bQ a.b.id/\bQ a.b.ver/\gy a.ln/\bQ a.b.cls/\bQ a.f.line/\bQ a.f.cls/\(1:Int)=1/\dY/\(0:Int)=0/\dY/\a.f.code=6/\Aw a)/\iV a.a/\ny a.a b
def Az(a:ZPt)(b:ZPp):Prop:=a.x.old.key=b.f.old.key/\a.x.old.id=b.f.old.id/\a.x.old.ver=b.f.old.ver/\a.x.old.line=b.f.old.line/\a.x.old.cls=b.f.old.cls/\(a.ln:Int)=(b.ln:Int)/\a.x.cls=b.f.cls/\True
def X8(a:ZDm)(b:ZPr)(c:DevM):Prop:= ∀y_1:Unit,True->cP (BEq.beq a.id b.b.id) (cP (BEq.beq a.ver b.b.ver) (cP (Bool.not (BEq.beq (ByteArray.toList a.key) (ByteArray.toList b.b.key))) (Nc b c) ((∃y_2:Unit,FY b/\False)\/ ∃y_2:Unit,Hd ((b.p:Int)+1=spn b.b.cls)/\((1:Int)=1/\bZ b.f.key/\bZ b.f.value/\bZ b.f.to/\dY/\(6:Int)=6/\bQ b.f.epoch/\bZ b.f.pos/\b.f.past=b.f.past/\(0:Int)=0/\true=true/\bZ b.b.key/\bQ b.b.id/\bQ b.b.ver/\gy b.ln/\bQ b.b.cls/\bQ b.f.line/\bQ b.f.cls/\tq b.p/\dY/\(0:Int)=0/\dY/\bQ b.f.code/\true=true/\b.b.value=a.value/\jk b.f.aep)/\iV b.a/\Au b/\ny b.a c)) (Nc b c)) (Nc b c)
def X9(a:ZSto)(b:ZCk)(c:Lks):Prop:=iV a/\qy/\ownM a.d.os=ownM a.d.os/\ownM a.p.os=ownM a.p.os/\ownM a.r.os=ownM a.r.os/\ownM a.ck.os=ownM b.os/\ownM a.b.os=ownM a.b.os/\tabA a.L=tabA c/\BP a
def Ya(a:ZPp)(b:Int):Prop:=bZ a.f.key/\bZ a.f.value/\bZ a.f.to/\dY/\(1:Int)=1/\a.a.c.now=b/\emp=ByteArray.mk #[]/\false=false/\(0:Int)=0/\false=false/\ByteArray.mk #[]=ByteArray.mk #[]/\(0:Int)=0/\(0:Int)=0/\(0:Int)=0/\(0:Int)=0/\gy a.ln/\bQ a.f.cls/\bQ a.f.piece/\jG a.f
def Nj(a:ZSto)(b:ZPp):Prop:= ∀y:Unit,True->True/\ ∃x_2:ZCk,Hd (x_2.ph<=4/\x_2.c.ok)/\(0=0/\True)/\(ownM x_2.os=ownM a.ck.os/\True)/\ ∀y_1:Unit,True-> ∃y_2:Unit,True/\((2:Int)=2/\Ya b x_2.c.now)/\X9 b.a x_2 a.L
def lg(a:Nat):Prop:=AV.lit (Value.int .i64 (a:Int))=AV.lit (Value.int .i64 (a:Int))
def tu(a:ZPp):Prop:=AV.lit (Value.int .u64 a.f.epoch)=AV.lit (Value.int .u64 a.f.epoch)/\lg a.t/\AV.ptr 0 0=AV.ptr 0 0/\True
def Nk(a:ZFp):Prop:=bZ a.key/\bZ a.value/\bZ a.to/\dY/\(7:Int)=7/\bQ a.epoch/\bZ a.pos/\a.past=a.past/\(0:Int)=0/\a.had=a.had/\bZ a.old.key/\bQ a.old.id/\bQ a.old.ver/\bQ a.old.line/\bQ a.old.cls/\bQ a.line/\bQ a.cls/\bQ a.piece/\jG a
def Yb(a:ZPr)(b:DevM):Prop:= ∃y_1:Unit,Hd ((a.p:Int)+1=spn a.b.cls)/\((1:Int)=1/\bZ a.f.key/\bZ a.f.value/\bZ a.f.to/\dY/\(6:Int)=2/\bQ a.f.epoch/\bZ a.f.pos/\a.f.past=a.f.past/\(0:Int)=0/\true=true/\bZ a.b.key/\bQ a.b.id/\bQ a.b.ver/\gy a.ln/\bQ a.b.cls/\bQ a.f.line/\bQ a.f.cls/\tq a.p/\False/\(0:Int)=0/\dY/\bQ a.f.code/\Aw a)/\iV a.a/\Au a/\ny a.a b
def ajO(a:ZFp):Prop:=bZ a.key/\bZ a.value/\bZ a.to/\dY/\(6:Int)=6/\bQ a.epoch/\bZ a.pos/\a.past=a.past/\(0:Int)=0/\true=true/\bZ a.old.key/\bQ a.old.id/\bQ a.old.ver/\bQ a.old.line/\bQ a.old.cls/\(-(1:Int))=(-(1:Int))/\bQ a.cls/\bQ a.piece/\dY/\(0:Int)=0/\dY/\bQ a.code/\true=true/\bZ a.ans/\jk a.epoch
def Nl(a:lD)(b:DevM)(c:Int):Prop:=ownM a.d.os=ownM b.os/\(a.b.N=64/\ ∀q:Nat,q<a.b.N->[Value.int .u8 (a.b.g q)]=[Value.int .u8 (ZBlk.jL (ZBlk.mk c (0:Int) (0:Int) (0:Int) (0:Int) (ByteArray.mk #[]) (ByteArray.mk #[])) (λ(x_3:Nat)=>(0:Int)) (Int.toNat (cpc c)) q)])/\True
def Yc(a:ZPw)(b:Nat):Prop:=(Nat.beq (List.length [Value.int .u8 (eG (ByteArray.extract (a.f.key++a.f.value) (Int.toNat (Dx (imax (28+((a.p:Int)-1)*63) (0:Int)) ((ByteArray.size (a.f.key++a.f.value):Nat):Int))) (ByteArray.size (a.f.key++a.f.value))) b)]) 1&&List.all [Value.int .u8 (eG (ByteArray.extract (a.f.key++a.f.value) (Int.toNat (Dx (imax (28+((a.p:Int)-1)*63) (0:Int)) ((ByteArray.size (a.f.key++a.f.value):Nat):Int))) (ByteArray.size (a.f.key++a.f.value))) b)] Value.oneCell')=true
def ajP(a:ZPw):Prop:=bZ a.f.key/\bZ a.f.value/\bZ a.f.to/\dY/\(4:Int)=4/\bQ a.f.epoch/\bZ a.f.pos/\a.f.past=a.f.past/\(0:Int)=0/\a.f.had=a.f.had/\bZ a.f.old.key/\bQ a.f.old.id/\bQ a.f.old.ver/\bQ a.f.old.line/\bQ a.f.old.cls/\gy a.ln/\bQ a.c/\1=(0:Int)+1/\jG a.f
def ajQ(a:ZPw):Prop:=bZ a.f.key/\bZ a.f.value/\bZ a.f.to/\dY/\(5:Int)=4/\bQ a.f.epoch/\bZ a.f.pos/\a.f.past=a.f.past/\(0:Int)=0/\a.f.had=a.f.had/\bZ a.f.old.key/\bQ a.f.old.id/\bQ a.f.old.ver/\bQ a.f.old.line/\bQ a.f.old.cls/\gy a.ln/\bQ a.c/\0=(0:Int)+1/\jG a.f
def tC(a:ZPt)(b:ZPp):Prop:=0=0/\(a.t:Int)=(b.t:Int)/\a.e=b.f.epoch/\(0=0/\1=1/\1=1)/\True
def ajR(a:ZPw):Prop:=bZ a.f.key/\bZ a.f.value/\bZ a.f.to/\dY/\(4:Int)=5/\bQ a.f.epoch/\bZ a.f.pos/\a.f.past=a.f.past/\(0:Int)=0/\a.f.had=a.f.had/\bZ a.f.old.key/\bQ a.f.old.id/\bQ a.f.old.ver/\bQ a.f.old.line/\bQ a.f.old.cls/\gy a.ln/\bQ a.c/\(1:Int)=0/\jG a.f
def F5(a:ZDm):Prop:=Hd (a.b.may/\a.key.size<1099511627776/\a.value.size<1099511627776/\ ∀k:Nat,k<64*a.b.dL->a.g k=a.b.enc k)
def AA(a:lD):Prop:=Hd (a.d.ok/\a.k<a.d.n/\a.b.ok/\a.a+a.b.n<=64)
def Np:Prop:=True/\True/\True/\0=0/\True/\0=0/\True/\True/\True/\True/\True/\True
def F6(a:lD):Prop:=(a.a:Int)=0/\(a.b.q=0/\a.b.n=64)/\True
def Nq(a:ZPt)(b:ZPp):Prop:=a.x.key=b.f.key/\a.x.value=b.f.value/\true=true/\Az a b
def Nr(a:lD)(b:Nat):Prop:=0=0/\(a.k:Int)=(b:Int)/\F6 a
def tH:Prop:=(0:Int)<=5/\(0:Int)<=1
def Ns(a:ZDm)(b:Qh):Prop:=(64*a.b.dL=64/\ ∀q:Nat,q<64*a.b.dL->[Value.int .u8 (a.g q)]=[Value.int .u8 (b.d.b (b.k*193+(0+(q-0))))])/\True
def Nu(a:ZPt)(b:ZPp):Prop:=((2:Int)=2/\a.x.key=b.f.key/\a.x.value=b.f.value/\false=false/\Az a b)/\True
def ajS(x:ZPw):Prop:=
 ((0:Int)<=4/\(0:Int)<=2)/\ ∃x_1:Int,Hd (0<=x_1/\x_1<=3)/\(x_1=x.c/\True)/\True/\ ∀y:Unit,True-> ∃x_2:lD,AA x_2/\Nr x_2 x.ln/\Nl x_2 x.a.d x_1/\ ∀y_1:Unit,True->I64 (1:Int)/\True/\I64 ((0:Int)+1)/\cP (BEq.beq (1:Int) (spn x.c)) ((∃y_2:Unit,Hd ((1:Int)≠spn x.c)/\((2:Int)=2/\ajR x)/\sZ x x_2)\/ ∃y_2:Unit,Hd (1=spn x.c)/\((2:Int)=2/\FZ x)/\sZ x x_2) ((∃y_2:Unit,Hd ((1:Int)≠spn x.c)/\((2:Int)=2/\ajP x)/\sZ x x_2)\/ ∃y_2:Unit,Hd (1=spn x.c)/\((2:Int)=2/\ajQ x)/\sZ x x_2)
theorem ajT(x:ZPw):ajS x=wpF Tryz.prog ar4 tt (noA x) 200 6 34 ((FW 2).args x) (hO 11 (flatP 1 ((FW 2).l x))) (λv h'=>endsPK 1 x v h' (FW 2).outs):=by kernel_rfl
def asV(x:ZPw):Prop:=
 ((0:Int)<=4/\(0:Int)<=2)/\cP (BEq.beq (x.p:Int) (0:Int)) (∃x_1:Int,Hd (0<=x_1/\x_1<=3)/\(x_1=x.c/\True)/\True/\ ∀y:Unit,True-> ∃x_2:lD,AA x_2/\Nr x_2 x.ln/\Nl x_2 x.a.d x_1/\ ∀y_1:Unit,True->I64 ((x.p:Int)+1)/\True/\I64 ((x.p:Int)+1)/\cP (BEq.beq ((x.p:Int)+1) (spn x.c)) ((∃y_2:Unit,X5 x x_2)\/ ∃y_2:Unit,Hd ((x.p:Int)+1=spn x.c)/\((2:Int)=2/\FZ x)/\sZ x x_2) ((∃y_2:Unit,X4 x x_2)\/ ∃y_2:Unit,X6 x x_2)) (((0:Int)<=64/\(0:Int)<=0/\(0:Int)<=281474976710592/\(0:Int)<=4611686018427387839)/\((0:Int)<=0/\(0:Int)<=63)/\0<64/\((x.f.key.size+x.f.value.size:Nat):Int)<=9223372036854775807/\I64 ((x.p:Int)-1)/\I64 (((x.p:Int)-1)*63)/\I64 (28+((x.p:Int)-1)*63)/\(0:Int)<=1/\(1<=64/\64<=64/\64<=64)/\0<=Dx (imax (28+((x.p:Int)-1)*63) (0:Int)) ((ByteArray.size (x.f.key++x.f.value):Nat):Int)/\(Int.toNat (Dx (imax (28+((x.p:Int)-1)*63) (0:Int)) ((ByteArray.size (x.f.key++x.f.value):Nat):Int))<=ByteArray.size (x.f.key++x.f.value)/\ByteArray.size (x.f.key++x.f.value)<=ByteArray.size (x.f.key++x.f.value)/\ByteArray.size (x.f.key++x.f.value)<=ByteArray.size (x.f.key++x.f.value))/\64<=64/\
 cP (Nat.ble (ByteArray.size (ByteArray.extract (x.f.key++x.f.value) (Int.toNat (Dx (imax (28+((x.p:Int)-1)*63) (0:Int)) ((ByteArray.size (x.f.key++x.f.value):Nat):Int))) (ByteArray.size (x.f.key++x.f.value)))) 63) ((∀k:Nat,k<ByteArray.size (ByteArray.extract (x.f.key++x.f.value) (Int.toNat (Dx (imax (28+((x.p:Int)-1)*63) (0:Int)) ((ByteArray.size (x.f.key++x.f.value):Nat):Int))) (ByteArray.size (x.f.key++x.f.value)))->Yc x k)/\True/\I64 ((x.ln:Int)+(x.p:Int))/\ ∃x_1:lD,AA x_1/\(0=0/\(x_1.k:Int)=(x.ln:Int)+(x.p:Int)/\F6 x_1)/\(ownM x_1.d.os=ownM x.a.d.os/\(x_1.b.N=64/\ ∀q:Nat,q<x_1.b.N->[Value.int .u8 (x_1.b.g q)]=Cs.eff (λ(p:Nat)=>cond (Nat.ble 1 p&&Nat.blt p (1+ByteArray.size (ByteArray.extract (x.f.key++x.f.value) (Int.toNat (Dx (imax (28+((x.p:Int)-1)*63) (0:Int)) ((ByteArray.size (x.f.key++x.f.value):Nat):Int))) (ByteArray.size (x.f.key++x.f.value))))) [Value.int .u8 (eG (ByteArray.extract (x.f.key++x.f.value) (Int.toNat (Dx (imax (28+((x.p:Int)-1)*63) (0:Int)) ((ByteArray.size (x.f.key++x.f.value):Nat):Int))) (ByteArray.size (x.f.key++x.f.value))) (p-1))] (Cs.eff (λ(x_2:Nat)=>[Value.int .u8 0]) [(0,[Value.int .u8 2])] p)) [] q)/\True)/\X7 x x_1) ((∀k:Nat,k<63->Yc x k)/\True/\I64 ((x.ln:Int)+(x.p:Int))/\ ∃x_1:lD,AA x_1/\(0=0/\(x_1.k:Int)=(x.ln:Int)+(x.p:Int)/\F6 x_1)/\(ownM x_1.d.os=ownM x.a.d.os/\(x_1.b.N=64/\
 ∀q:Nat,q<x_1.b.N->[Value.int .u8 (x_1.b.g q)]=Cs.eff (λ(p:Nat)=>cond (Nat.ble 1 p&&Nat.blt p 64) [Value.int .u8 (eG (ByteArray.extract (x.f.key++x.f.value) (Int.toNat (Dx (imax (28+((x.p:Int)-1)*63) (0:Int)) ((ByteArray.size (x.f.key++x.f.value):Nat):Int))) (ByteArray.size (x.f.key++x.f.value))) (p-1))] (Cs.eff (λ(x_2:Nat)=>[Value.int .u8 0]) [(0,[Value.int .u8 2])] p)) [] q)/\True)/\X7 x x_1))
theorem aoz(x:ZPw):asV x=wpF Tryz.prog ar4 tt (noA x) 200 6 34 ((FX).args x) (hO 11 (flatP 1 ((FX).l x))) (λv h'=>endsPK 1 x v h' (FX).outs):=by kernel_rfl
def ajU(x:ZPr):Prop:=
 ((0:Int)<=2/\(0:Int)<=4)/\I64 ((x.ln:Int)+0)/\(AV.lit (Value.int .i64 0)=AV.lit (Value.int .i64 0)/\lg x.ln/\True)/\ ∃x_1:Qh,Hd (x_1.d.ok/\x_1.k<x_1.d.n)/\(0=0/\(x_1.k:Int)=(x.ln:Int)+0/\True)/\(ownM x_1.d.os=ownM x.a.d.os/\True)/\ ∀y:Unit,True->True/\64<=64/\(2*(0+64)+1000)*1<=281474976710656/\I64 (1:Int)/\(AV.lit (Value.int .i64 1)=AV.lit (Value.int .i64 1)/\True)/\cP (Bool.not (BEq.beq (1:Int) (spn x.b.cls))) ((∃y_1:Unit,Hd ((1:Int)≠spn x.b.cls)/\((1:Int)=1/\bZ x.f.key/\bZ x.f.value/\bZ x.f.to/\dY/\(2:Int)=2/\bQ x.f.epoch/\bZ x.f.pos/\x.f.past=x.f.past/\(0:Int)=0/\true=true/\bZ x.b.key/\bQ x.b.id/\bQ x.b.ver/\gy x.ln/\bQ x.b.cls/\bQ x.f.line/\bQ x.f.cls/\(1:Int)=1/\(0=0/\64=64)/\kZ x.f)/\iV x.a/\(64=64/\ ∀q:Nat,q<64->[Value.int .u8 (x.b.enc q)]=[Value.int .u8 (x_1.d.b (x_1.k*193+(0+(q-0))))])/\ny x.a x_1.d)\/ ∃y_1:Unit,Hd (1=spn x.b.cls)/\((1:Int)=1/\bZ x.f.key/\bZ x.f.value/\bZ x.f.to/\dY/\(6:Int)=2/\bQ x.f.epoch/\bZ x.f.pos/\x.f.past=x.f.past/\(0:Int)=0/\true=true/\bZ x.b.key/\bQ x.b.id/\bQ x.b.ver/\gy x.ln/\bQ x.b.cls/\bQ x.f.line/\bQ x.f.cls/\(1:Int)=1/\False/\(0:Int)=0/\dY/\bQ x.f.code/\Aw x)/\iV x.a/\ny x.a x_1.d) (∃x_2:ZDm,F5 x_2/\((0=0/\64*x_2.b.dL=64)/\True)/\Ns x_2 x_1/\
 ∀y_1:Unit,True->cP (BEq.beq x_2.id x.b.id) (cP (BEq.beq x_2.ver x.b.ver) (cP (Bool.not (BEq.beq (ByteArray.toList x_2.key) (ByteArray.toList x.b.key))) (Nh x x_1.d) ((∃y_2:Unit,Hd ((1:Int)≠spn x.b.cls)/\False)\/ ∃y_2:Unit,Hd (1=spn x.b.cls)/\((1:Int)=1/\bZ x.f.key/\bZ x.f.value/\bZ x.f.to/\dY/\(6:Int)=6/\bQ x.f.epoch/\bZ x.f.pos/\x.f.past=x.f.past/\(0:Int)=0/\true=true/\bZ x.b.key/\bQ x.b.id/\bQ x.b.ver/\gy x.ln/\bQ x.b.cls/\bQ x.f.line/\bQ x.f.cls/\(1:Int)=1/\dY/\(0:Int)=0/\dY/\bQ x.f.code/\true=true/\x.b.value=x_2.value/\jk x.f.aep)/\iV x.a/\ny x.a x_1.d)) (Nh x x_1.d)) (Nh x x_1.d))
theorem ajV(x:ZPr):ajU x=wpF Tryz.prog asU tt (noA x) 200 6 34 ((Jm).args x) (hO 11 (flatP 1 ((Jm).l x))) (λv h'=>endsPK 1 x v h' (Jm).outs):=by kernel_rfl
def ajW(x:ZPr):Prop:=
 0+64*x.p<=64*x.p/\cP (Nat.beq (64*x.p) 0) (((0:Int)<=2/\(0:Int)<=4)/\I64 ((x.ln:Int)+(x.p:Int))/\(lg x.p/\lg x.ln/\True)/\ ∃x_1:Qh,Hd (x_1.d.ok/\x_1.k<x_1.d.n)/\(0=0/\(x_1.k:Int)=(x.ln:Int)+(x.p:Int)/\True)/\(ownM x_1.d.os=ownM x.a.d.os/\True)/\ ∀y:Unit,True->True/\64<=64/\(2*(0+64)+1000)*1<=281474976710656/\I64 ((x.p:Int)+1)/\(AV.lit (Value.int .i64 ((x.p:Int)+1))=AV.lit (Value.int .i64 ((x.p:Int)+1))/\True)/\cP (Bool.not (BEq.beq ((x.p:Int)+1) (spn x.b.cls))) ((∃y_1:Unit,FY x/\((1:Int)=1/\bZ x.f.key/\bZ x.f.value/\bZ x.f.to/\dY/\(2:Int)=2/\bQ x.f.epoch/\bZ x.f.pos/\x.f.past=x.f.past/\(0:Int)=0/\true=true/\bZ x.b.key/\bQ x.b.id/\bQ x.b.ver/\gy x.ln/\bQ x.b.cls/\bQ x.f.line/\bQ x.f.cls/\tq x.p/\(0=0/\64*(x.p+1)=64)/\kZ x.f)/\iV x.a/\Au x/\(64*(x.p+1)=64/\ ∀q:Nat,q<64*(x.p+1)->[Value.int .u8 (x.b.enc q)]=[Value.int .u8 (x_1.d.b (x_1.k*193+(0+(q-0))))])/\ny x.a x_1.d)\/Yb x x_1.d) (∃x_2:ZDm,F5 x_2/\((0=0/\64*x_2.b.dL=64)/\True)/\Ns x_2 x_1/\X8 x_2 x x_1.d)) ((2*(0+64*x.p)+1000)*1<=281474976710656/\((0:Int)<=2/\(0:Int)<=4)/\I64 ((x.ln:Int)+(x.p:Int))/\(lg x.p/\lg x.ln/\True)/\ ∃x_1:Qh,Hd (x_1.d.ok/\x_1.k<x_1.d.n)/\(0=0/\(x_1.k:Int)=(x.ln:Int)+(x.p:Int)/\True)/\(ownM x_1.d.os=ownM x.a.d.os/\True)/\ ∀y:Unit,True->True/\0+64*x.p=0+64*x.p/\64<=64/\
 (∀k:Nat,k<64->(Nat.beq (List.length [Value.int .u8 (x_1.d.b (x_1.k*193+(0+k)))]) 1&&List.all [Value.int .u8 (x_1.d.b (x_1.k*193+(0+k)))] Value.oneCell')=true)/\(2*(0+64*x.p+64)+1000)*1<=281474976710656/\I64 ((x.p:Int)+1)/\(AV.lit (Value.int .i64 ((x.p:Int)+1))=AV.lit (Value.int .i64 ((x.p:Int)+1))/\True)/\cP (Bool.not (BEq.beq ((x.p:Int)+1) (spn x.b.cls))) ((∃y_1:Unit,FY x/\((1:Int)=1/\bZ x.f.key/\bZ x.f.value/\bZ x.f.to/\dY/\(2:Int)=2/\bQ x.f.epoch/\bZ x.f.pos/\x.f.past=x.f.past/\(0:Int)=0/\true=true/\bZ x.b.key/\bQ x.b.id/\bQ x.b.ver/\gy x.ln/\bQ x.b.cls/\bQ x.f.line/\bQ x.f.cls/\tq x.p/\(0=0/\64*(x.p+1)=0+64*x.p+64)/\kZ x.f)/\iV x.a/\Au x/\(64*(x.p+1)=0+64*x.p+64/\ ∀q:Nat,q<64*(x.p+1)->[Value.int .u8 (x.b.enc q)]=Cs.eff (λ(q_1:Nat)=>cond (Nat.blt q_1 (0+64*x.p)) [Value.int .u8 (x.b.enc (0+(q_1-0)))] [Value.int .u8 (x_1.d.b (x_1.k*193+(0+(q_1-(0+64*x.p)))))]) [] q)/\ny x.a x_1.d)\/Yb x x_1.d) (∃x_2:ZDm,F5 x_2/\((0=0/\64*x_2.b.dL=0+64*x.p+64)/\True)/\((64*x_2.b.dL=0+64*x.p+64/\ ∀q:Nat,q<64*x_2.b.dL->[Value.int .u8 (x_2.g q)]=Cs.eff (λ(q_1:Nat)=>cond (Nat.blt q_1 (0+64*x.p)) [Value.int .u8 (x.b.enc (0+(q_1-0)))] [Value.int .u8 (x_1.d.b (x_1.k*193+(0+(q_1-(0+64*x.p)))))]) [] q)/\True)/\X8 x_2 x x_1.d))
theorem ajX(x:ZPr):ajW x=wpF Tryz.prog asU tt (noA x) 200 6 34 ((Tm).args x) (hO 12 (flatP 2 ((Tm).l x))) (λv h'=>endsPK 2 x v h' (Tm).outs):=by kernel_rfl
def Yd(x:ZPp):Prop:=
 tH/\tu x/\ ∃x_1:ZPt,Hd (x_1.ok (2:Int) false)/\tC x_1 x/\(ownM x_1.a.os=ownM x.a.os/\Nu x_1 x)/\ ∀y:Unit,True->True/\((0:Int)<=0/\(0:Int)<=0)/\0<1/\True/\True/\True/\True/\ ∃y_1:Unit,True/\((2:Int)=2/\bZ x.f.key/\bZ x.f.value/\bZ x.f.to/\dY/\(6:Int)=6/\bQ x.f.epoch/\bZ x.f.pos/\x.f.past=x.f.past/\(0:Int)=0/\false=false/\bZ x.f.old.key/\bQ x.f.old.id/\bQ x.f.old.ver/\bQ x.f.old.line/\bQ x.f.old.cls/\(-(1:Int))=(-(1:Int))/\bQ x.f.cls/\bQ x.f.piece/\dY/\(0:Int)=0/\dY/\bQ x.f.code/\false=false/\bZ x.f.ans/\jk x.f.epoch)/\ownM (ZSto.os (ZCg.res (ZPt.cg (x.pt (2:Int))) (2:Int) false))=ownM (ZSto.os (x_1.cg.res (2:Int) false))/\True
theorem aeg(x:ZPp):Yd x=wpF Tryz.prog (aox 2 false) tt (noA x) 200 6 34 ((Na 2 false).args x) (hO 1 ((Na 2 false).os x)) (λv h'=>eX 1 x v h' (Na 2 false).outs):=by kernel_rfl
def Ye(x:ZPp):Prop:=
 tH/\tu x/\ ∃x_1:ZPt,Hd (x_1.bad false)/\tC x_1 x/\(Np/\ownM x_1.a.ck.os=ownM x.a.ck.os/\tabA x_1.a.L=tabA x.a.L/\Nu x_1 x)/\Nj x_1.a x
theorem aeh(x:ZPp):Ye x=wpF Tryz.prog (aoy 2 false) tt (noA x) 200 6 34 ((Nb 2 false).args x) (hO 11 (flatP 1 ((Nb 2 false).l x))) (λv h'=>endsPK 1 x v h' (Nb 2 false).outs):=by kernel_rfl
def Yf(x:ZPp):Prop:=
 tH/\tu x/\ ∃x_1:ZPt,Hd (x_1.ok (2:Int) true)/\tC x_1 x/\(ownM x_1.a.os=ownM x.a.os/\((2:Int)=2/\Nq x_1 x)/\True)/\ ∀y:Unit,True->True/\((0:Int)<=0/\(0:Int)<=0)/\0<1/\True/\True/\True/\True/\ ∃y_1:Unit,True/\((2:Int)=2/\ajO x.f)/\ownM (ZSto.os (ZCg.res (ZPt.cg (x.pt (2:Int))) (2:Int) true))=ownM (ZSto.os (x_1.cg.res (2:Int) true))/\True
theorem aei(x:ZPp):Yf x=wpF Tryz.prog (aox 2 true) tt (noA x) 200 6 34 ((Na 2 true).args x) (hO 1 ((Na 2 true).os x)) (λv h'=>eX 1 x v h' (Na 2 true).outs):=by kernel_rfl
def Yg(x:ZPp):Prop:=
 tH/\tu x/\ ∃x_1:ZPt,Hd (x_1.bad true)/\tC x_1 x/\(Np/\ownM x_1.a.ck.os=ownM x.a.ck.os/\tabA x_1.a.L=tabA x.a.L/\((2:Int)=2/\Nq x_1 x)/\True)/\Nj x_1.a x
theorem aej(x:ZPp):Yg x=wpF Tryz.prog (aoy 2 true) tt (noA x) 200 6 34 ((Nb 2 true).args x) (hO 11 (flatP 1 ((Nb 2 true).l x))) (λv h'=>endsPK 1 x v h' (Nb 2 true).outs):=by kernel_rfl
def ajY(x:ZPs):Prop:=
 ∃y:Unit,True/\((1:Int)=1/\Nk x.f)/\ownM x.a.os=ownM x.a.os/\True
theorem ajZ(x:ZPs):ajY x=wpF Tryz.prog Fe tt (noA x) 200 6 34 ((y7 1).args x) (hO 1 ((y7 1).os x)) (λv h'=>eX 1 x v h' (y7 1).outs):=by kernel_rfl
def aj0(x:ZPs):Prop:=
 ∃y:Unit,True/\((2:Int)=2/\Nk x.f)/\ownM x.a.os=ownM x.a.os/\True
theorem aj1(x:ZPs):aj0 x=wpF Tryz.prog Fe tt (noA x) 200 6 34 ((y7 2).args x) (hO 1 ((y7 2).os x)) (λv h'=>eX 1 x v h' (y7 2).outs):=by kernel_rfl
def fB:Prop:=Value.slice none 0 0=Value.slice none 0 0
def dw(a:ByteArray):Prop:=a=a
def tJ(a:ZFp):Prop:=fB/\(0:Int)=0/\fB/\a.code=a.code/\a.found=a.found/\dw a.ans/\fB/\fB/\a.aep=a.aep/\True
def Nv(a:ZFp):Prop:=a.line=a.line/\a.cls=a.cls/\ite ((2:Int)=1) (0:Int) a.piece=a.piece/\tJ a
def Nw(a:ZLnk):Prop:=AV.agg [AV.lit (Value.string a.key),AV.lit (Value.int .u64 a.id),AV.lit (Value.int .u64 a.ver),AV.lit (Value.int .i64 a.line),AV.lit (Value.int .i64 a.cls)]=AV.agg [AV.lit (Value.string a.key),AV.lit (Value.int .u64 a.id),AV.lit (Value.int .u64 a.ver),AV.lit (Value.int .i64 a.line),AV.lit (Value.int .i64 a.cls)]/\True
def tK(a:ZFp):Prop:=a.line=a.line/\a.cls=a.cls/\a.piece=a.piece/\tJ a
def F7(a:ZFp):Prop:=a.epoch=a.epoch/\dw a.pos/\a.past=a.past/\(0:Int)=0/\false=false/\ByteArray.mk #[]=ByteArray.mk #[]/\(0:Int)=0/\(0:Int)=0/\(0:Int)=0/\(0:Int)=0/\tK a
def F8(a:ZFp)(b:ByteArray):Prop:=a.epoch=a.epoch/\b=a.pos/\true=a.past/\(0:Int)=0/\a.had=false/\a.old.key=ByteArray.mk #[]/\a.old.id=0/\a.old.ver=0/\a.old.line=0/\a.old.cls=0/\tK a
def Yh(a:ZFp)(b:ZLnk):Prop:=a.epoch=a.epoch/\dw a.pos/\a.past=a.past/\(0:Int)=0/\true=false/\b.key=ByteArray.mk #[]/\b.id=0/\b.ver=0/\b.line=0/\b.cls=0/\Nv a
def fE(a:Lks)(b:Lks):Prop:=(True/\True/\True/\True/\True/\0=0/\True/\True/\True/\True/\True/\True)/\tabA a=tabA b/\True
def Ny(a:ZPs)(b:Lks):Prop:=cP (decide (a.f.line<0)) ((∃y_2:ZLnk,Hd (a.goes y_2)/\((2:Int)=2/\dw a.f.key/\dw a.f.value/\dw a.f.to/\fB/\(1:Int)=3/\F8 a.f y_2.key)/\fE a.a.L b)\/(∃y_2:ZLnk,Hd (a.hit y_2)/\((2:Int)=2/\dw a.f.key/\dw a.f.value/\dw a.f.to/\fB/\nx3 a.f (2:Int) true=3/\Yh a.f y_2)/\fE a.a.L b)\/ ∃y_2:Unit,Hd a.miss/\((2:Int)=2/\dw a.f.key/\dw a.f.value/\dw a.f.to/\fB/\nx3 a.f (2:Int) false=3/\F7 a.f)/\fE a.a.L b) ((∃y_2:ZLnk,Hd (a.goes y_2)/\((2:Int)=2/\dw a.f.key/\dw a.f.value/\dw a.f.to/\fB/\(1:Int)=5/\F8 a.f y_2.key)/\fE a.a.L b)\/(∃y_2:ZLnk,Hd (a.hit y_2)/\((2:Int)=2/\dw a.f.key/\dw a.f.value/\dw a.f.to/\fB/\nx3 a.f (2:Int) true=5/\Yh a.f y_2)/\fE a.a.L b)\/ ∃y_2:Unit,Hd a.miss/\((2:Int)=2/\dw a.f.key/\dw a.f.value/\dw a.f.to/\fB/\nx3 a.f (2:Int) false=5/\F7 a.f)/\fE a.a.L b)
def Nz(a:ZFp)(b:ByteArray):Prop:=a.epoch=a.epoch/\a.pos=b/\a.past=true/\(0:Int)=0/\false=a.had/\ByteArray.mk #[]=a.old.key/\0=a.old.id/\0=a.old.ver/\0=a.old.line/\0=a.old.cls/\tK a
def Yi(a:ZFp)(b:ByteArray)(c:ZLnk):Prop:=a.epoch=a.epoch/\b=a.pos/\true=a.past/\(0:Int)=0/\a.had=true/\a.old.key=c.key/\a.old.id=c.id/\a.old.ver=c.ver/\a.old.line=c.line/\a.old.cls=c.cls/\tK a
def Yj(a:ZFp)(b:ZLnk)(c:ZLnk):Prop:=a.epoch=a.epoch/\dw a.pos/\a.past=a.past/\(0:Int)=0/\true=true/\b.key=c.key/\b.id=c.id/\b.ver=c.ver/\b.line=c.line/\b.cls=c.cls/\Nv a
def Yk(a:ZFp)(b:ZLnk):Prop:=a.epoch=a.epoch/\dw a.pos/\a.past=a.past/\(0:Int)=0/\false=true/\ByteArray.mk #[]=b.key/\0=b.id/\0=b.ver/\0=b.line/\0=b.cls/\tK a
def NC(a:ZFp)(b:ByteArray)(c:ByteArray):Prop:=dw a.key/\dw a.value/\dw a.to/\fB/\(1:Int)=1/\a.epoch=a.epoch/\b=c/\true=true/\(0:Int)=0/\a.had=a.had/\dw a.old.key/\a.old.id=a.old.id/\a.old.ver=a.old.ver/\a.old.line=a.old.line/\a.old.cls=a.old.cls/\tK a
def aj2(a:ZLnk)(b:ZPs)(c:Lks):Prop:=True/\True/\cP (@Op.bytesLess (ByteArray.toList a.key) (ByteArray.toList b.f.key)) ((∃y_2:ZLnk,Hd (b.goes y_2)/\((2:Int)=2/\NC b.f y_2.key a.key)/\fE b.a.L c)\/(∃y_2:ZLnk,Hd (b.hit y_2)/\((2:Int)=2/\dw b.f.key/\dw b.f.value/\dw b.f.to/\fB/\nx3 b.f (2:Int) true=1/\b.f.epoch=b.f.epoch/\b.f.pos=a.key/\b.f.past=true/\(0:Int)=0/\true=b.f.had/\y_2.key=b.f.old.key/\y_2.id=b.f.old.id/\y_2.ver=b.f.old.ver/\y_2.line=b.f.old.line/\y_2.cls=b.f.old.cls/\Nv b.f)/\fE b.a.L c)\/ ∃y_2:Unit,Hd b.miss/\((2:Int)=2/\dw b.f.key/\dw b.f.value/\dw b.f.to/\fB/\nx3 b.f (2:Int) false=1/\Nz b.f a.key)/\fE b.a.L c) (cP (BEq.beq (ByteArray.toList a.key) (ByteArray.toList b.f.key)) (Nw a/\True/\cP (decide (b.f.line<0)) ((∃y_2:ZLnk,Hd (b.goes y_2)/\((2:Int)=2/\dw b.f.key/\dw b.f.value/\dw b.f.to/\fB/\(1:Int)=3/\Yi b.f y_2.key a)/\fE b.a.L c)\/(∃y_2:ZLnk,Hd (b.hit y_2)/\((2:Int)=2/\dw b.f.key/\dw b.f.value/\dw b.f.to/\fB/\nx3 b.f (2:Int) true=3/\Yj b.f y_2 a)/\fE b.a.L c)\/ ∃y_2:Unit,Hd b.miss/\((2:Int)=2/\dw b.f.key/\dw b.f.value/\dw b.f.to/\fB/\nx3 b.f (2:Int) false=3/\Yk b.f a)/\fE b.a.L c) ((∃y_2:ZLnk,Hd (b.goes y_2)/\((2:Int)=2/\dw b.f.key/\dw b.f.value/\dw b.f.to/\fB/\(1:Int)=5/\Yi b.f y_2.key a)/\fE b.a.L c)\/(∃y_2:ZLnk,Hd (b.hit y_2)/\((2:Int)=2/\dw b.f.key/\dw b.f.value/\dw b.f.to/\fB/\nx3 b.f (2:Int) true=5/\Yj b.f y_2 a)/\fE b.a.L c)\/ ∃y_2:Unit,Hd b.miss/\((2:Int)=2/\
 dw b.f.key/\dw b.f.value/\dw b.f.to/\fB/\nx3 b.f (2:Int) false=5/\Yk b.f a)/\fE b.a.L c)) (Ny b c))
def AB(a:ZNk)(b:ByteArray)(c:ZFp):Prop:=0=0/\((bkt a.s:Nat):Int)=((bkt b:Nat):Int)/\a.pos=c.pos/\a.past=c.past/\True
def tN(a:ByteArray):Prop:=AV.lit (Value.string a)=AV.lit (Value.string a)
def wI(a:ByteArray):Prop:=tN a/\True
def qA(a:Bool):Prop:=AV.lit (Value.bool a)=AV.lit (Value.bool a)
def AL(a:ZNk)(b:ZLnk):Prop:=Hd (nextL a.L (bkt a.s) a.pos a.past=some b)
def AO(a:ZNk):Prop:=Hd (nextL a.L (bkt a.s) a.pos a.past= @Option.none ZLnk)
def oQ(a:ByteArray):Prop:=Hd (a.size<1099511627776)
def aj3(a:ZPs)(b:ByteArray):Prop:=(qA a.f.past/\wI a.f.pos)/\ ∃x_2:ZNk,oQ x_2.pos/\AB x_2 b a.f/\(tabA x_2.L=tabA a.a.L/\True)/\(∀y_1:Unit,AO x_2->True/\True/\Ny a x_2.L)/\ ∀y_1:ZLnk,AL x_2 y_1->aj2 y_1 a x_2.L
def Yl(a:ZFp):Prop:=a.line=a.line/\a.cls=a.cls/\ite ((1:Int)=1) (0:Int) a.piece=a.piece/\tJ a
def ND(a:ZPs)(b:Lks):Prop:=(∃y_2:ZLnk,Hd (a.goes y_2)/\((1:Int)=1/\dw a.f.key/\dw a.f.value/\dw a.f.to/\fB/\(1:Int)=6/\F8 a.f y_2.key)/\fE a.a.L b)\/(∃y_2:ZLnk,Hd (a.hit y_2)/\((1:Int)=1/\dw a.f.key/\dw a.f.value/\dw a.f.to/\fB/\nx3 a.f (1:Int) true=6/\a.f.epoch=a.f.epoch/\dw a.f.pos/\a.f.past=a.f.past/\(0:Int)=0/\true=false/\y_2.key=ByteArray.mk #[]/\y_2.id=0/\y_2.ver=0/\y_2.line=0/\y_2.cls=0/\Yl a.f)/\fE a.a.L b)\/ ∃y_2:Unit,Hd a.miss/\((1:Int)=1/\dw a.f.key/\dw a.f.value/\dw a.f.to/\fB/\nx3 a.f (1:Int) false=6/\F7 a.f)/\fE a.a.L b
def aj6(a:ZLnk)(b:ZPs)(c:Lks):Prop:=True/\True/\cP (@Op.bytesLess (ByteArray.toList a.key) (ByteArray.toList b.f.key)) ((∃y_2:ZLnk,Hd (b.goes y_2)/\((1:Int)=1/\NC b.f y_2.key a.key)/\fE b.a.L c)\/(∃y_2:ZLnk,Hd (b.hit y_2)/\((1:Int)=1/\dw b.f.key/\dw b.f.value/\dw b.f.to/\fB/\nx3 b.f (1:Int) true=1/\b.f.epoch=b.f.epoch/\b.f.pos=a.key/\b.f.past=true/\(0:Int)=0/\true=b.f.had/\y_2.key=b.f.old.key/\y_2.id=b.f.old.id/\y_2.ver=b.f.old.ver/\y_2.line=b.f.old.line/\y_2.cls=b.f.old.cls/\Yl b.f)/\fE b.a.L c)\/ ∃y_2:Unit,Hd b.miss/\((1:Int)=1/\dw b.f.key/\dw b.f.value/\dw b.f.to/\fB/\nx3 b.f (1:Int) false=1/\Nz b.f a.key)/\fE b.a.L c) (cP (BEq.beq (ByteArray.toList a.key) (ByteArray.toList b.f.key)) (Nw a/\True/\((∃y_2:ZLnk,Hd (b.goes y_2)/\((1:Int)=1/\dw b.f.key/\dw b.f.value/\dw b.f.to/\fB/\(1:Int)=2/\b.f.epoch=b.f.epoch/\y_2.key=b.f.pos/\true=b.f.past/\(0:Int)=0/\b.f.had=true/\b.f.old.key=a.key/\b.f.old.id=a.id/\b.f.old.ver=a.ver/\b.f.old.line=a.line/\b.f.old.cls=a.cls/\b.f.line=b.f.line/\b.f.cls=b.f.cls/\b.f.piece=0/\tJ b.f)/\fE b.a.L c)\/(∃y_2:ZLnk,Hd (b.hit y_2)/\((1:Int)=1/\dw b.f.key/\dw b.f.value/\dw b.f.to/\fB/\nx3 b.f (1:Int) true=2/\b.f.epoch=b.f.epoch/\dw b.f.pos/\b.f.past=b.f.past/\(0:Int)=0/\true=true/\y_2.key=a.key/\y_2.id=a.id/\y_2.ver=a.ver/\y_2.line=a.line/\y_2.cls=a.cls/\b.f.line=b.f.line/\b.f.cls=b.f.cls/\ite ((1:Int)=1) (0:Int) b.f.piece=0/\tJ b.f)/\fE b.a.L c)\/ ∃y_2:Unit,Hd b.miss/\((1:Int)=1/\dw b.f.key/\dw b.f.value/\
 dw b.f.to/\fB/\nx3 b.f (1:Int) false=2/\b.f.epoch=b.f.epoch/\dw b.f.pos/\b.f.past=b.f.past/\(0:Int)=0/\false=true/\ByteArray.mk #[]=a.key/\0=a.id/\0=a.ver/\0=a.line/\0=a.cls/\b.f.line=b.f.line/\b.f.cls=b.f.cls/\b.f.piece=0/\tJ b.f)/\fE b.a.L c)) (ND b c))
def Ym(a:ZPs)(b:ByteArray):Prop:=(qA a.f.past/\wI a.f.pos)/\ ∃x_2:ZNk,oQ x_2.pos/\AB x_2 b a.f/\(tabA x_2.L=tabA a.a.L/\True)/\(∀y_1:Unit,AO x_2->True/\True/\ND a x_2.L)/\ ∀y_1:ZLnk,AL x_2 y_1->aj6 y_1 a x_2.L
def AP(a:ZFp):Prop:=qA a.past/\tN a.pos/\wI a.key
def Yn(a:ZPs):Prop:=AP a.f/\ ∃x_1:ByteArray,oQ x_1/\(x_1=a.f.key/\True)/\True/\ ∀y:Unit,True->Ym a x_1
def Yo(a:ZPs):Prop:=AP a.f/\ ∃x_1:ByteArray,oQ x_1/\(x_1=a.f.key/\True)/\True/\ ∀y:Unit,True->aj3 a x_1
def aj7(x:ZPs):Prop:=
 ((0:Int)<=1/\(0:Int)<=5)/\(AP x.f/\(∃x_1:ByteArray,oQ x_1/\(x_1=x.f.key/\True)/\True/\ ∀y:Unit,True->(qA x.f.past/\wI x.f.pos)/\(∃x_2:ZNk,oQ x_2.pos/\AB x_2 x_1 x.f/\(tabA x_2.L=tabA x.a.L/\True)/\(∀y_1:Unit,AO x_2->True/\True/\True/\ND x x_2.L)/\ ∀y_1:ZLnk,AL x_2 y_1->True/\aj6 y_1 x x_2.L)/\Ym x x_1)/\Yn x)/\(qA x.f.past/\tN x.f.pos/\tN x.f.key/\AV.ptr 0 0=AV.ptr 0 0/\True)/\Yn x
theorem aj8(x:ZPs):aj7 x=wpF Tryz.prog asT tt (noA x) 200 6 34 ((vJ 1).args x) (hO 2 ((vJ 1).os x)) (λv h'=>eX 2 x v h' (vJ 1).outs):=by kernel_rfl
def aj9(x:ZPs):Prop:=
 ((0:Int)<=1/\(0:Int)<=5)/\(AP x.f/\(∃x_1:ByteArray,oQ x_1/\(x_1=x.f.key/\True)/\True/\ ∀y:Unit,True->(qA x.f.past/\wI x.f.pos)/\(∃x_2:ZNk,oQ x_2.pos/\AB x_2 x_1 x.f/\(tabA x_2.L=tabA x.a.L/\True)/\(∀y_1:Unit,AO x_2->True/\True/\True/\Ny x x_2.L)/\ ∀y_1:ZLnk,AL x_2 y_1->True/\aj2 y_1 x x_2.L)/\aj3 x x_1)/\Yo x)/\(qA x.f.past/\tN x.f.pos/\tN x.f.key/\AV.ptr 0 0=AV.ptr 0 0/\True)/\Yo x
theorem akb(x:ZPs):aj9 x=wpF Tryz.prog asT tt (noA x) 200 6 34 ((vJ 2).args x) (hO 2 ((vJ 2).os x)) (λv h'=>eX 2 x v h' (vJ 2).outs):=by kernel_rfl

def pR(a:ZSto):Prop:=ownM a.b.os=ownM a.b.os/\tabA a.L=tabA a.L/\ordA a.L=ordA a.L/\ownM a.l.os=ownM a.l.os/\(Nat.beq a.n 0=Nat.beq a.n 0/\a.n=a.n/\ ∀q:Nat,q<a.n->[Value.int .i64 (ZEff.kind (a.e q)),Value.string (ZEff.key (a.e q)),Value.string (ZEff.value (a.e q)),Value.int .u64 (ZEff.id (a.e q)),Value.int .u64 (ZEff.ver (a.e q)),Value.int .u64 (ZEff.epoch (a.e q)),Value.int .i64 (ZEff.group (a.e q))]=[Value.int .i64 (ZEff.kind (a.e q)),Value.string (ZEff.key (a.e q)),Value.string (ZEff.value (a.e q)),Value.int .u64 (ZEff.id (a.e q)),Value.int .u64 (ZEff.ver (a.e q)),Value.int .u64 (ZEff.epoch (a.e q)),Value.int .i64 (ZEff.group (a.e q))])/\True
def dP:Prop:=Value.slice none 0 0=Value.slice none 0 0
def bT(a:Int):Prop:=a=a
def jl(a:ZSto):Prop:=0=0/\0=0/\0=0/\0=0/\0=0/\0=0/\0=0/\0=0/\bT a.id/\bT a.ver/\(Nat.beq a.n 0=Nat.beq a.n 0/\a.n=a.n)/\True
def cZ(a:ByteArray):Prop:=a=a
def iq(a:ZFp):Prop:=a.found=a.found/\cZ a.ans/\dP/\dP/\bT a.aep/\True
def jm:Prop:=0=0/\(1:Int)=1/\(0:Int)=0/\(0:Int)=0/\True
def wJ(a:ZFp):Prop:=dP/\(0:Int)=0/\dP/\bT a.code/\iq a
def AQ(a:ZFp):Prop:=cZ a.pos/\a.past=a.past/\(0:Int)=0/\a.had=a.had/\cZ a.old.key/\bT a.old.id/\bT a.old.ver/\bT a.old.line/\bT a.old.cls/\bT a.line/\bT a.cls/\bT a.piece/\wJ a
def NG(a:ZPs):Prop:=cZ a.f.key/\cZ a.f.value/\cZ a.f.to/\dP/\(1:Int)=7/\a.a.c.now=a.f.epoch/\cZ a.f.pos/\a.f.past=a.f.past/\(0:Int)=0/\a.f.had=a.f.had/\cZ a.f.old.key/\bT a.f.old.id/\bT a.f.old.ver/\bT a.f.old.line/\bT a.f.old.cls/\bT a.f.line/\bT a.f.cls/\bT a.f.piece/\dP/\(0:Int)=0/\dP/\a.f.code=5/\iq a.f
def nC(a:ZPool):Prop:=ownM a.os=ownM a.os
def jo(a:DevM):Prop:=ownM a.os=ownM a.os
def AU(a:ZPs):Prop:=jl a.a/\jm/\jo a.a.d/\nC a.a.p/\ownM (ZRd.os (a.a.r.put a.t a.a.r.now))=ownM a.a.r.os/\ownM (ZCk.os (ZSto.ck (a.a.vI a.t a.a.r.now)))=ownM a.a.ck.os/\pR a.a
def F9(a:ZFp):Prop:=Hd (goodP (2:Int) a.key a.value=0)
def Gf(a:ZFp):Prop:=Hd (goodP (2:Int) a.key a.value≠(0:Int))
def AX(a:ZSto):Prop:=ownM a.r.os=ownM a.r.os/\ownM a.ck.os=ownM a.ck.os/\pR a
def AY(a:ZSto):Prop:=jl a/\jm/\jo a.d/\nC a.p/\AX a
def Yp(a:ZPs):Prop:=True/\((∃y:Unit,Gf a.f/\((2:Int)=2/\cZ a.f.key/\cZ a.f.value/\cZ a.f.to/\dP/\(7:Int)=7/\bT a.f.epoch/\cZ a.f.pos/\a.f.past=a.f.past/\(0:Int)=0/\a.f.had=a.f.had/\cZ a.f.old.key/\bT a.f.old.id/\bT a.f.old.ver/\bT a.f.old.line/\bT a.f.old.cls/\bT a.f.line/\bT a.f.cls/\bT a.f.piece/\dP/\(0:Int)=0/\dP/\goodP (2:Int) a.f.key a.f.value=5/\iq a.f)/\AY a.a)\/ ∃y:Unit,F9 a.f/\((2:Int)=2/\NG a)/\AU a)
def Gg(a:ZFp):Prop:=dP/\(0:Int)=0/\dP/\a.code=1/\iq a
def NH(a:ZPs):Prop:=cZ a.f.key/\cZ a.f.value/\cZ a.f.to/\dP/\(1:Int)=7/\a.a.c.now=a.f.epoch/\cZ a.f.pos/\a.f.past=a.f.past/\(0:Int)=0/\a.f.had=a.f.had/\cZ a.f.old.key/\bT a.f.old.id/\bT a.f.old.ver/\bT a.f.old.line/\bT a.f.old.cls/\bT a.f.line/\bT a.f.cls/\bT a.f.piece/\Gg a.f
def NI(a:ZPs):Prop:=cZ a.f.key/\cZ a.f.value/\cZ a.f.to/\dP/\(1:Int)=7/\a.a.c.now=a.f.epoch/\cZ a.f.pos/\a.f.past=a.f.past/\(0:Int)=0/\a.f.had=a.f.had/\cZ a.f.old.key/\bT a.f.old.id/\bT a.f.old.ver/\bT a.f.old.line/\bT a.f.old.cls/\bT a.f.line/\bT a.f.cls/\bT a.f.piece/\dP/\(0:Int)=0/\dP/\a.f.code=7/\iq a.f
def NJ(a:ZPs)(b:ZRdT):Prop:=jl a.a/\jm/\jo a.a.d/\nC a.a.p/\ownM (ZRd.os (a.a.r.put a.t (0:Int)))=ownM (ZRd.os (b.r.put b.k (0:Int)))/\ownM (ZCk.os (ZSto.ck (a.a.vI a.t (0:Int))))=ownM a.a.ck.os/\pR a.a
def NK(a:ZPs)(b:ZRdT)(c:ZCk):Prop:=jl a.a/\jm/\jo a.a.d/\nC a.a.p/\ownM (ZRd.os (a.a.r.put a.t a.a.r.now))=ownM (ZRd.os (b.r.put b.k b.r.now))/\ownM (ZCk.os (ZSto.ck (a.a.vI a.t a.a.r.now)))=ownM c.os/\pR a.a
def Yq(a:ZSto)(b:ZPool):Prop:=jl a/\jm/\jo a.d/\ownM a.p.os=ownM b.os/\AX a
def NM(a:ZPs)(b:ZRd):Prop:=jl a.a/\jm/\jo a.a.d/\nC a.a.p/\ownM (ZRd.os (a.a.r.put a.t a.a.r.now))=ownM b.os/\ownM (ZCk.os (ZSto.ck (a.a.vI a.t a.a.r.now)))=ownM a.a.ck.os/\pR a.a
def NP(a:ZSto)(b:ZRdT)(c:ZCk):Prop:=jl a/\jm/\jo a.d/\nC a.p/\ownM a.r.os=ownM (ZRd.os (b.r.put b.k b.r.now))/\ownM a.ck.os=ownM c.os/\pR a
def wL(a:ZPs):Prop:=a.nd (2:Int)=ned ((a.f.key.size:Int)+(a.f.value.size:Int))
def NQ(a:ZSto)(b:ZRd):Prop:=jl a/\jm/\jo a.d/\nC a.p/\ownM a.r.os=ownM b.os/\ownM a.ck.os=ownM a.ck.os/\pR a
def Yr(a:ZPs)(b:Prod Nat Nat):Prop:=ownM a.a.r.os=ownM a.a.r.os/\ownM (ZCk.os (ZSto.ck (a.a.X3 (a.a.p.take (a.nd (2:Int)) b.1 b.2))))=ownM a.a.ck.os/\pR a.a
def NR(a:ZFp):Prop:=cZ a.key/\cZ a.value/\cZ a.to/\dP/\(7:Int)=7/\bT a.epoch/\AQ a
def NS(a:ZPs)(b:Int):Prop:=cZ a.f.key/\cZ a.f.value/\cZ a.f.to/\dP/\(1:Int)=1/\a.a.c.now=b/\AQ a.f
def Yt(a:ZPs)(b:Prod Nat Nat)(c:ZPool):Prop:=jl a.a/\jm/\jo a.a.d/\ownM (ZPool.os (a.a.p.take (a.nd (2:Int)) b.1 b.2))=ownM c.os/\Yr a b
def NT(a:ZPs):Prop:=Hd (∀i:Nat,i<a.a.p.n->a.a.p.cls i≠(-(1:Int))/\a.a.p.full (a.nd (2:Int)) i)
def tV(a:Nat)(b:Nat):Prop:=0=0/\(a:Int)=(b:Int)/\True
def Gh(a:ZFp):Prop:=Hd (goodP (1:Int) a.key a.value≠(0:Int))
def tX(a:ZRdT):Prop:=Hd (a.r.ok/\a.k<a.r.t)
def akc(a:lH):Prop:=Hd (spn a.c≠(0:Int)/\ ∀i:Nat,i<a.p.n->a.p.cls i≠(-(1:Int))/\a.p.full a.c i)
def Gi(a:ZFp):Prop:=Hd (goodP (1:Int) a.key a.value=0)
def akd(x:ZPs):Prop:=
 ((0:Int)<=0/\(0:Int)<=6)/\cP (BEq.beq (ByteArray.toList x.f.key) (ByteArray.toList (ByteArray.mk #[]))) (True/\((∃y:Unit,Gh x.f/\((1:Int)=1/\cZ x.f.key/\cZ x.f.value/\cZ x.f.to/\dP/\(7:Int)=7/\bT x.f.epoch/\cZ x.f.pos/\x.f.past=x.f.past/\(0:Int)=0/\x.f.had=x.f.had/\cZ x.f.old.key/\bT x.f.old.id/\bT x.f.old.ver/\bT x.f.old.line/\bT x.f.old.cls/\bT x.f.line/\bT x.f.cls/\bT x.f.piece/\dP/\(0:Int)=0/\dP/\goodP (1:Int) x.f.key x.f.value=1/\iq x.f)/\AY x.a)\/ ∃y:Unit,Gi x.f/\((1:Int)=1/\NH x)/\AU x)) (cP (decide ((x.f.key.size:Int)>(16:Int))) (True/\((∃y:Unit,Gh x.f/\((1:Int)=1/\cZ x.f.key/\cZ x.f.value/\cZ x.f.to/\dP/\(7:Int)=7/\bT x.f.epoch/\cZ x.f.pos/\x.f.past=x.f.past/\(0:Int)=0/\x.f.had=x.f.had/\cZ x.f.old.key/\bT x.f.old.id/\bT x.f.old.ver/\bT x.f.old.line/\bT x.f.old.cls/\bT x.f.line/\bT x.f.cls/\bT x.f.piece/\dP/\(0:Int)=0/\dP/\goodP (1:Int) x.f.key x.f.value=5/\iq x.f)/\AY x.a)\/ ∃y:Unit,Gi x.f/\((1:Int)=1/\NG x)/\AU x)) (∃x_1:ZRdT,tX x_1/\tV x_1.k x.t/\(ownM x_1.r.os=ownM x.a.r.os/\True)/\(∀y:Unit,Hd (x_1.r.has x_1.k=0)-> ∃x_2:ZCk,Hd (x_2.ph<=4/\x_2.c.ok)/\(0=0/\True)/\(ownM x_2.os=ownM x.a.ck.os/\True)/\ ∀y_1:Unit,True->True/\((∃y_2:Unit,Gh x.f/\((1:Int)=1/\cZ x.f.key/\cZ x.f.value/\cZ x.f.to/\dP/\(7:Int)=1/\x.f.epoch=x_2.c.now/\cZ x.f.pos/\x.f.past=x.f.past/\(0:Int)=0/\x.f.had=x.f.had/\
 cZ x.f.old.key/\bT x.f.old.id/\bT x.f.old.ver/\bT x.f.old.line/\bT x.f.old.cls/\bT x.f.line/\bT x.f.cls/\bT x.f.piece/\dP/\(0:Int)=0/\dP/\goodP (1:Int) x.f.key x.f.value=x.f.code/\iq x.f)/\NP x.a x_1 x_2)\/ ∃y_2:Unit,Gi x.f/\((1:Int)=1/\NS x x_2.c.now)/\NK x x_1 x_2))/\ ∀y:Unit,Hd (x_1.r.has x_1.k≠(0:Int))->True/\((∃y_1:Unit,Gh x.f/\((1:Int)=1/\cZ x.f.key/\cZ x.f.value/\cZ x.f.to/\dP/\(7:Int)=7/\bT x.f.epoch/\cZ x.f.pos/\x.f.past=x.f.past/\(0:Int)=0/\x.f.had=x.f.had/\cZ x.f.old.key/\bT x.f.old.id/\bT x.f.old.ver/\bT x.f.old.line/\bT x.f.old.cls/\bT x.f.line/\bT x.f.cls/\bT x.f.piece/\dP/\(0:Int)=0/\dP/\goodP (1:Int) x.f.key x.f.value=7/\iq x.f)/\NQ x.a x_1.r)\/ ∃y_1:Unit,Gi x.f/\((1:Int)=1/\NI x)/\NM x x_1.r)))
theorem ake(x:ZPs):akd x=wpF Tryz.prog asR tt (noA x) 200 6 34 ((qx 1).args x) (hO 11 (flatP 1 ((qx 1).l x))) (λv h'=>endsPK 1 x v h' (qx 1).outs):=by kernel_rfl
def akf(x:ZPs):Prop:=
 ((0:Int)<=0/\(0:Int)<=6)/\cP (BEq.beq (ByteArray.toList x.f.key) (ByteArray.toList (ByteArray.mk #[]))) (True/\((∃y:Unit,Gf x.f/\((2:Int)=2/\cZ x.f.key/\cZ x.f.value/\cZ x.f.to/\dP/\(7:Int)=7/\bT x.f.epoch/\cZ x.f.pos/\x.f.past=x.f.past/\(0:Int)=0/\x.f.had=x.f.had/\cZ x.f.old.key/\bT x.f.old.id/\bT x.f.old.ver/\bT x.f.old.line/\bT x.f.old.cls/\bT x.f.line/\bT x.f.cls/\bT x.f.piece/\dP/\(0:Int)=0/\dP/\goodP (2:Int) x.f.key x.f.value=1/\iq x.f)/\AY x.a)\/ ∃y:Unit,F9 x.f/\((2:Int)=2/\NH x)/\AU x)) (cP (decide ((x.f.key.size:Int)>(16:Int))) (Yp x) (cP (decide ((x.f.value.size:Int)>(400:Int))) (Yp x) (∃x_1:ZRdT,tX x_1/\tV x_1.k x.t/\(ownM x_1.r.os=ownM x.a.r.os/\True)/\(∀y:Unit,Hd (x_1.r.has x_1.k=0)-> ∃x_2:ZCk,Hd (x_2.ph<=4/\x_2.c.ok)/\(0=0/\True)/\(ownM x_2.os=ownM x.a.ck.os/\True)/\ ∀y_1:Unit,True->True/\((∃y_2:Unit,Gf x.f/\((2:Int)=2/\cZ x.f.key/\cZ x.f.value/\cZ x.f.to/\dP/\(7:Int)=1/\x.f.epoch=x_2.c.now/\cZ x.f.pos/\x.f.past=x.f.past/\(0:Int)=0/\x.f.had=x.f.had/\cZ x.f.old.key/\bT x.f.old.id/\bT x.f.old.ver/\bT x.f.old.line/\bT x.f.old.cls/\bT x.f.line/\bT x.f.cls/\bT x.f.piece/\dP/\(0:Int)=0/\dP/\goodP (2:Int) x.f.key x.f.value=x.f.code/\iq x.f)/\NP x.a x_1 x_2)\/ ∃y_2:Unit,F9 x.f/\((2:Int)=2/\NS x x_2.c.now)/\NK x x_1 x_2))/\ ∀y:Unit,Hd (x_1.r.has x_1.k≠(0:Int))->True/\((∃y_1:Unit,Gf x.f/\((2:Int)=2/\cZ x.f.key/\
 cZ x.f.value/\cZ x.f.to/\dP/\(7:Int)=7/\bT x.f.epoch/\cZ x.f.pos/\x.f.past=x.f.past/\(0:Int)=0/\x.f.had=x.f.had/\cZ x.f.old.key/\bT x.f.old.id/\bT x.f.old.ver/\bT x.f.old.line/\bT x.f.old.cls/\bT x.f.line/\bT x.f.cls/\bT x.f.piece/\dP/\(0:Int)=0/\dP/\goodP (2:Int) x.f.key x.f.value=7/\iq x.f)/\NQ x.a x_1.r)\/ ∃y_1:Unit,F9 x.f/\((2:Int)=2/\NI x)/\NM x x_1.r))))
theorem akg(x:ZPs):akf x=wpF Tryz.prog asR tt (noA x) 200 6 34 ((qx 2).args x) (hO 11 (flatP 1 ((qx 2).l x))) (λv h'=>endsPK 1 x v h' (qx 2).outs):=by kernel_rfl
def akh(x:ZPs):Prop:=
 ((0:Int)<=3/\(0:Int)<=3)/\I64 ((x.f.key.size:Int)+(x.f.value.size:Int))/\(AV.ptr 0 0=AV.ptr 0 0/\True)/\ ∃x_1:lH,Hd x_1.p.ok/\(0=0/\x_1.c=ned ((x.f.key.size:Int)+(x.f.value.size:Int))/\True)/\(ownM x_1.p.os=ownM x.a.p.os/\True)/\(∀y:Unit,Hd (spn x_1.c=0)->True/\((∃y_1:Unit,NT x/\((2:Int)=2/\cZ x.f.key/\cZ x.f.value/\cZ x.f.to/\dP/\(6:Int)=6/\bT x.f.epoch/\cZ x.f.pos/\x.f.past=x.f.past/\(0:Int)=0/\x.f.had=x.f.had/\cZ x.f.old.key/\bT x.f.old.id/\bT x.f.old.ver/\bT x.f.old.line/\bT x.f.old.cls/\bT x.f.line/\wL x/\bT x.f.piece/\dP/\(0:Int)=0/\dP/\(4:Int)=1/\iq x.f)/\Yq x.a x_1.p)\/ ∃y_1:Prod Nat Nat,Hd (x.a.p.takes (x.nd (2:Int)) y_1.1 y_1.2)/\((2:Int)=2/\cZ x.f.key/\cZ x.f.value/\cZ x.f.to/\dP/\(4:Int)=6/\bT x.f.epoch/\cZ x.f.pos/\x.f.past=x.f.past/\(0:Int)=0/\x.f.had=x.f.had/\cZ x.f.old.key/\bT x.f.old.id/\bT x.f.old.ver/\bT x.f.old.line/\bT x.f.old.cls/\2+(y_1.1:Int)*8+(y_1.2:Int)*spn (x.nd (2:Int))=x.f.line/\wL x/\0=x.f.piece/\Gg x.f)/\Yt x y_1 x_1.p))/\(∀y:Unit,akc x_1->True/\((∃y_1:Unit,NT x/\((2:Int)=2/\cZ x.f.key/\cZ x.f.value/\cZ x.f.to/\dP/\(6:Int)=6/\bT x.f.epoch/\cZ x.f.pos/\x.f.past=x.f.past/\(0:Int)=0/\x.f.had=x.f.had/\cZ x.f.old.key/\bT x.f.old.id/\bT x.f.old.ver/\bT x.f.old.line/\bT x.f.old.cls/\bT x.f.line/\wL x/\bT x.f.piece/\dP/\(0:Int)=0/\dP/\(4:Int)=4/\iq x.f)/\
 Yq x.a x_1.p)\/ ∃y_1:Prod Nat Nat,Hd (x.a.p.takes (x.nd (2:Int)) y_1.1 y_1.2)/\((2:Int)=2/\cZ x.f.key/\cZ x.f.value/\cZ x.f.to/\dP/\(4:Int)=6/\bT x.f.epoch/\cZ x.f.pos/\x.f.past=x.f.past/\(0:Int)=0/\x.f.had=x.f.had/\cZ x.f.old.key/\bT x.f.old.id/\bT x.f.old.ver/\bT x.f.old.line/\bT x.f.old.cls/\2+(y_1.1:Int)*8+(y_1.2:Int)*spn (x.nd (2:Int))=x.f.line/\wL x/\0=x.f.piece/\dP/\(0:Int)=0/\dP/\x.f.code=4/\iq x.f)/\Yt x y_1 x_1.p))/\ ∀y:Prod Nat Nat,Hd (spn x_1.c≠(0:Int)/\x_1.p.takes x_1.c y.1 y.2)->True/\((∃y_1:Unit,NT x/\((2:Int)=2/\cZ x.f.key/\cZ x.f.value/\cZ x.f.to/\dP/\(6:Int)=4/\bT x.f.epoch/\cZ x.f.pos/\x.f.past=x.f.past/\(0:Int)=0/\x.f.had=x.f.had/\cZ x.f.old.key/\bT x.f.old.id/\bT x.f.old.ver/\bT x.f.old.line/\bT x.f.old.cls/\x.f.line=2+(y.1:Int)*8+(y.2:Int)*spn x_1.c/\wL x/\x.f.piece=0/\dP/\(0:Int)=0/\dP/\4=x.f.code/\iq x.f)/\jl x.a/\jm/\jo x.a.d/\ownM x.a.p.os=ownM (ZPool.os (x_1.p.take x_1.c y.1 y.2))/\AX x.a)\/ ∃y_1:Prod Nat Nat,Hd (x.a.p.takes (x.nd (2:Int)) y_1.1 y_1.2)/\((2:Int)=2/\cZ x.f.key/\cZ x.f.value/\cZ x.f.to/\dP/\(4:Int)=4/\bT x.f.epoch/\cZ x.f.pos/\x.f.past=x.f.past/\(0:Int)=0/\x.f.had=x.f.had/\cZ x.f.old.key/\bT x.f.old.id/\bT x.f.old.ver/\bT x.f.old.line/\bT x.f.old.cls/\2+(y_1.1:Int)*8+(y_1.2:Int)*spn (x.nd (2:Int))=2+(y.1:Int)*8+(y.2:Int)*spn x_1.c/\wL x/\(0:Int)=0/\wJ x.f)/\
 jl x.a/\jm/\jo x.a.d/\ownM (ZPool.os (x.a.p.take (x.nd (2:Int)) y_1.1 y_1.2))=ownM (ZPool.os (x_1.p.take x_1.c y.1 y.2))/\Yr x y_1)
theorem aki(x:ZPs):akh x=wpF Tryz.prog avm tt (noA x) 200 6 34 ((Tj 2).args x) (hO 11 (flatP 1 ((Tj 2).l x))) (λv h'=>endsPK 1 x v h' (Tj 2).outs):=by kernel_rfl
def akj(x:ZPs):Prop:=
 ((0:Int)<=6/\(0:Int)<=0)/\ ∃x_1:ZRdT,tX x_1/\tV x_1.k x.t/\(ownM x_1.r.os=ownM x.a.r.os/\True)/\ ∀y:Unit,True->True/\ ∃y_1:Unit,True/\((1:Int)=1/\NR x.f)/\NJ x x_1
theorem akk(x:ZPs):akj x=wpF Tryz.prog ar5 tt (noA x) 200 6 34 ((oP 1).args x) (hO 11 (flatP 1 ((oP 1).l x))) (λv h'=>endsPK 1 x v h' (oP 1).outs):=by kernel_rfl
def akl(x:ZPs):Prop:=
 ((0:Int)<=6/\(0:Int)<=0)/\ ∃x_1:ZRdT,tX x_1/\tV x_1.k x.t/\(ownM x_1.r.os=ownM x.a.r.os/\True)/\ ∀y:Unit,True->True/\ ∃y_1:Unit,True/\((2:Int)=2/\NR x.f)/\NJ x x_1
theorem akm(x:ZPs):akl x=wpF Tryz.prog ar5 tt (noA x) 200 6 34 ((oP 2).args x) (hO 11 (flatP 1 ((oP 2).l x))) (λv h'=>endsPK 1 x v h' (oP 2).outs):=by kernel_rfl
end Go.Proofs.YtenfleoejgjklaaGreat
end
