import Derived.Test.YtenfleoejgjklaaGreatKa
import Derived.WalkKit
import Derived.ProofKit
import Derived.OpenShut
import Derived.Below
import Derived.Carry
import Derived.MapKept
set_option linter.unusedVariables false
set_option linter.unusedSimpArgs false
set_option linter.unnecessarySimpa false
section
namespace Go.Proofs.YtenfleoejgjklaaGreat.SE
open Go
section
variable{P:Program}{tt:TT}{k n:Nat}{ops:Array Oper}{Q:Fr->Heap->Prop}{fr:Fr}{h:Heap}
end
def flat{α:Type}(f:α->List Value)(l:List α):List Value:=l.flatMap f
section
variable{α:Type}{f:α->List Value}{m:Nat}(hf: ∀a,(f a).length=m)
include hf
theorem flat_length(l:List α):(flat f l).length=l.length*m:=by
 induction l with
 |nil=>simp[flat]
 |cons a l ih=>
  have:flat f (a::l)=f a++flat f l:=rfl;rw[this,List.length_append,ih,hf,List.length_cons,Nat.add_mul];omega
theorem O7: ∀(l:List α) (i:Nat),(flat f l).drop (i*m)=flat f (l.drop i)
 |l,0=>by simp
 |[],i+1=>by simp[flat]
 |a::l,i+1=>by
  have:flat f (a::l)=f a++flat f l:=rfl;rw[this,List.drop_append,hf,List.drop_eq_nil_of_le (by rw[hf,Nat.add_mul];omega),List.nil_append,List.drop_succ_cons];rw[show(i+1)*m-m=i*m by rw[Nat.add_mul];omega];exact O7 l i
theorem flat_get(l:List α)(i j:Nat)(a:α)(hi:l[i]? =some a)(hj:j<m):(flat f l)[i*m+j]? =(f a)[j]? :=by
 have h1:(flat f l)[i*m+j]? =((flat f l).drop (i*m))[j]? :=by rw[List.getElem?_drop]
 rw[h1,O7 hf];have h2:l.drop i=a::l.drop (i+1):=by
  obtain⟨hlt,ha⟩:=List.getElem?_eq_some_iff.1 hi;rw[<-ha];exact List.drop_eq_getElem_cons hlt
 rw[h2];have h3:flat f (a::l.drop (i+1))=f a++flat f (l.drop (i+1)):=rfl;rw[h3,List.getElem?_append_left (by rw[hf];exact hj)]
end
def fA:dF->Bool
 | .cells .. =>true
 | .room .. =>true
 |_=>false
def O8(Φ:Heap->Prop):Own:={
 holds w a S:= ∃h ρ,Φ h/\0<h.next/\(∀i o,h.get i=some o->jX o=false)/\ρ 0=some a/\apb h ρ S w
 stays w w' a S:=by
  rintro ⟨h,ρ,hΦ,h0,hro,ha,T,h1,h2,h3,h4⟩ hw
  have key: ∀i o,h.get i=some o-> ∀b,T i b->w'.heap[b]? =w.heap[b]? :=λi o hi b hb=>hw b (h3 i o b hi hb).1
  refine⟨h,ρ,hΦ,h0,hro,ha,T,λi o hi=> ?_,h2,λi o b hi hb=>⟨(h3 i o b hi hb).1,?_⟩,h4⟩
  ·obtain⟨x,hx,hh⟩:=h1 i o hi
   exact⟨x,hx,hh.owned (hro i o hi) (key i o hi)⟩
  ·have hlt:=(h3 i o b hi hb).2
   have:=key i o hi b hb;rw[Array.getElem?_eq_getElem hlt]at this
   exact(Array.getElem?_eq_some_iff.1 this).1}
def Leq(k:Nat)(v:AV)(h:Heap)(v':AV)(h':Heap):Prop:=
 k<=h'.next/\ ∀ρ T w u,Rel h ρ T w->bF ρ v u-> ∃ρ',(∀i,i<k->ρ' i=ρ i)/\Rel h' ρ' T w/\bF ρ' v' u
theorem Leq.trans{k:Nat}{v v' v'':AV}{h h' h'':Heap}(a:Leq k v h v' h')(b:Leq k v' h' v'' h''):Leq k v h v'' h'':=
 ⟨b.1,λρ T w u hR hv=>by
  obtain⟨ρ',h1,h2,h3⟩:=a.2 ρ T w u hR hv;obtain⟨ρ'',g1,g2,g3⟩:=b.2 ρ' T w u h2 h3
  exact⟨ρ'',λi hi=>(g1 i hi).trans (h1 i hi),g2,g3⟩⟩
theorem Bh{P:Program}{f:FuncId}{args:List AV}{h:Heap}{K:AV->Heap->Prop}(hs:Sp P f args h (λv h'=> ∃v' h'',Leq h.next v h' v' h''/\K v' h'')):Sp P f args h K:=by
 refine⟨hs.1,λρ T w vs hR hl=>(hs.2 ρ T w vs hR hl).mono ?_⟩
 rintro e w' ⟨ρ',v,u,h',c1,c2,c3,c4,c5,c6,v',h'',hq,hK⟩
 obtain⟨ρ2,g1,g2,g3⟩:=hq.2 ρ' T w' u c3 c4;exact⟨ρ2,v',u,h'',λi hi=>(g1 i hi).trans (c1 i hi),hq.1,g2,g3,c5,c6,hK⟩
theorem Rel.sub{h h':Heap}{ρ:Ren}{T:Nat->Prop}{w:World}(hR:Rel h ρ T w)(τ:Nat->Nat)
  (hinj: ∀i j,i<h'.next->j<h'.next->τ i=τ j->i=j) (aly: ∀i o0,h'.get i=some o0->i<h'.next/\ ∃o,h.get (τ i)=some o/\Soft τ h'.next o0 o):
  Rel h' (λi=>if i<h'.next then ρ (τ i)else none) T w:=by
 obtain⟨S,h1,h2,h3,h4,h5⟩:=hR;have hρ: ∀i,i<h'.next->(λi=>if i<h'.next then ρ (τ i)else none) i=ρ (τ i):=λi hi=>by simp[hi]
 refine⟨λi=>S (τ i),λi o0 hi=> ?_,λi j o o' b hi hj hij hSi hSj=> ?_,λi o0 b hi hS=> ?_,λi hi=>by simp;omega,h5⟩
 ·obtain⟨hlt,o,ho,JJ⟩:=aly i o0 hi
  obtain⟨x,hx,hh⟩:=h1 _ o ho;exact⟨x,by rw[hρ i hlt];exact hx,JJ ρ _ w T x _ hρ hh⟩
 ·obtain⟨hlt,x,hx,_⟩:=aly i o hi
  obtain⟨hlt',y,hy,_⟩:=aly j o' hj;exact h2 _ _ x y b hx hy (λhe=>hij (hinj i j hlt hlt' he)) hSi hSj
 ·obtain⟨hlt,x,hx,_⟩:=aly i o0 hi
  exact h3 _ x b hx hS
theorem Rel.close{h hc h0:Heap}{ρ:Ren}{T:Nat->Prop}{w:World}{Φ:Heap->Prop}{τ:Nat->Nat}(hR:Rel h ρ T w)(hΦ:Φ h0)(h00:0<h0.next)
  (hfit: ∀i o0,h0.get i=some o0->i<h0.next/\oW h0.next o0=true/\jX o0=false/\h.get (τ i)=some (omap τ o0)) (hinj: ∀i j,i<h0.next->j<h0.next->τ i=τ j->i=j)
  (hex: ∃o,h.get (τ 0)=some o) (hn:hc.next=h.next)
  (hg: ∀j o,hc.get j=some o->(j=τ 0/\o= .abs (O8 Φ))\/(h.get j=some o/\ ∀i,i<h0.next->τ i≠j)):Rel hc ρ T w:=by
 obtain⟨S,h1,h2,h3,h4,h5⟩:=hR;obtain⟨o00,ho00⟩:=hex;obtain⟨a,ha,_⟩:=h1 _ _ ho00;have hpart:=Rel.part (h0:=h0) (τ:=τ) h1 h2 h3 hinj (λi o0 hi=>⟨(hfit i o0 hi).1,(hfit i o0 hi).2.1,_,(hfit i o0 hi).2.2.2,.inl rfl⟩);let T0:Nat->Prop:=λb=> ∃i o0,h0.get i=some o0/\jX o0=false/\S (τ i) b
 have hT0: ∀b,T0 b-> ∃i o,i<h0.next/\h.get (τ i)=some o/\S (τ i) b:=by
  rintro b ⟨i,o0,hi,_,hS⟩
  exact⟨i,_,(hfit i o0 hi).1,(hfit i o0 hi).2.2.2,hS⟩
 refine⟨λj b=>(j=τ 0/\T0 b)\/((∀i,i<h0.next->τ i≠j)/\S j b),λj o hj=> ?_,λi j o o' b hi hj hij hSi hSj=> ?_,λj o b hj hS=> ?_,λj hj=>h4 j (by omega),h5⟩
 ·rcases hg j o hj with ⟨rfl,rfl⟩|⟨hjo,hne⟩
  ·refine⟨a,ha,?_⟩
   have he:(λb=>(τ 0=τ 0/\T0 b)\/((∀i,i<h0.next->τ i≠τ 0)/\S (τ 0) b))=T0:=by
    funext b;apply propext;constructor
    ·rintro (⟨_,h⟩|⟨h,_⟩)
     ·exact h
     ·exact(h 0 h00 rfl).elim
    ·intro h;exact .inl ⟨rfl,h⟩
   show(O8 Φ).holds w a (λb=>(τ 0=τ 0/\T0 b)\/((∀i,i<h0.next->τ i≠τ 0)/\S (τ 0) b));rw[he];exact⟨h0,_,hΦ,h00,λi o hi=>(hfit i o hi).2.2.1,by simp[h00,ha],hpart⟩
  ·obtain⟨x,hx,hh⟩:=h1 j o hjo
   refine⟨x,hx,?_⟩;have he:(λb=>(j=τ 0/\T0 b)\/((∀i,i<h0.next->τ i≠j)/\S j b))=S j:=by
    funext b;apply propext;constructor
    ·rintro (⟨h,_⟩|⟨_,h⟩)
     ·exact(hne 0 h00 h.symm).elim
     ·exact h
    ·intro h;exact .inr ⟨hne,h⟩
   show dI ρ w T x (λb=>(j=τ 0/\T0 b)\/((∀i,i<h0.next->τ i≠j)/\S j b)) o;rw[he];exact hh
 ·have one: ∀i j o',(∀x,hc.get i=some x->True)->i=τ 0->hc.get j=some o'->i≠j->T0 b->((j=τ 0/\T0 b)\/((∀i,i<h0.next->τ i≠j)/\S j b))->False:=by
   intro i j o' _ hi0 hj hij hT hS;rcases hS with ⟨h,_⟩|⟨hne,hS⟩
   ·exact hij (hi0.trans h.symm)
   ·rcases hg j o' hj with ⟨h,_⟩|⟨hjo,_⟩
    ·exact hij (hi0.trans h.symm)
    ·obtain⟨q,oq,hq,hoq,hSq⟩:=hT0 b hT
     exact h2 _ _ _ _ b hoq hjo (hne q hq) hSq hS
  rcases hSi with ⟨hi0,hT⟩|⟨hne,hS⟩
  ·exact one i j o' (λ_ _=>trivial) hi0 hj hij hT hSj
  ·rcases hSj with ⟨hj0,hT⟩|⟨hne',hS'⟩
   ·exact one j i o (λ_ _=>trivial) hj0 hi (Ne.symm hij) hT (.inr ⟨hne,hS⟩)
   ·rcases hg i o hi with ⟨h,_⟩|⟨hio,_⟩
    ·exact(hne 0 h00 h.symm).elim
    ·rcases hg j o' hj with ⟨h,_⟩|⟨hjo,_⟩
     ·exact(hne' 0 h00 h.symm).elim
     ·exact h2 i j o o' b hio hjo hij hS hS'
 ·rcases hS with ⟨_,hT⟩|⟨hne,hS⟩
  ·obtain⟨i,o',_,ho',hSi⟩:=hT0 b hT
   exact h3 _ o' b ho' hSi
  ·rcases hg j o hj with ⟨h,_⟩|⟨hjo,_⟩
   ·exact(hne 0 h00 h.symm).elim
   ·exact h3 j o b hjo hS
def fZ(l:List Nat)(h:Heap):Heap:=match l with
 |[]=>h
 |i::l=>fZ l (h.drop i)
def qU(Φ:Heap->Prop)(ids:List Nat)(h:Heap):Heap:=(fZ ids h).set (atL ids 0) (.abs (O8 Φ))
theorem O9: ∀(l:List Nat) (h:Heap) (j:Nat) (o:dF),(fZ l h).get j=some o->h.get j=some o/\j ∉ l
 |[],h,j,o,hg=>⟨hg,by simp⟩
 |i::l,h,j,o,hg=>by
  obtain⟨h1,h2⟩:=O9 l (h.drop i) j o hg;rw[Heap.fD]at h1;split at h1
  ·cases h1
  ·rename_i hji;exact⟨h1,by simp[hji,h2]⟩
theorem zk: ∀(l:List Nat) (h:Heap),(fZ l h).next=h.next
 |[],_=>rfl
 |i::l,h=>by simp[fZ,zk l]
def DJ(τ:Nat->Nat)(n:Nat)(h:Heap):Nat->List dF->Prop
 |_,[]=>True
 |i,o::os=>(oW n o=true/\jX o=false/\h.get (τ i)=some (omap τ o))/\DJ τ n h (i+1) os
theorem DJ.get{τ:Nat->Nat}{n:Nat}{h:Heap}: ∀{os:List dF} {i:Nat},DJ τ n h i os-> ∀j o,os[j]? =some o->oW n o=true/\jX o=false/\h.get (τ (i+j))=some (omap τ o)
 |[],_,_,j,o,hj=>by simp at hj
 |x::os,i,hs,0,o,hj=>by simp at hj;subst hj;exact hs.1
 |x::os,i,hs,j+1,o,hj=>by
  have:=hs.2.get j o (by simpa using hj);rw[show i+(j+1)=i+1+j by omega];exact this
theorem afj{k:Nat}{v:AV}{h:Heap}{Φ:Heap->Prop}(m:Nat)(ids:List Nat)(os:List dF)(hm:os.length=m)(h0:Nat.blt 0 m=true)(atX:GN 0 ids m=true)(hk:k<=h.next)(hΦ:Φ (hO m os))(hfit:DJ (atL ids) m h 0 os):
  Leq k v h v (qU Φ ids h):=by
 subst hm;obtain⟨_,_,h3⟩:=Ig atX;have hlen:ids.length=os.length:=by simp only[GN,aJ]at atX;exact au atX.1.1.1
 have hpos:0<os.length:=bg.1 h0;have hn:(qU Φ ids h).next=h.next:=by simp[qU,zk]
 refine⟨by rw[hn];exact hk,λρ T w u hR hv=>⟨ρ,λ_ _=>rfl,?_,hv⟩⟩;refine hR.close (h0:=hOf os) (τ:=atL ids) hΦ hpos (λi o0 hi=> ?_) h3 ?_ hn (λj o hj=> ?_)
 ·rw[dX]at hi
  have:=hfit.get i o0 hi;rw[aA]at this;exact⟨(List.getElem?_eq_some_iff.1 hi).1,this⟩
 ·obtain⟨o,ho⟩: ∃o,os[0]? =some o:=⟨os[0],by simp[hpos]⟩
  have:=(hfit.get 0 o ho).2.2;exact⟨_,this⟩
 ·unfold qU at hj
  rw[Heap.dR]at hj;split at hj
  ·rename_i hj0;cases hj;exact .inl ⟨hj0,rfl⟩
  ·obtain⟨g1,g2⟩:=O9 ids h j o hj
   refine .inr ⟨g1,λi hi he=>g2 ?_⟩;have hi':i<ids.length:=by rw[hlen];exact hi
   rw[<-he];simp only[atL,List.getD_eq_getElem?_getD,List.getElem?_eq_getElem hi',Option.getD_some];exact List.getElem_mem hi'
theorem JK(a b:Nat):(a:Int).tmod (b:Int)=((a%b:Nat):Int):=(Int.ofNat_tmod a b).symm
theorem alz{a:Nat}(h:a<2^62):IntKind.i64.wrap (a:Int)=(a:Int):=wrap_i64 (by omega) (by omega)
section
variable{P:Program}{tt:TT}{k n:Nat}{ops:Array Oper}{Q:Fr->Heap->Prop}{fr:Fr}{h:Heap}
end
abbrev RunFn:=FuncId->List AV->Heap->Option (AV×Heap)
def isDone:Exit->Bool
 | .normal=>true
 | .ret=>true
 |_=>false
section
variable{P:Program}{tt:TT}{k n:Nat}{call:RunFn}
end
end Go.Proofs.YtenfleoejgjklaaGreat.SE
end
section
namespace Go.Proofs.YtenfleoejgjklaaGreat.SE
open Go
open Go.ChangeShapes Go.WideShapes Go.ChangeAt Go.RowKit
theorem Keeps.below{W w':World}(h:Keeps (λb=>W.heap.size<=b) W w'):Below W.heap.size W w':=⟨h.os,h.tape,h.output,h.size,λk hk=>h.block k (by omega)⟩
def qV(P:Program)(ts:List TypeId):Bool:=ts.all λt=>P.readableRec t&&decide (t<P.types.size)
theorem xJ{H:Type}{enc:TypeId×Value->H}{P:Program}(hl:laidOutB P=true){W W':World}(hb:Below W.heap.size W W'): ∀{ts:List TypeId} {vs:List Value} {ds:List (DataW H)} {ps:List MemPlace},qV P ts=true->
  DataW.TrodAll enc P W 0 (λ_=>true) true ts vs ds ps->(∀x∈ps,x.block<W.heap.size)->DataW.TrodAll enc P W' 0 (λb=>decide (b<W.heap.size)) true ts vs ds ps
 |[],_,_,_,_,h,_=>by
  obtain⟨rfl,rfl,rfl⟩:=trodAll_nil h;exact trodAll_mk0
 |t::ts,_,_,_,hr,h,hlt=>by
  obtain⟨v,vs1,d,ds1,a,b,rfl,rfl,rfl,h1,h2⟩:=trodAll_cons h;simp only[qV,List.all_cons,aJ,decide_eq_true_eq]at hr;refine⟨a,b,Below.trod hl hr.1.1 hr.1.2 h1 hb (λx hx=>hlt x (by simp[hx])),xJ hl hb (by simpa[qV]using hr.2) h2 (λx hx=>hlt x (by simp[hx])),rfl⟩
theorem afk{H:Type}{enc:TypeId×Value->H}{P:Program}{f:Func}{s:ChangeSpec}{apart handsOn:Bool}{W W':World}{args:Array Value}{ds gs:List (DataW H)}{before:List MemPlace}{tb:TypeId}
  (hl:laidOutB P=true) (hr:qV P f.params.toList=true) (hW:DataW.Whole enc P f.params.toList s.vars apart W args.toList ds gs before) (hb:Below W.heap.size W W') (hvars:s.vars=[])
  (hrt:f.resultTypes= #[tb]) (ht:P.underlying tb=some .bool) (h1:(s.fn H (ds++gs)).results=[.lit (.bool true)]) (h2:(s.fn H (ds++gs)).args=ds) (h3:(s.fn H (ds++gs)).vars=[]):
  s.post enc P f apart true handsOn false W args (.bool true) W':=by
 have hlt:=hW.lt;obtain⟨p,q,hA,hV,hpq,hfz,hnd⟩:=hW;refine⟨ds,gs,before,[],p,[],⟨p,q,hA,hV,hpq,hfz,hnd⟩,?_,?_,?_,hb.frame _,λh=>by cases h⟩
 ·rw[h1,hrt]
  exact trodAll_cons_mk (shut_bool ht _) trodAll_mk0
 ·rw[h2]
  exact xJ hl hb hr hA (λx hx=>hlt x (by rw[hpq];simp[hx]))
 ·rw[h3,hvars];rfl
end Go.Proofs.YtenfleoejgjklaaGreat.SE
end
section
namespace Go.Proofs.YtenfleoejgjklaaGreat.SE
open Go
theorem mapM_some{α β:Type}{f:α->Option β}: ∀{l:List α} {r:List β},l.mapM f=some r-> ∀x∈l,∃y,f x=some y
 |[],_,_,x,hx=>by simp at hx
 |a::l,r,h,x,hx=>by
  simp only[List.mapM_cons,Option.bind_eq_bind,Option.bind_eq_some_iff]at h;obtain⟨y,hy,ys,hys,_⟩:=h;rcases List.mem_cons.1 hx with rfl|hx
  ·exact⟨y,hy⟩
  ·exact mapM_some hys x hx
section
variable{H:Type}{enc:TypeId×Value->H}{P:Program}{w:World}{base:Nat}{spare:Nat->Bool}{held:Bool}{fuel:Nat}{t:TypeId}{cs:List Value}{x:DataW H×List MemPlace}
theorem trod_slice{e:TypeId}(ht:P.underlying t=some (.slice e))(h:DataW.trod enc P w base spare held fuel t cs=some x):
  cs=[.slice none 0 0]\/ ∃a len cap,cs=[.slice (some a) len cap]/\len<=cap/\cap<=maxLen/\
   ∀i,i<len-> ∃cs' fuel' y,w.cells? base (a.add (i*P.cellsOf e)) (P.cellsOf e)=some cs'/\DataW.trod enc P w base spare held fuel' e cs'=some y:=by
 cases fuel with
 |zero=>simp[DataW.trod]at h
 |succ fuel=>
  unfold DataW.trod at h;simp only[ht]at h;split at h<;>try (rename_i hh;cases hh)
  all_goals try (exact .inl rfl)
  all_goals try (cases h;done)
  all_goals
   rename_i a len cap;split at h
   ·rename_i hh
    refine .inr ⟨a,len,cap,rfl,hh.2.1,hh.2.2,λi hi=> ?_⟩;simp only[Option.bind_eq_some_iff]at h;obtain⟨elems,he,_⟩:=h;obtain⟨y,hy⟩:=mapM_some he i (List.mem_range.2 hi);simp only[Option.bind_eq_some_iff]at hy;obtain⟨cs',h1,h2⟩:=hy;exact⟨cs',fuel,y,h1,h2⟩
   ·cases h
theorem afl{a:Addr}{n:Nat}{l:List Value}(h:w.cells? base a n=some l):l.length=n/\ ∀i,i<n-> ∃v,l[i]? =some v/\w.cell? (a.add i)=some v:=by
 unfold World.cells? at h;split at h
 ·have key: ∀(xs:List Nat) (l:List Value),xs.mapM (λi=>w.cell? (a.add i))=some l->l.length=xs.length/\ ∀(k i:Nat),xs[k]? =some i-> ∃v:Value,l[k]? =some v/\w.cell? (a.add i)=some v:=by
   intro xs
   induction xs with
   |nil=>intro l hl;simp at hl;subst hl;simp
   |cons x xs ih=>
    intro l hl;simp only[List.mapM_cons,Option.bind_eq_bind,Option.bind_eq_some_iff]at hl;obtain⟨y,hy,ys,hys,hl⟩:=hl;simp only[Option.pure_def,ak]at hl;subst hl;obtain⟨h1,h2⟩:=ih ys hys;refine⟨by simp[h1],λk i hk=> ?_⟩;cases k with
    |zero=>simp at hk;subst hk;exact⟨y,by simp,hy⟩
    |succ k=>simpa using h2 k i (by simpa using hk)
  obtain⟨h1,h2⟩:=key _ _ h;exact⟨by simpa using h1,λi hi=>h2 i i (by simp[hi])⟩
 ·cases h
end
theorem alA{w:World}{b off n:Nat}{v:Value}(h:w.cell? ((⟨b,off,none⟩:Addr).add n)=some v): ∃arr e f,w.heap[b]? =some (.cells arr e f)/\arr[off+n]? =some v:=by
 have hb:((⟨b,off,none⟩:Addr).add n)=⟨b,off+n,none⟩:=by
  unfold Addr.add;split
  ·rename_i h0;subst h0;rfl
  ·rfl
 rw[hb]at h;unfold World.cell? at h;split at h
 ·rename_i c e f hc
  exact⟨c,e,f,hc,by simpa using h⟩
 ·cases h
def afm:Own:={
 holds _ _ _:=True
 stays _ _ _ _ _ _:=trivial}
def argO{α:Type}(f:α->List Value):Option (List α)->dF
 |none=> .abs afm
 |some l=> .ro (.raw (flat f l))
def argV{α:Type}(i:Nat)(cap:Nat):Option (List α)->AV
 |none=> .lit (.slice none 0 0)
 |some l=> .sl i 0 l.length cap
theorem afn{α:Type}{f:α->List Value}{m:Nat}(hf: ∀a,(f a).length=m)(hm:0<m){l:List α}{k:Nat}{v:Value}(h:(flat f l)[k]? =some v):
  ∃a,l[k/m]? =some a/\(f a)[k%m]? =some v:=by
 have hk:k<l.length*m:=by rw[<-flat_length hf];exact(List.getElem?_eq_some_iff.1 h).1
 have hlt:k/m<l.length:=Nat.div_lt_of_lt_mul (by rw[Nat.mul_comm];exact hk);refine⟨l[k/m],List.getElem?_eq_getElem hlt,?_⟩;rw[<-flat_get hf l (k/m) (k%m) _ (List.getElem?_eq_getElem hlt) (Nat.mod_lt _ hm),Nat.div_add_mod'];exact h
theorem DK{α:Type}{p:Nat->α->Prop}: ∀(n:Nat),(∀i,i<n-> ∃a,p i a)-> ∃l:List α,l.length=n/\ ∀i a,l[i]? =some a->p i a
 |0,_=>⟨[],rfl,λi a h=>by simp at h⟩
 |n+1,h=>by
  obtain⟨l,h1,h2⟩:=DK n (λi hi=>h i (by omega));obtain⟨a,ha⟩:=h n (by omega);refine⟨l++[a],by simp[h1],λi b hb=> ?_⟩;by_cases hi:i<l.length
  ·rw[List.getElem?_append_left hi]at hb;exact h2 i b hb
  ·rw[List.getElem?_append_right (by omega)]at hb
   have:i=l.length:=by
    have:=(List.getElem?_eq_some_iff.1 hb).1;simp at this;omega
   subst this;simp at hb;subst hb;rw[h1];exact ha
theorem afo{H:Type}{enc:TypeId×Value->H}{P:Program}{W:World}{T:Nat->Prop}{t e:TypeId}{v:Value}{d:DataW H}{ps:List MemPlace}{α:Type}{f:α->List Value}{m:Nat}(ok:α->Prop)(hf: ∀a,(f a).length=m)(hm:0<m)
  (ht:P.underlying t=some (.slice e)) (hc:P.cellsOf e=m) (hok:Value.okWide P W .any 0 t v) (h:DataW.Trod enc P W 0 (λ_=>true) true t v d ps) (hT: ∀b,b<W.heap.size-> ¬T b)
  (hel: ∀fuel cs y,DataW.trod enc P W 0 (λ_=>true) true fuel e cs=some y-> ∃a,ok a/\cs=f a):
  ∃(x:Option (List α)) (cap:Nat) (a:Loc),(∀l,x=some l->(∀y∈l,ok y)/\l.length<=cap/\cap<=maxLen)/\(∀(ρ:Ren) (i:Nat),ρ i=some a->bF ρ (argV i cap x) v)/\ ∀(ρ:Ren) (S:Nat->Prop),dI ρ W T a S (argO f x):=by
 obtain⟨fuel,h⟩:=h;have hok':Cell.okWide P W .any 0 t v:=by unfold Value.okWide at hok;simpa only[ht]using hok
 have hv:v.cells.toList=[v]/\(v= .slice none 0 0\/ ∃a n c,v= .slice (some a) n c/\W.has P .any 0 a e c):=by
  unfold Cell.okWide at hok';simp only[ht]at hok';unfold Cell.ok at hok';simp only[ht]at hok';split at hok'<;>first|exact hok'.elim|(rename_i hh;cases hh;done)|skip
  ·exact⟨rfl,.inl rfl⟩
  ·rename_i a n c hh
   cases hh;exact⟨rfl,.inr ⟨a,n,c,rfl,hok'.2.2⟩⟩
 rw[hv.1]at h;rcases trod_slice ht h with h1|⟨a,len,cap,h1,h2,h3,h4⟩
 ·simp only[List.cons.injEq,aV]at h1
  subst h1;exact⟨none,0,⟨0,0,0⟩,(λl hl=>by cases hl),(λρ i _=>by simp[argV,bF]),λ_ _=>trivial⟩
 ·simp only[List.cons.injEq,aV]at h1
  subst h1;rcases hv.2 with h|⟨a',n',c',he,hhas⟩
  ·cases h
  cases he;obtain⟨b,off,spot⟩:=a;obtain⟨_,hs,row,cells,hsh,_⟩:=hhas;simp only at hs;subst hs;obtain⟨arr,e0,fz,harr⟩: ∃arr e0 fz,W.heap[b]? =some (.cells arr e0 fz):=by
   unfold World.shape? at hsh;split at hsh
   ·rename_i c el fr hc;exact⟨c,el,fr,hc⟩
   ·cases hsh
  obtain⟨l,hl,hl'⟩:=DK (p:=λi (y:α)=>ok y/\ ∀j u,(f y)[j]? =some u->arr[off+(i*m+j)]? =some u) len (λi hi=>by
   obtain⟨cs',fuel',y,hc1,hc2⟩:=h4 i hi;obtain⟨z,hz,rfl⟩:=hel fuel' cs' y hc2;refine⟨z,hz,λj u hu=> ?_⟩;rw[hc]at hc1;obtain⟨g1,g2⟩:=afl hc1;have hj:j<m:=by rw[<-g1];exact(List.getElem?_eq_some_iff.1 hu).1
   obtain⟨u',hu',hcell⟩:=g2 j hj;rw[hu]at hu';cases hu';have hadd:((⟨b,off,none⟩:Addr).add (i*m)).add j=(⟨b,off,none⟩:Addr).add (i*m+j):=by
    unfold Addr.add;by_cases h0:i*m=0<;>by_cases h1:j=0<;>simp[h0,h1]<;>omega
   rw[hadd]at hcell;obtain⟨arr',e',f',h5,h6⟩:=alA hcell;rw[harr]at h5;cases h5
   exact h6)
  refine⟨some l,cap,⟨b,off,0⟩,λl' he=> ?_,λρ i hi=> ?_,λρ S=> ?_⟩
  ·cases he
   refine⟨λy hy=> ?_,by rw[hl];exact h2,h3⟩;obtain⟨k,hk,rfl⟩:=List.getElem_of_mem hy;exact(hl' k _ (List.getElem?_eq_getElem hk)).1
  ·exact⟨_,hi,by simp[hl]⟩
  ·refine .inr ⟨hT b (Array.getElem?_eq_some_iff.1 harr).1,arr,e0,fz,harr,λk u hu=> ?_⟩
   simp only[Cs.get]at hu;cases hu2:(flat f l)[k]? with
   |none=>rw[hu2]at hu;cases hu
   |some u2=>
    rw[hu2]at hu;simp at hu;subst hu;obtain⟨z,hz1,hz2⟩:=afn hf hm hu2;refine⟨u2,?_,by simp[bF]⟩;have:=(hl' _ _ hz1).2 _ _ hz2;rw[<-this,Nat.div_add_mod']
end Go.Proofs.YtenfleoejgjklaaGreat.SE
end
section
namespace Go.Proofs.YtenfleoejgjklaaGreat.SE
open Go
open Go.RowKit
section
variable{α:Type}(f:α->List Value)(e:TypeId)(sz:Nat)
end
section
variable{α:Type}{f:α->List Value}{e:TypeId}{sz:Nat}
end
def GR(as:List Loc):Ren:=λi=>as[i]?
def xK(W:World)(T:Nat->Prop)(ρ:Ren):List dF->List Loc->Prop
 |[],[]=>True
 |o::os,a::as=>dI ρ W T a (λ_=>False) o/\xK W T ρ os as
 |_,_=>False
theorem xK.get{W:World}{T:Nat->Prop}{ρ:Ren}: ∀{os:List dF} {as:List Loc},xK W T ρ os as->as.length=os.length/\ ∀(i:Nat) (o:dF),os[i]? =some o-> ∃a:Loc,as[i]? =some a/\dI ρ W T a (λ_=>False) o
 |[],[],_=>⟨rfl,λi o h=>by simp at h⟩
 |o::os,a::as,⟨h1,h2⟩=>by
  obtain⟨g1,g2⟩:=h2.get;refine⟨by simp[g1],λi x hx=> ?_⟩;cases i with
  |zero=>simp at hx;subst hx;exact⟨a,rfl,h1⟩
  |succ i=>simpa using g2 i x (by simpa using hx)
theorem Sp.afp{P:Program}{f:FuncId}{args:List AV}{K:AV->Heap->Prop}(m:Nat)(os:List dF)(as:List Loc)(hs:Sp P f args (hO m os) K)(hm:os.length=m)(W:World)(hh:xK W (λb=>W.heap.size<=b) (GR as) os as){vs:Array Value}
  (hv:dQ (GR as) args vs.toList) (hK: ∀v h,K v h->v= .lit (.bool true)):Calls P f vs W (λe w'=>e= .returned (.bool true)/\Below W.heap.size W w'):=by
 subst hm;obtain⟨g1,g2⟩:=hh.get;have hR:Rel (hOf os) (GR as) (λb=>W.heap.size<=b) W:=by
  refine⟨λ_ _=>False,λi o hi=> ?_,λ_ _ _ _ _ _ _ _ h=>h.elim,λ_ _ _ _ h=>h.elim,λi hi=> ?_,λ_ h=>h⟩
  ·rw[dX]at hi
   exact g2 i o hi
  ·rw[nR]at hi
   simp only[GR];rw[List.getElem?_eq_none];omega
 refine(hs.2 _ _ W vs hR hv).mono ?_
 rintro e w' ⟨ρ',v,u,h',_,_,_,hu,rfl,hk,hKv⟩
 have:=hK _ _ hKv;subst this;simp only[bF]at hu;subst hu;exact⟨rfl,hk.below⟩
end Go.Proofs.YtenfleoejgjklaaGreat.SE
end
section
namespace Go.Proofs.YtenfleoejgjklaaGreat.SE
open Go
def cP(b:Bool)(x y:Prop):Prop:=match b with
 |true=>x
 |false=>y
theorem bf{b:Bool}{x y:Prop}(h1:b=true->x)(h2:b=false->y):cP b x y:=by
 cases b with
 |true=>exact h1 rfl
 |false=>exact h2 rfl
theorem jE{b:Bool}{x y:Prop}(h:cP b x y):(b=true/\x)\/(b=false/\y):=by cases b<;>simp_all[cP]
theorem afq{m n k j:Nat}(hk:k<n)(hj:j<m):k*m+j<n*m/\(k*m+j)/m=k/\(k*m+j)%m=j:=by
 have hm:0<m:=by omega
 refine⟨?_,?_,?_⟩
 ·have:(k+1)*m<=n*m:=Nat.mul_le_mul_right _ hk
  rw[Nat.add_mul]at this;omega
 ·rw[Nat.mul_comm,Nat.mul_add_div hm,Nat.div_eq_of_lt hj];omega
 ·rw[Nat.mul_comm,Nat.mul_add_mod,Nat.mod_eq_of_lt hj]
theorem qh{m n k j:Nat}{g:Nat->List Value}{wr:List (Nat×List Value)}{v:Value}(hk:k<n)(hj:j<m)(hv:(Cs.eff g wr k)[j]? =some v):(Cs.row m n g wr).get (k*m+j)=some (.lit v):=by
 obtain⟨h1,h2,h3⟩:=afq hk hj;have:Nat.blt (k*m+j) (n*m)=true:=bg.2 h1;simp only[Cs.get,this,aP,h2,h3,hv]
def jK:Cs->Nat->Option (Nat×Nat×Nat×(Nat->List Value)×List (Nat×List Value))
 | .row m n g wr,_=>some (0,m,n,g,wr)
 | .cat a b,j=>bif Nat.blt j a.size then jK a j else(match jK b (j-a.size)with
  |some (o,r)=>some (a.size+o,r)
  |none=>none)
 |_,_=>none
def putRow:Cs->Nat->Cs->Cs
 | .row ..,_,r=>r
 | .cat a b,j,r=>bif Nat.blt j a.size then .cat (putRow a j r) b else .cat a (putRow b (j-a.size) r)
 |c,_,_=>c
theorem xM{a b:Cs}{j:Nat}{r:Nat×Nat×Nat×(Nat->List Value)×List (Nat×List Value)}(h:jK (.cat a b) j=some r):
  (j<a.size/\jK a j=some r)\/(¬j<a.size/\ ∃o,jK b (j-a.size)=some (o,r.2)/\r.1=a.size+o):=by
 simp only[jK]at h;cases hb:Nat.blt j a.size with
 |true=>rw[hb]at h;exact .inl ⟨bg.1 hb,h⟩
 |false=>
  rw[hb]at h;refine .inr ⟨(λhh=>by rw[bg.2 hh]at hb;cases hb),?_⟩;simp only[aQ]at h;split at h
  ·rename_i o r' hr;cases h;exact⟨o,hr,rfl⟩
  ·cases h
theorem uJ: ∀{c:Cs} {j o m n:Nat} {g:Nat->List Value} {wr:List (Nat×List Value)},jK c j=some (o,m,n,g,wr)->o+n*m<=c.size/\(Nat.ble o j=true\/o=0):=by
 intro c
 induction c with
 |cat a b iha ihb=>
  intro j o m n g wr h;rcases xM h with ⟨hj,h⟩|⟨hj,o',h,e⟩
  ·have:=iha h;simp only[Cs.size];exact⟨by omega,this.2⟩
  ·have:=ihb h
   simp only at e;subst e;simp only[Cs.size,Nat.ble_eq]at this ⊢;exact⟨by omega,.inl (by omega)⟩
 |row m' n' g' wr'=>
  intro j o m n g wr h;simp only[jK,ak,Prod.mk.injEq]at h;obtain⟨rfl,rfl,rfl,rfl,rfl⟩:=h;simp[Cs.size]
 |_=>intro j o m n g wr h;simp[jK]at h
theorem qW: ∀{c:Cs} {j o m n:Nat} {g:Nat->List Value} {wr:List (Nat×List Value)},jK c j=some (o,m,n,g,wr)-> ∀p,p<n*m->c.get (o+p)=(Cs.row m n g wr).get p:=by
 intro c
 induction c with
 |cat a b iha ihb=>
  intro j o m n g wr h p hp;rcases xM h with ⟨hj,h⟩|⟨hj,o',h,e⟩
  ·have:=uJ h
   have hb:Nat.blt (o+p) a.size=true:=bg.2 (by omega);simp only[Cs.get,hb,aP];rw[iha h p hp];rfl
  ·simp only at e;subst e
   have hb:Nat.blt (a.size+o'+p) a.size=false:=by
    cases hh:Nat.blt (a.size+o'+p) a.size
    ·rfl
    ·have:=bg.1 hh;omega
   have:=ihb h p hp;simp only[Cs.get]at this;simp only[Cs.get,hb,aQ,show a.size+o'+p-a.size=o'+p by omega];exact this
 |row m' n' g' wr'=>
  intro j o m n g wr h p hp;simp only[jK,ak,Prod.mk.injEq]at h;obtain⟨rfl,rfl,rfl,rfl,rfl⟩:=h;rw[aA]
 |_=>intro j o m n g wr h;simp[jK]at h
theorem Zw{h:Heap}{i:Nat}{ob:dF}{c:Cs}{j0 o m n k:Nat}{g:Nat->List Value}{wr:List (Nat×List Value)}(hi:h.get i=some ob)(hc:ob.eP=some c)(hr:jK c j0=some (o,m,n,g,wr))(hk:k<n):
  ∀(vs:List Value) (j:Nat),j+vs.length<=m->(∀q,q<vs.length->(Cs.eff g wr k)[j+q]? =vs[q]?)->Zk h i (o+(k*m+j)) vs.length=some (vs.map .lit)
 |[],j,_,_=>rfl
 |v::vs,j,hm,hv=>by
  simp only[List.length_cons]at hm;have h0:=hv 0 (by simp);simp only[aI,ah]at h0;have hcell:cellAt h i (o+(k*m+j))=some (.lit v):=by simp only[cellAt,hi,hc];rw[qW hr _ (afq hk (by omega)).1];exact qh hk (by omega) h0
  have ih:=Zw hi hc hr hk vs (j+1) (by omega) (λq hq=>by
   have:=hv (q+1) (by simpa using hq);rw[List.getElem?_cons_succ]at this
   rw[<-this];congr 1;omega)
  rw[show o+(k*m+(j+1))=o+(k*m+j)+1 by omega]at ih;simp[Zk,hcell,ih]
def DL(g:Nat->List Value)(wr:List (Nat×List Value))(k:Nat)(Q:List Value->Prop):Prop:=match wr with
 |[]=>Q (g k)
 |(q,c)::r=>cP (Nat.beq k q) (Q c) (DL g r k Q)
theorem uK{g:Nat->List Value}{k:Nat}{Q:List Value->Prop}: ∀{wr:List (Nat×List Value)},DL g wr k Q->Q (Cs.eff g wr k)
 |[],h=>h
 |(q,c)::r,h=>by
  simp only[DL]at h;simp only[Cs.eff];rcases jE h with ⟨hb,h⟩|⟨hb,h⟩
  ·rw[hb];exact h
  ·rw[hb];exact uK h
def rowA(tt:TT)(t:TypeId)(h:Heap)(i o:Nat):Option (Nat×(Nat->List Value)):=
 match tt t,h.get i with
 |some ti,some ob=>match ob.eP with
  |some c=>match jK c o with
   |some (o',m,n,g,wr)=>bif Nat.beq o o'&&Nat.beq m 1&&Nat.beq n ti.size&&Nat.blt 8 n&&ti.agg then some (n,Cs.eff g wr)else none
   |none=>none
  |none=>none
 |_,_=>none
theorem JL{h:Heap}{i:Nat}{ob:dF}{c:Cs}{j0 o N:Nat}{g:Nat->List Value}{wr:List (Nat×List Value)}(hi:h.get i=some ob)(hc:ob.eP=some c)(hr:jK c j0=some (o,1,N,g,wr)):
  ∀(n p:Nat),p+n<=N-> ∃L,Zk h i (o+p) n=some L/\ ∀q,q<n->L[q]? =(Cs.row 1 N g wr).get (p+q)
 |0,p,_=>⟨[],rfl,λq hq=>absurd hq (Nat.not_lt_zero _)⟩
 |n+1,p,hp=>by
  obtain⟨v,hv⟩: ∃v,(Cs.row 1 N g wr).get p=some v:=by
   simp only[Cs.get,bg.2 (show p<N*1 by omega),aP];split<;>exact⟨_,rfl⟩
  have hcell:cellAt h i (o+p)=some v:=by simp only[cellAt,hi,hc];rw[qW hr _ (by omega)];exact hv
  obtain⟨L,h1,h2⟩:=JL hi hc hr n (p+1) (by omega);refine⟨v::L,by simp only[Zk,hcell];rw[show o+p+1=o+(p+1) by omega,h1],λq hq=> ?_⟩;cases q with
  |zero=>simpa using hv.symm
  |succ q=>rw[List.getElem?_cons_succ,h2 q (by omega)];congr 1;omega
theorem afr{P:Program}{tt:TT}(hT:tt.ok P){h:Heap}{ρ:Ren}{T:Nat->Prop}{w:World}(hR:Rel h ρ T w){t:TypeId}{i o n:Nat}{f:Nat->List Value}{u:Value}
  (hr:rowA tt t h i o=some (n,f)) (hu:bF ρ (.ptr i o) u):ROk P (Instr.loadAt t u) ρ w (.arr n f):=by
 unfold rowA at hr;split at hr
 ·rename_i ti ob hti hi
  split at hr
  ·rename_i c hc
   split at hr
   ·rename_i o' m N g wr hrow
    cases hb:(Nat.beq o o'&&Nat.beq m 1&&Nat.beq N ti.size&&Nat.blt 8 N&&ti.agg)with
    |false=>rw[hb]at hr;cases hr
    |true=>
     rw[hb]at hr;cases hr;simp only[aJ]at hb;obtain⟨⟨⟨⟨h1,h2⟩,h3⟩,_⟩,hagg⟩:=hb;have:=au h1;subst this;have:=au h2;subst this;have:=au h3;subst this;obtain⟨L,hL,hget⟩:=JL hi hc hrow ti.size 0 (by omega);rw[aI]at hL;obtain⟨v,hrun,hv⟩:=nM (P:=P) hT hR (t:=t) (a:= .ptr i o) (v:= .agg L) (by simp[Gz,hti,hagg,hL]) hu;refine⟨v,hrun,?_⟩;simp only[bF]at hv ⊢;obtain⟨vs,rfl,hlr⟩:=hv;refine⟨vs,rfl,?_,λk x hk hx=> ?_⟩
     ·rw[<-Array.length_toList,<-hlr.length];exact vK hL
     ·have hg:=hget k hk
      rw[aA]at hg;have hx':(Cs.row 1 ti.size g wr).get k=some (.lit x):=by
       simp only[Cs.get,bg.2 (show k<ti.size*1 by omega),aP,Nat.div_one,Nat.mod_one,hx]
      rw[hx']at hg;obtain⟨y,hy,hyr⟩:=hlr.get k _ hg;simp only[bF]at hyr;subst hyr;simpa using hy
   ·cases hr
  ·cases hr
 ·cases hr
def uM(ti:TI)(m n:Nat)(g:Nat->List Value)(wr:List (Nat×List Value))(k j:Nat)(Q:AV->Prop):Prop:=
 bif Nat.ble (j+ti.size) m then(k<n/\DL g wr k λl=>bif ti.agg then(bif Nat.ble (j+ti.size) l.length then Q (.agg (((l.drop j).take ti.size).map .lit))else False)else(match l[j]? with
  |some v=>bif Nat.beq ti.size 1 then Q (.lit v)else False
  |none=>False))else False
def xO(d:TD)(l:List Value)(Q:AV->Prop):Prop:=match d with
 | .bool=> ∃b,l[0]? =some (.bool b)/\Q (.lit (.bool b))
 | .int k=> ∃z,l[0]? =some (.int k z)/\Q (.lit (.int k z))
 |_=>match l[0]? with
  |some v=>Q (.lit v)
  |none=>False
theorem DN{d:TD}{l:List Value}{Q:AV->Prop}(h:xO d l Q): ∃v,l[0]? =some v/\Q (.lit v):=by
 unfold xO at h;split at h
 ·obtain⟨b,h1,h2⟩:=h;exact⟨_,h1,h2⟩
 ·obtain⟨b,h1,h2⟩:=h;exact⟨_,h1,h2⟩
 ·split at h
  ·rename_i v hv;exact⟨_,hv,h⟩
  ·exact h.elim
def xP(ti:TI)(n:Nat)(g:Nat->List Value)(wr:List (Nat×List Value))(p:Nat)(Q:AV->Prop):Prop:=
 bif ti.agg&&Nat.blt 8 ti.size then(p+ti.size<=n/\Q (.arr ti.size (λq=>Cs.eff g wr (p+q))))else bif !ti.agg&&Nat.beq ti.size 1 then(p<n/\DL g wr p λl=>xO ti.desc l Q)else False
def Uu(tt:TT)(t:TypeId)(a:AV)(h:Heap)(Q:AV->Prop):Prop:=
 match a with
 | .nH i k m j=>match tt t,h.get i with
  |some ti,some ob=>match ob.eP with
   |some c=>match jK c j with
    |some (o,m',n,g,wr)=>bif Nat.beq m m'&&Nat.ble o j then uM ti m n g wr k (j-o) Q else bif Nat.beq m' 1&&Nat.beq o 0 then xP ti n g wr (k*m+j) Q else False
    |none=>False
   |none=>False
  |_,_=>False
 | .ptr i o=>match rowA tt t h i o with
  |some (n,f)=>Q (.arr n f)
  |none=>match Gz tt t (.ptr i o) h with
   |some v=>Q v
   |none=>False
 |a=>match Gz tt t a h with
  |some v=>Q v
  |none=>False
theorem abX{P:Program}{tt:TT}(hT:tt.ok P){h:Heap}{ρ:Ren}{T:Nat->Prop}{w:World}(hR:Rel h ρ T w){t:TypeId}{ti:TI}{u:Value}{Q:AV->Prop}{i m n k j j0 o:Nat}{ob:dF}{c:Cs}{g:Nat->List Value}{wr:List (Nat×List Value)}
  (hti:tt t=some ti) (hi:h.get i=some ob) (hc:ob.eP=some c) (hr:jK c j0=some (o,m,n,g,wr)) (hl:uM ti m n g wr k j Q) (hu:bF ρ (.ptr i (o+(k*m+j))) u): ∃v,ROk P (Instr.loadAt t u) ρ w v/\Q v:=by
 unfold uM at hl;cases hs:Nat.ble (j+ti.size) m with
 |false=>rw[hs]at hl;exact hl.elim
 |true=>
  rw[hs]at hl;simp only[aP]at hl;have hs':j+ti.size<=m:=by simpa using hs
  obtain⟨hk,hl⟩:=hl;have hl:=uK hl;cases hagg:ti.agg with
  |true=>
   rw[hagg]at hl;simp only[aP]at hl;cases hle:Nat.ble (j+ti.size) (Cs.eff g wr k).length with
   |false=>rw[hle]at hl;exact hl.elim
   |true=>
    rw[hle]at hl;simp only[aP]at hl;have hle':j+ti.size<=(Cs.eff g wr k).length:=by simpa using hle
    have hlen:(((Cs.eff g wr k).drop j).take ti.size).length=ti.size:=by simp;omega
    have hg:=Zw hi hc hr hk (((Cs.eff g wr k).drop j).take ti.size) j (by omega) (λq hq=>by
     rw[hlen]at hq;rw[List.getElem?_take,if_pos hq,List.getElem?_drop])
    rw[hlen]at hg;exact⟨_,nM hT hR (a:= .ptr i (o+(k*m+j))) (by simp[Gz,hti,hagg,hg]) hu,hl⟩
  |false=>
   rw[hagg]at hl;simp only[aQ]at hl;split at hl
   ·rename_i v hv
    cases h1:Nat.beq ti.size 1 with
    |false=>rw[h1]at hl;exact hl.elim
    |true=>
     rw[h1]at hl;simp only[aP]at hl;have h1':=au h1;have hcell:cellAt h i (o+(k*m+j))=some (.lit v):=by
      simp only[cellAt,hi,hc];rw[qW hr _ (afq hk (by omega)).1];exact qh hk (by omega) hv
     exact⟨_,nM hT hR (a:= .ptr i (o+(k*m+j))) (by simp[Gz,hti,hagg,hcell]) hu,hl⟩
   ·exact hl.elim
theorem Uw{P:Program}{tt:TT}(hT:tt.ok P){h:Heap}{ρ:Ren}{T:Nat->Prop}{w:World}(hR:Rel h ρ T w){t:TypeId}{ti:TI}{u:Value}{Q:AV->Prop}{i n p j0:Nat}{ob:dF}{c:Cs}{g:Nat->List Value}{wr:List (Nat×List Value)}
  (hti:tt t=some ti) (hi:h.get i=some ob) (hc:ob.eP=some c) (hr:jK c j0=some (0,1,n,g,wr)) (hl:xP ti n g wr p Q) (hu:bF ρ (.ptr i p) u): ∃v,ROk P (Instr.loadAt t u) ρ w v/\Q v:=by
 unfold xP at hl;cases hb:(ti.agg&&Nat.blt 8 ti.size)with
 |false=>
  rw[hb]at hl;simp only[aQ]at hl;cases hb2:(!ti.agg&&Nat.beq ti.size 1)with
  |false=>rw[hb2]at hl;exact hl.elim
  |true=>
   rw[hb2]at hl;simp only[aP]at hl;simp only[aJ,Bool.not_eq_true']at hb2;obtain⟨hp,hl⟩:=hl;obtain⟨v,hv,hl⟩:=DN (uK hl);have hcell:cellAt h i p=some (.lit v):=by
    simp only[cellAt,hi,hc];have:=qW hr p (by omega);rw[aA]at this;rw[this];have:=qh (m:=1) (g:=g) (wr:=wr) (n:=n) (k:=p) (j:=0) (v:=v) hp (by omega) hv;simpa using this
   exact⟨_,nM hT hR (a:= .ptr i p) (by simp[Gz,hti,hb2.1,hcell]) hu,hl⟩
 |true=>
  rw[hb]at hl;simp only[aP]at hl;simp only[aJ]at hb;obtain⟨hle,hl⟩:=hl;obtain⟨L,hL,hget⟩:=JL hi hc hr ti.size p hle;rw[aA]at hL;obtain⟨v,hrun,hv⟩:=nM (P:=P) hT hR (t:=t) (a:= .ptr i p) (v:= .agg L) (by simp[Gz,hti,hb.1,hL]) hu;refine⟨_,⟨v,hrun,?_⟩,hl⟩;simp only[bF]at hv ⊢;obtain⟨vs,rfl,hlr⟩:=hv;refine⟨vs,rfl,?_,λk x hk hx=> ?_⟩
  ·rw[<-Array.length_toList,<-hlr.length];exact vK hL
  ·have hg:=hget k hk
   have hx':(Cs.row 1 n g wr).get (p+k)=some (.lit x):=by
    simp only[Cs.get,bg.2 (show p+k<n*1 by omega),aP,Nat.div_one,Nat.mod_one,hx]
   rw[hx']at hg;obtain⟨y,hy,hyr⟩:=hlr.get k _ hg;simp only[bF]at hyr;subst hyr;simpa using hy
theorem Zx{P:Program}{tt:TT}(hT:tt.ok P){h:Heap}{ρ:Ren}{T:Nat->Prop}{w:World}(hR:Rel h ρ T w){t:TypeId}{a:AV}{u:Value}{Q:AV->Prop}
  (hl:Uu tt t a h Q) (hu:bF ρ a u): ∃v,ROk P (Instr.loadAt t u) ρ w v/\Q v:=by
 unfold Uu at hl;split at hl
 ·rename_i i k m j
  split at hl
  ·rename_i ti ob hti hi
   split at hl
   ·rename_i c hc
    split at hl
    ·rename_i o m' n g wr hr
     cases hb:Nat.beq m m'&&Nat.ble o j with
     |false=>
      rw[hb]at hl;simp only[aQ]at hl;cases hb2:Nat.beq m' 1&&Nat.beq o 0 with
      |false=>rw[hb2]at hl;exact hl.elim
      |true=>
       rw[hb2]at hl;simp only[aP]at hl;simp only[aJ]at hb2;have:=au hb2.1;subst this;have:=au hb2.2;subst this;exact Uw hT hR hti hi hc hr hl (by simpa only[bF]using hu)
     |true=>
      rw[hb]at hl;simp only[aP]at hl;simp only[aJ,Nat.ble_eq]at hb;obtain⟨hb,hoj⟩:=hb;have:=au hb;subst this;refine abX hT hR hti hi hc hr hl ?_;simp only[bF]at hu ⊢;rw[show o+(k*m+(j-o))=k*m+j by omega];exact hu
    ·exact hl.elim
   ·exact hl.elim
  ·exact hl.elim
 ·rename_i i o
  split at hl
  ·rename_i n f hr
   exact⟨_,afr hT hR hr hu,hl⟩
  ·split at hl
   ·rename_i v hv
    exact⟨v,nM hT hR hv hu,hl⟩
   ·exact hl.elim
 ·split at hl
  ·rename_i v hv
   exact⟨v,nM hT hR hv hu,hl⟩
  ·exact hl.elim
def mF(x:dF)(c:Cs):dF:=match x with
 | .cells e _=> .cells e c
 | .room e _=> .room e c
 |x=>x
theorem xQ{ρ:Ren}{x y:Cs}{arr:Array Value}{b:Nat}:fF ρ (.cat x y) arr b↔fF ρ x arr b/\fF ρ y arr (b+x.size):=by
 constructor
 ·intro h
  refine⟨λk v hk=> ?_,λk v hk=> ?_⟩
  ·exact h k v (by simp only[Cs.get,bg.2 (Cs.dW hk),aP];exact hk)
  ·have hb:Nat.blt (x.size+k) x.size=false:=by
    cases hh:Nat.blt (x.size+k) x.size
    ·rfl
    ·have:=bg.1 hh;omega
   obtain⟨u,hu,hr⟩:=h (x.size+k) v (by simp only[Cs.get,hb,aQ,Nat.add_sub_cancel_left];exact hk);exact⟨u,by rw[Nat.add_assoc];exact hu,hr⟩
 ·rintro ⟨h1,h2⟩ k v hk
  simp only[Cs.get]at hk;cases hb:Nat.blt k x.size with
  |true=>rw[hb]at hk;exact h1 k v hk
  |false=>
   have: ¬k<x.size:=λhh=>by rw[bg.2 hh]at hb;cases hb
   rw[hb]at hk;obtain⟨u,hu,hr⟩:=h2 _ v hk;exact⟨u,by rw[<-hu];congr 1;omega,hr⟩
theorem afs{ρ:Ren}{arr:Array Value}: ∀{c:Cs} {j o m n b:Nat} {g:Nat->List Value} {wr:List (Nat×List Value)},jK c j=some (o,m,n,g,wr)->fF ρ c arr b->fF ρ (.row m n g wr) arr (b+o):=by
 intro c j o m n b g wr h hc p v hv;have hlt:=Cs.dW hv;simp only[Cs.size]at hlt;obtain⟨u,hu,hr⟩:=hc (o+p) v (by rw[qW h p hlt];exact hv);exact⟨u,by rw[Nat.add_assoc];exact hu,hr⟩
theorem mG: ∀{c:Cs} {j o m n:Nat} {g:Nat->List Value} {wr:List (Nat×List Value)} {r:Cs},jK c j=some (o,m,n,g,wr)->r.size=n*m->(putRow c j r).size=c.size:=by
 intro c
 induction c with
 |cat a b iha ihb=>
  intro j o m n g wr r h hr;rcases xM h with ⟨hj,h⟩|⟨hj,o',h,e⟩
  ·simp only[putRow,bg.2 hj,aP,Cs.size,iha h hr]
  ·have hb:Nat.blt j a.size=false:=by
    cases hh:Nat.blt j a.size
    ·rfl
    ·exact absurd (bg.1 hh) hj
   simp only[putRow,hb,aQ,Cs.size,ihb h hr]
 |row m' n' g' wr'=>
  intro j o m n g wr r h hr;simp only[jK,ak,Prod.mk.injEq]at h;obtain⟨rfl,rfl,rfl,rfl,rfl⟩:=h;simp only[putRow,hr,Cs.size]
 |_=>intro j o m n g wr r h;simp[jK]at h
theorem Ih{ρ:Ren}{arr arr':Array Value}: ∀{c:Cs} {j o m n b:Nat} {g:Nat->List Value} {wr:List (Nat×List Value)} {r:Cs},jK c j=some (o,m,n,g,wr)->r.size=n*m->fF ρ c arr b->
  (∀q,¬(b+o<=q/\q<b+o+n*m)->arr'[q]? =arr[q]?)->fF ρ r arr' (b+o)->fF ρ (putRow c j r) arr' b:=by
 intro c
 induction c with
 |cat a y iha ihb=>
  intro j o m n b g wr r h hr hc hq hn;rw[xQ]at hc;rcases xM h with ⟨hj,h⟩|⟨hj,o',h,e⟩
  ·simp only[putRow,bg.2 hj,aP]
   rw[xQ,mG h hr];refine⟨iha h hr hc.1 hq hn,λp v hv=> ?_⟩;obtain⟨u,hu,hr⟩:=hc.2 p v hv;have:=(uJ h).1;exact⟨u,by rw[hq _ (by omega)];exact hu,hr⟩
  ·simp only at e;subst e
   have hb:Nat.blt j a.size=false:=by
    cases hh:Nat.blt j a.size
    ·rfl
    ·exact absurd (bg.1 hh) hj
   simp only[putRow,hb,aQ];rw[xQ];refine⟨λp v hv=> ?_,ihb h hr hc.2 (λq hh=>hq q (by omega)) (by rw[Nat.add_assoc];exact hn)⟩;obtain⟨u,hu,hr⟩:=hc.1 p v hv;have:=Cs.dW hv;exact⟨u,by rw[hq _ (by omega)];exact hu,hr⟩
 |row m' n' g' wr'=>
  intro j o m n b g wr r h hr hc hq hn;simp only[jK,ak,Prod.mk.injEq]at h;obtain⟨rfl,rfl,rfl,rfl,rfl⟩:=h;exact hn
 |_=>intro j o m n b g wr r h;simp[jK]at h
theorem xR{P:Program}{h:Heap}{ρ:Ren}{T:Nat->Prop}{w:World}(hR:Rel h ρ T w){i m n k j j0 o:Nat}{ob:dF}{c:Cs}{g:Nat->List Value}{wr:List (Nat×List Value)}{a:Loc}{cs:List Value}
  (hi:h.get i=some ob) (hrow:fA ob=true) (hc:ob.eP=some c) (hr:jK c j0=some (o,m,n,g,wr)) (ha:ρ i=some a) (hk:k<n) (hj:j+cs.length<=m) (hle:j+cs.length<=(Cs.eff g wr k).length) (h1: ∀u∈cs,u.oneCell'=true):
  ∃w',(storeCells ⟨a.blk,a.base+(o+(k*m+j)),none⟩ cs).run P w= .ok () w'/\Rel (h.set i (mF ob (putRow c j0 (.row m n g ((k,Cs.jO j cs (Cs.eff g wr k))::wr))))) ρ T w'/\Keeps T w w':=by
 have hKM:k*m+m<=n*m:=by
  have:(k+1)*m<=n*m:=Nat.mul_le_mul_right _ hk;rw[Nat.add_mul]at this;omega
 have key: ∀(arr arr':Array Value),fF ρ (.row m n g wr) arr o->o+n*m<=arr.size->arr'.size=arr.size->
   (∀q,arr'[o+q]? =if k*m+j<=q/\q<k*m+j+cs.length then cs[q-(k*m+j)]? else arr[o+q]?)->fF ρ (.row m n g ((k,Cs.jO j cs (Cs.eff g wr k))::wr)) arr' o:=by
  intro arr arr' hcr hsz hsz' hget q v hv;have hlt:=Cs.dW hv;simp only[Cs.size]at hlt;simp only[Cs.get,bg.2 hlt,aP]at hv;have hm:0<m:=by
   rcases Nat.eq_zero_or_pos m with h0|h0
   ·subst h0;simp at hlt
   ·exact h0
  have hqm:=Nat.div_add_mod' q m;have hqlt:=Nat.mod_lt q hm;rw[hget];have old: ∀x,(Cs.eff g wr (q/m))[q%m]? =some x-> ∃u,arr[o+q]? =some u/\bF ρ (.lit x) u:=λx hx=>by
   have:(Cs.row m n g wr).get q=some (.lit x):=by simp only[Cs.get,bg.2 hlt,aP,hx]
   obtain⟨u,hu,hr⟩:=hcr q _ this;exact⟨u,hu,hr⟩
  have hsp: ∀p,(Cs.jO j cs (Cs.eff g wr k))[p]? =if j<=p/\p<j+cs.length then cs[p-j]? else(Cs.eff g wr k)[p]? :=λp=>Cs.oV j cs _ hle p
  by_cases hqk:q/m=k
  ·rw[hqk]at hv
   simp only[Cs.eff,Nat.beq_refl,aP,hsp]at hv;by_cases hin:j<=q%m/\q%m<j+cs.length
   ·rw[if_pos hin]at hv
    rw[hqk]at hqm;rw[if_pos (by omega),show q-(k*m+j)=q%m-j by omega];split at hv
    ·rename_i x hx;cases hv;exact⟨x,hx,by simp[bF]⟩
    ·rename_i hx
     rw[List.getElem?_eq_none_iff]at hx;omega
   ·rw[if_neg hin]at hv
    rw[hqk]at hqm;rw[if_neg λhh=>hin ⟨by omega,by omega⟩];split at hv
    ·rename_i x hx;cases hv;exact old x (by rw[hqk];exact hx)
    ·cases hv;exact⟨arr[o+q],Array.getElem?_eq_getElem (by omega),by simp[bF]⟩
  ·simp only[Cs.eff,fC hqk,aQ]at hv
   have hne: ¬(k*m+j<=q/\q<k*m+j+cs.length):=λhh=>by
    apply hqk;exact Nat.div_eq_of_lt_le (by omega) (by rw[Nat.add_mul];omega)
   rw[if_neg hne];split at hv
   ·rename_i x hx;cases hv;exact old x hx
   ·cases hv;exact⟨arr[o+q],Array.getElem?_eq_getElem (by omega),by simp[bF]⟩
 obtain⟨S,r1,_⟩:=id hR;obtain⟨a',ha',ho⟩:=r1 i _ hi;obtain rfl:a'=a:=Option.some.inj (ha'.symm.trans ha);have main: ∀(e:TypeId) (arr:Array Value),a'.base=0->w.heap[a'.blk]? =some (.cells arr e (0,0))->c.size<=arr.size->fF ρ c arr 0->(∀S,dI ρ w T a' S ob->S a'.blk)->
   (∀S (w':World) arr',S a'.blk->dI ρ w T a' S ob->w'.heap[a'.blk]? =some (.cells arr' e (0,0))->arr'.size=arr.size->fF ρ (putRow c j0 (.row m n g ((k,Cs.jO j cs (Cs.eff g wr k))::wr))) arr' 0->
    dI ρ w' T a' S (mF ob (putRow c j0 (.row m n g ((k,Cs.jO j cs (Cs.eff g wr k))::wr)))))->
   ∃w',(storeCells ⟨a'.blk,a'.base+(o+(k*m+j)),none⟩ cs).run P w= .ok () w'/\Rel (h.set i (mF ob (putRow c j0 (.row m n g ((k,Cs.jO j cs (Cs.eff g wr k))::wr))))) ρ T w'/\Keeps T w w':=by
  intro e arr h0 hb hsz hcr hown hnew;have hrs:=(uJ hr).1;obtain⟨w',arr',hrun,hb',hsz',hw,hne,ho1,ho2,ho3,hget⟩:=ig (P:=P) a'.blk cs (a'.base+(o+(k*m+j))) 0 w arr hb h1 (by omega);have alB: ∀q,arr'[q]? =if o+(k*m+j)<=q/\q<o+(k*m+j)+cs.length then cs[q-(o+(k*m+j))]? else arr[q]? :=λq=>by
   rw[hget];simp only[h0,aA,aI]
  have afd: ∀q,arr'[o+q]? =if k*m+j<=q/\q<k*m+j+cs.length then cs[q-(k*m+j)]? else arr[o+q]? :=λq=>by
   rw[alB];by_cases hh:k*m+j<=q/\q<k*m+j+cs.length
   ·rw[if_pos hh,if_pos (by omega)];congr 1;omega
   ·rw[if_neg hh,if_neg (by omega)]
  have hrow1:=afs hr hcr;rw[aA]at hrow1;have hnew1:=Ih (arr':=arr') (r:=(.row m n g ((k,Cs.jO j cs (Cs.eff g wr k))::wr))) hr rfl hcr (λq hq=>by rw[alB,if_neg (by omega)]) (by rw[aA];exact key arr arr' hrow1 (by omega) hsz' afd);refine⟨w',hrun,hR.upd hi ha hw hne hown λS hS hx=>hnew S w' arr' hS hx hb' hsz' hnew1,⟨by omega,ho1,ho2,ho3,λb hb2=>hne b λhbb=>hb2 ?_⟩⟩;subst hbb;exact hR.Uh hi ha hown
 cases ob with
 |cells e c'=>
  simp only[dF.eP,ak]at hc;subst hc;obtain⟨h0,hS,arr,hb,hsz,hlim,hcr⟩:=ho;refine main e arr h0 hb (by omega) hcr (λS' h=>h.2.1) λS' w' arr' hS' hx hb' hsz' hc'=> ?_
  exact⟨h0,hS',arr',hb',by rw[hsz',hsz];exact(mG hr rfl).symm,by rw[hlim];exact(mG hr rfl).symm,hc'⟩
 |room e c'=>
  simp only[dF.eP,ak]at hc;subst hc;obtain⟨h0,hS,arr,hb,hsz,hle',hcr⟩:=ho;refine main e arr h0 hb (by omega) hcr (λS' h=>h.2.1) λS' w' arr' hS' hx hb' hsz' hc'=> ?_
  exact⟨h0,hS',arr',hb',by omega,by rw[mG hr rfl];exact hle',hc'⟩
 |_=>simp[fA]at hrow
theorem BX{P:Program}{h:Heap}{ρ:Ren}{T:Nat->Prop}{w:World}(hR:Rel h ρ T w){i p:Nat}{ob:dF}{c d:Cs}{a:Loc}{cs:List Value}
  (hi:h.get i=some ob) (hrow:fA ob=true) (hc:ob.eP=some c) (ha:ρ i=some a) (hp:p+cs.length<=c.size) (h1: ∀u∈cs,u.oneCell'=true) (hd:d.size=c.size)
  (key: ∀(arr arr':Array Value),fF ρ c arr 0->c.size<=arr.size->arr'.size=arr.size->(∀q,arr'[q]? =if p<=q/\q<p+cs.length then cs[q-p]? else arr[q]?)->fF ρ d arr' 0):
  ∃w',(storeCells ⟨a.blk,a.base+p,none⟩ cs).run P w= .ok () w'/\Rel (h.set i (mF ob d)) ρ T w'/\Keeps T w w':=by
 obtain⟨S,r1,_⟩:=id hR;obtain⟨a',ha',ho⟩:=r1 i _ hi;obtain rfl:a'=a:=Option.some.inj (ha'.symm.trans ha);have main: ∀(e:TypeId) (arr:Array Value),a'.base=0->w.heap[a'.blk]? =some (.cells arr e (0,0))->c.size<=arr.size->fF ρ c arr 0->(∀S,dI ρ w T a' S ob->S a'.blk)->
   (∀S (w':World) arr',S a'.blk->dI ρ w T a' S ob->w'.heap[a'.blk]? =some (.cells arr' e (0,0))->arr'.size=arr.size->fF ρ d arr' 0->dI ρ w' T a' S (mF ob d))->
   ∃w',(storeCells ⟨a'.blk,a'.base+p,none⟩ cs).run P w= .ok () w'/\Rel (h.set i (mF ob d)) ρ T w'/\Keeps T w w':=by
  intro e arr h0 hb hsz hcr hown hnew;obtain⟨w',arr',hrun,hb',hsz',hw,hne,ho1,ho2,ho3,hget⟩:=ig (P:=P) a'.blk cs (a'.base+p) 0 w arr hb h1 (by omega);have alB: ∀q,arr'[q]? =if p<=q/\q<p+cs.length then cs[q-p]? else arr[q]? :=λq=>by
   rw[hget];simp only[h0,aA,aI]
  refine⟨w',hrun,hR.upd hi ha hw hne hown λS hS hx=>hnew S w' arr' hS hx hb' hsz' (key arr arr' hcr hsz hsz' alB),⟨by omega,ho1,ho2,ho3,λb hb2=>hne b λhbb=>hb2 ?_⟩⟩;subst hbb;exact hR.Uh hi ha hown
 cases ob with
 |cells e c'=>
  simp only[dF.eP,ak]at hc;subst hc;obtain⟨h0,hS,arr,hb,hsz,hlim,hcr⟩:=ho;refine main e arr h0 hb (by omega) hcr (λS' h=>h.2.1) λS' w' arr' hS' hx hb' hsz' hc'=> ?_
  exact⟨h0,hS',arr',hb',by rw[hsz',hsz];exact hd.symm,by rw[hlim];exact hd.symm,hc'⟩
 |room e c'=>
  simp only[dF.eP,ak]at hc;subst hc;obtain⟨h0,hS,arr,hb,hsz,hle',hcr⟩:=ho;refine main e arr h0 hb (by omega) hcr (λS' h=>h.2.1) λS' w' arr' hS' hx hb' hsz' hc'=> ?_
  exact⟨h0,hS',arr',hb',by omega,by rw[hd];exact hle',hc'⟩
 |_=>simp[fA]at hrow
def stoA(tt:TT)(t:TypeId)(i o n:Nat)(g:Nat->List Value)(h:Heap)(Q:Heap->Prop):Prop:=
 match tt t,h.get i with
 |some ti,some ob=>match ob.eP with
  |some c=>match jK c o with
   |some (o',m,N,_,_)=>bif Nat.beq o o'&&Nat.beq m 1&&Nat.beq n N&&Nat.beq n ti.size&&fA ob then((∀k,k<n->(Nat.beq (g k).length 1&&(g k).all Value.oneCell')=true)/\Q (h.set i (mF ob (putRow c o (.row 1 n g [])))))else False
   |none=>False
  |none=>False
 |_,_=>False
theorem aqz{P:Program}{tt:TT}(hT:tt.ok P){h:Heap}{ρ:Ren}{T:Nat->Prop}{w:World}(hR:Rel h ρ T w){t:TypeId}{i o n:Nat}{g:Nat->List Value}{u x:Value}{Q:Heap->Prop}
  (hl:stoA tt t i o n g h Q) (hu:bF ρ (.ptr i o) u) (hx:bF ρ (.arr n g) x): ∃w' h',(Instr.storeAt t u x).run P w= .ok () w'/\Rel h' ρ T w'/\h'.next=h.next/\Keeps T w w'/\Q h':=by
 unfold stoA at hl;split at hl
 ·rename_i ti ob hti hi
  split at hl
  ·rename_i c hc
   split at hl
   ·rename_i o' m N g0 wr hr
    cases hb:(Nat.beq o o'&&Nat.beq m 1&&Nat.beq n N&&Nat.beq n ti.size&&fA ob)with
    |false=>rw[hb]at hl;exact hl.elim
    |true=>
     rw[hb]at hl;simp only[aP]at hl;simp only[aJ]at hb;obtain⟨⟨⟨⟨e1,e2⟩,e3⟩,e4⟩,hrow⟩:=hb;have:=au e1;subst this;have:=au e2;subst this;have:=au e3;subst this;have e4:=au e4;obtain⟨hall,hq⟩:=hl;simp only[bF]at hu hx;obtain⟨a,ha,rfl⟩:=hu;obtain⟨A,rfl,hA,hg⟩:=hx;have hel: ∀k (hk:k<n),∃v,g k=[v]/\v.oneCell'=true/\A[k]? =some v:=λk hk=>by
      have:=hall k hk;simp only[aJ,List.all_eq_true]at this;obtain⟨v,hv⟩:=List.length_eq_one_iff.1 (au this.1);exact⟨v,hv,this.2 v (by rw[hv];simp),hg k v hk (by rw[hv];rfl)⟩
     have hsz:=(uJ hr).1;obtain⟨w',hrun,hR',hk'⟩:=BX (P:=P) hR (p:=o) (cs:=A.toList) (d:=putRow c o (.row 1 n g [])) hi hrow hc ha (by rw[Array.length_toList];omega)
      (λy hy=>by
       obtain⟨k,hk,rfl⟩:=List.mem_iff_getElem.1 hy;rw[Array.length_toList]at hk;obtain⟨v,_,h1,h2⟩:=hel k (by omega);rw[Array.getElem?_eq_getElem hk]at h2;cases h2
       simpa using h1)
      (mG hr rfl)
      (λarr arr' hcr hs hs' hget=>by
       refine Ih hr rfl hcr (λq hq=>by rw[hget,if_neg (by rw[Array.length_toList];omega)]) λq v hv=> ?_
       have hlt:=Cs.dW hv;simp only[Cs.size]at hlt;obtain⟨y,h1,_,h2⟩:=hel q (by omega);simp only[Cs.get,bg.2 hlt,aP,Cs.eff,Nat.div_one,Nat.mod_one,h1,ah]at hv;cases hv;refine⟨y,?_,by simp only[bF]⟩
       rw[hget,if_pos (by rw[Array.length_toList];omega),show 0+o+q-o=q by omega,Array.getElem?_toList,h2])
     refine⟨w',_,?_,hR',by simp,hk',hq⟩;simp only[Instr.storeAt,Instr.sureAddr,Sem.run_bind,Sem.run_pure,Result.andThen_ok,storeVar,run_sizeOf hT hti];have hsz2:(Value.agg A).cells.size=ti.size:=by simp only[Value.cells];omega
     rw[if_neg (by simpa using hsz2)];exact hrun
   ·exact hl.elim
  ·exact hl.elim
 ·exact hl.elim
def xU(tt:TT)(t:TypeId)(a v:AV)(h:Heap)(Q:Heap->Prop):Prop:=
 match a with
 | .nH i k m j=>match tt t,h.get i,iO v with
  |some ti,some ob,some cs=>match ob.eP,nN cs with
   |some c,some vs=>match jK c j with
    |some (o,m',n,g,wr)=>bif Nat.beq m m'&&Nat.ble o j&&fA ob&&Nat.beq vs.length ti.size&&Nat.ble (j-o+vs.length) m&&vs.all Value.oneCell' then(k<n/\DL g wr k λl=>
     bif Nat.ble (j-o+vs.length) l.length then Q (h.set i (mF ob (putRow c j (.row m n g ((k,Cs.jO (j-o) vs l)::wr)))))else False)else False
    |none=>False
   |_,_=>False
  |_,_,_=>False
 | .ptr i o=>match v with
  | .arr n g=>stoA tt t i o n g h Q
  |v=>match OL tt t (.ptr i o) v h with
   |some h'=>Q h'
   |none=>False
 |a=>match OL tt t a v h with
  |some h'=>Q h'
  |none=>False
theorem mJ{P:Program}{tt:TT}(hT:tt.ok P){h:Heap}{ρ:Ren}{T:Nat->Prop}{w:World}(hR:Rel h ρ T w){t:TypeId}{a v:AV}{u x:Value}{Q:Heap->Prop}
  (hl:xU tt t a v h Q) (hu:bF ρ a u) (hx:bF ρ v x): ∃w' h',(Instr.storeAt t u x).run P w= .ok () w'/\Rel h' ρ T w'/\h'.next=h.next/\Keeps T w w'/\Q h':=by
 unfold xU at hl;split at hl
 ·rename_i i k m j
  split at hl
  ·rename_i ti ob cs hti hi hcs
   split at hl
   ·rename_i c vs hc hvs
    split at hl
    ·rename_i o m' n g wr hr
     cases hb:(Nat.beq m m'&&Nat.ble o j&&fA ob&&Nat.beq vs.length ti.size&&Nat.ble (j-o+vs.length) m&&vs.all Value.oneCell')with
     |false=>rw[hb]at hl;exact hl.elim
     |true=>
      rw[hb]at hl;simp only[aP]at hl;simp only[aJ,List.all_eq_true,Nat.ble_eq]at hb;obtain⟨⟨⟨⟨⟨hm,hoj⟩,hrow⟩,hsz⟩,hjm⟩,h1⟩:=hb;have:=au hm;subst this;have hsz:=au hsz;obtain⟨hk,hl⟩:=hl;have hl:=uK hl;cases hle:Nat.ble (j-o+vs.length) (Cs.eff g wr k).length with
      |false=>rw[hle]at hl;exact hl.elim
      |true=>
       rw[hle]at hl;simp only[aP]at hl;have hle':j-o+vs.length<=(Cs.eff g wr k).length:=by simpa using hle
       simp only[bF]at hu;obtain⟨a,ha,rfl⟩:=hu;have hlr:=lY hcs hx;have hcl:=fM hvs;subst hcl;have hxv:x.cells.toList=vs:=by
        have: ∀(l:List Value) (r:List Value),dQ ρ (l.map .lit) r->r=l:=by
         intro l
         induction l with
         |nil=>intro r hr;simpa[dQ]using hr
         |cons y l ih=>intro r hr;simp only[List.map_cons,dQ,bF]at hr;obtain⟨z,zs,rfl,rfl,hr⟩:=hr;rw[ih zs hr]
        exact this _ _ hlr
       obtain⟨w',hrun,hR',hk'⟩:=xR (P:=P) hR hi hrow hc hr ha hk hjm hle' h1;rw[show o+(k*m+(j-o))=k*m+j by omega]at hrun;refine⟨w',_,?_,hR',by simp,hk',hl⟩;have hsz2:x.cells.size=ti.size:=by rw[<-Array.length_toList,hxv,hsz]
       simp only[Instr.storeAt,Instr.sureAddr,Sem.run_bind,Sem.run_pure,Result.andThen_ok,storeVar,run_sizeOf hT hti];rw[if_neg (by simpa using hsz2)];simp only[hxv];exact hrun
    ·exact hl.elim
   ·exact hl.elim
  ·exact hl.elim
 ·rename_i i o
  split at hl
  ·exact aqz hT hR hl hu hx
  ·split at hl
   ·rename_i h2 hs
    obtain⟨w',h1,h3,h4,h5⟩:=Dv (P:=P) hT hR hs hu hx;exact⟨w',h2,h1,h3,h4,h5,hl⟩
   ·exact hl.elim
 ·split at hl
  ·rename_i h2 hs
   obtain⟨w',h1,h3,h4,h5⟩:=Dv (P:=P) hT hR hs hu hx;exact⟨w',h2,h1,h3,h4,h5,hl⟩
  ·exact hl.elim
def I64(z:Int):Prop:= -9223372036854775808<=z/\z<=9223372036854775807
def arith(k:IntKind)(z:Int)(Q:AV->Prop):Prop:=match k with
 | .i64=>I64 z/\Q (.lit (.int .i64 z))
 |k=>Q (.lit (.int k (k.wrap z)))
theorem wrap_in{z:Int}(h: -9223372036854775808<=z/\z<=9223372036854775807):IntKind.i64.wrap z=z:=by
 have:=h.1;have:=h.2;simp only[IntKind.wrap,IntKind.bits,IntKind.signed];simp;omega
theorem CY{k:IntKind}{z:Int}{Q:AV->Prop}(h:arith k z Q):Q (.lit (.int k (k.wrap z))):=by
 unfold arith at h;split at h
 ·rw[wrap_in h.1];exact h.2
 ·exact h
def Zy :AV->Option (IntKind×Int)
 | .lit (.int k a)=>some (k,a)
 |_=>none
theorem Ii{x:AV}{k:IntKind}{a:Int}(h:Zy x=some (k,a)):x= .lit (.int k a):=by
 unfold Zy at h;split at h
 ·cases h;rfl
 ·cases h
def Zz :AV->Option ByteArray
 | .lit (.string s)=>some s
 |_=>none
theorem Ij{x:AV}{a:ByteArray}(h:Zz x=some a):x= .lit (.string a):=by
 unfold Zz at h;split at h
 ·cases h;rfl
 ·cases h
def ati(op:BinOp)(k:IntKind)(a:Int)(k':IntKind)(b:Int)(Q:AV->Prop):Prop:=match op with
 | .shl=>0<=b/\Q (.lit (.int k (k.wrap (a*2^(min b.toNat k.bits)))))
 | .shr=>0<=b/\Q (.lit (.int k (a.fdiv (2^(min b.toNat k.bits)))))
 |op=>if k=k' then(match op with
  | .add=>arith k (a+b) Q
  | .sub=>arith k (a-b) Q
  | .mul=>arith k (a*b) Q
  | .quo=>b≠0/\arith k (a.tdiv b) Q
  | .rem=>b≠0/\Q (.lit (.int k (a.tmod b)))
  |op=>match aeR op k a b with
   |some v=>Q (.lit v)
   |none=>False)else False
def atY(op:BinOp)(a b:ByteArray)(Q:AV->Prop):Prop:=match op with
 | .add=>((a.size+b.size:Nat):Int)<=9223372036854775807/\Q (.lit (.string (a++b)))
 |op=>match alm op a b with
  |some v=>Q (.lit v)
  |none=>False
def atj(tt:TT)(op:BinOp)(t:TypeId)(x y:AV)(Q:AV->Prop):Prop:=
 match Zy x,Zy y with
 |some (k,a),some (k',b)=>ati op k a k' b Q
 |_,_=>match Zz x,Zz y with
  |some a,some b=>atY op a b Q
  |_,_=>match abL tt op t x y with
   |some v=>Q v
   |none=>False
theorem aqA{P:Program}{tt:TT}(hT:tt.ok P){ρ:Ren}{op:BinOp}{t:TypeId}{xo yo:Operand}{x y:AV}{u v:Value}{Q:AV->Prop}(h:atj tt op t x y Q)
  (hu:bF ρ x u) (hv:bF ρ y v): ∃r,NOk P (ao6 op t xo yo u v) ρ r/\Q r:=by
 have go: ∀r,abL tt op t x y=some r->Q r-> ∃r,NOk P (ao6 op t xo yo u v) ρ r/\Q r:=λr hr hq=>⟨r,ae7 hT hr hu hv,hq⟩
 unfold atj at h;split at h
 ·rename_i k a k' b hx hy
  have:=Ii hx;subst this;have:=Ii hy;subst this;cases op<;>simp only[ati]at h
  case shl=>exact go _ (by have: ¬b<0:=by omega
                           simp[abL,ale,shN,this,Zm]) h.2
  case shr=>exact go _ (by have: ¬b<0:=by omega
                           simp[abL,ale,shN,this,Zm]) h.2
  all_goals
   split at h
   ·rename_i hk
    subst hk
    first
     |exact go _ (by simp[abL,ale,aeR,Zm]) (CY h)
     |exact go _ (by simp[abL,ale,aeR,Zm,h.1]) (CY h.2)
     |exact go _ (by simp[abL,ale,aeR,Zm,h.1]) h.2
     |exact go _ (by simp[abL,ale,aeR,Zm]) h
     |(simp only[aeR]at h)
   ·exact h.elim
 ·split at h
  ·rename_i a b hx hy
   have:=Ij hx;subst this;have:=Ij hy;subst this;cases op<;>simp only[atY]at h
   case add=>
    have hm: ¬((a.size+b.size:Nat):Int)>IntKind.i64.max:=by
     have:IntKind.i64.max=9223372036854775807:=by decide
     rw[this];omega
    exact go _ (by simp only[abL,alm,if_neg hm,Zm]) h.2
   all_goals first
    |exact go _ (by simp only[abL,alm,Zm];rfl) (by simpa only[alm]using h)
    |(simp only[alm]at h)
  ·split at h
   ·rename_i r hr;exact go r hr h
   ·exact h.elim
def abY(tt:TT)(src dst:TypeId)(x:AV)(Q:AV->Prop):Prop:=
 match tt src,tt dst with
 |some ts,some td=>match ts.desc,td.desc,x with
  | .int _,.int k,.lit (.int _ n)=>arith k n Q
  | .string,.string,.lit (.string s)=>Q (.lit (.string s))
  |_,_,_=>False
 |_,_=>False
theorem alC{P:Program}{tt:TT}(hT:tt.ok P){ρ:Ren}{src dst:TypeId}{x:AV}{u:Value}{Q:AV->Prop}(h:abY tt src dst x Q)(hu:bF ρ x u): ∃r,NOk P (convert src dst u) ρ r/\Q r:=by
 unfold abY at h;split at h
 ·rename_i ts td hts htd
  split at h
  ·rename_i k0 k k1 n hs hd
   exact⟨_,JB (P:=P) (r:= .lit (.int k (k.wrap n))) hT (by simp[ae8,hts,htd,hs,hd]) hu,CY h⟩
  ·rename_i s hs hd
   exact⟨_,JB (P:=P) (r:= .lit (.string s)) hT (by simp[ae8,hts,htd,hs,hd]) hu,h⟩
  ·exact h.elim
 ·exact h.elim
def GU(h:Heap)(i:Nat):Nat:=match h.get i with
 |some ob=>match ob.eP with
  |some (.row m _ _ _)=>m
  |_=>0
 |none=>0
def rowH(h:Heap)(i o m:Nat):Bool:=match h.get i with
 |some ob=>match ob.eP with
  |some c=>match jK c o with
   |some (o',m',_,_,_)=>Nat.beq o o'&&Nat.beq m' m
   |none=>false
  |none=>false
 |none=>false
def Ik(tt:TT)(s:TypeId)(x:AV)(f:Nat)(Q:AV->Prop):Prop:=
 match x with
 | .nH i k m j=>match jI tt s (.ptr i j) f with
  |some (.ptr _ j')=>Q (.nH i k m j')
  |_=>False
 |x=>match jI tt s x f with
  |some v=>Q v
  |none=>False
theorem BZ{tt:TT}{s:TypeId}{i f j d:Nat}{r:AV}(h:jI tt s (.ptr i j) f=some r): ∃j',r= .ptr i j'/\jI tt s (.ptr i (d+j)) f=some (.ptr i (d+j')):=by
 unfold jI at h ⊢;split at h
 ·rename_i ts i' o hts hx
  cases hx;split at h
  ·rename_i fs b hfs
   split at h
   ·rename_i off t b' hf
    split at h
    ·rename_i tf htf
     cases hz:Nat.beq tf.size 0 with
     |true=>rw[hz]at h;simp at h
     |false=>
      rw[hz]at h;simp only[aQ,ak]at h;refine⟨j+off,h.symm,?_⟩;simp only[hts,hfs,hf,htf,hz,aQ,Nat.add_assoc]
    ·cases h
   ·cases h
  ·cases h
 ·cases h
theorem aft{P:Program}{tt:TT}(hT:tt.ok P){ρ:Ren}{s:TypeId}{f:Nat}{x:AV}{u:Value}{Q:AV->Prop}(h:Ik tt s x f Q)(hu:bF ρ x u): ∃r,NOk P (Instr.fieldAt s u f) ρ r/\Q r:=by
 unfold Ik at h;split at h
 ·rename_i i k m j
  split at h
  ·rename_i i' j' hf
   obtain⟨j2,h2,h3⟩:=BZ (d:=k*m) hf;cases h2;obtain⟨r,h4,h5⟩:=pY (P:=P) (ρ:=ρ) (u:=u) hT h3 (by simpa only[bF]using hu);exact⟨_,⟨r,h4,by simpa only[bF]using h5⟩,h⟩
  ·exact h.elim
 ·split at h
  ·rename_i v hv;exact⟨v,pY hT hv hu,h⟩
  ·exact h.elim
def lV(tt:TT)(t:TypeId)(x ix:AV)(h:Heap)(Q:AV->Prop):Prop:=
 match tt t,ix with
 |some ti,.lit (.int _ k)=>match ti.desc,x with
  | .array n e,.ptr i o=>match tt e with
   |some te=>(0<=k/\k<(n:Int))/\(bif rowH h i o te.size then Q (.nH i k.toNat te.size o)else Q (.ptr i (o+k.toNat*te.size)))
   |none=>False
  | .array n e,.nH i q m j=>match tt e with
   |some te=>(0<=k/\k<(n:Int))/\Q (.nH i q m (j+k.toNat*te.size))
   |none=>False
  | .slice e,.sl i o n _=>match tt e with
   |some te=>(0<=k/\k<(n:Int))/\(bif Nat.beq o 0&&Nat.beq (GU h i) te.size then Q (.nH i k.toNat te.size 0)else Q (.ptr i (o+k.toNat*te.size)))
   |none=>False
  | .slice e,.slU i o n _=>match tt e with
   |some te=>(0<=k/\k<(n:Int))/\(bif Nat.beq o 0&&Nat.beq (GU h i) te.size then Q (.nH i k.toNat te.size 0)else Q (.ptr i (o+k.toNat*te.size)))
   |none=>False
  | .slice e,.slE i q m n _=>match tt e with
   |some te=>bif Nat.beq m te.size then((0<=k/\k<(n:Int))/\Q (.nH i (q+k.toNat) m 0))else False
   |none=>False
  | .slice e,.slW i q m n=>match tt e with
   |some te=>bif Nat.beq m te.size then((0<=k/\k<(n:Int))/\Q (.nH i (q+k.toNat) m 0))else False
   |none=>False
  | .slice e,.slR i q m n=>match tt e with
   |some te=>bif Nat.beq m te.size then((0<=k/\k<(n:Int))/\Q (.nH i (q+k.toNat) m 0))else False
   |none=>False
  |_,_=>False
 |_,_=>False
theorem mM{P:Program}{tt:TT}(hT:tt.ok P){t e:TypeId}{ti te:TI}(hti:tt t=some ti)(hd:ti.desc= .slice e)(hte:tt e=some te){b p n c:Nat}{kk:IntKind}{k:Int}(hk:0<=k/\k<(n:Int))(w:World):
  (Instr.indexAt t (.slice (some ⟨b,p,none⟩) n c) (.int kk k)).run P w= .ok (.pointer (some ⟨b,p+k.toNat*te.size,none⟩)) w:=by
 obtain⟨d1,r1,_,m1⟩:=dH (P:=P) hT hti w;rw[dB (m1.trans hd)]at r1;simp[Instr.indexAt,asIntOf,r1,hk,run_sizeOf hT hte,dS]
theorem JM{P:Program}{tt:TT}(hT:tt.ok P){ρ:Ren}{t:TypeId}{x ix:AV}{h:Heap}{u v:Value}{Q:AV->Prop}(hq:lV tt t x ix h Q)(hu:bF ρ x u)(hv:bF ρ ix v):
  ∃r,NOk P (Instr.indexAt t u v) ρ r/\Q r:=by
 have row: ∀(i o m:Nat) (k:Int) (b:Bool),NOk P (Instr.indexAt t u v) ρ (.ptr i (o+k.toNat*m))->b=(Nat.beq o 0&&Nat.beq (GU h i) m)->(bif b then Q (.nH i k.toNat m 0)else Q (.ptr i (o+k.toNat*m)))-> ∃r,NOk P (Instr.indexAt t u v) ρ r/\Q r:=by
  intro i o m k b hn hb hq;cases b with
  |false=>exact⟨_,hn,hq⟩
  |true=>
   have hb:=hb.symm;simp only[aJ]at hb;have:=au hb.1;subst this;obtain⟨r,h1,h2⟩:=hn;exact⟨_,⟨r,h1,by simpa only[bF,aA,aI]using h2⟩,hq⟩
 unfold lV at hq;split at hq
 ·rename_i ti kk k hti
  split at hq
  ·rename_i n e i o hd
   split at hq
   ·rename_i te hte
    obtain⟨hk,hq⟩:=hq;have hn:=jM (P:=P) (ρ:=ρ) (t:=t) (x:= .ptr i o) (ix:= .lit (.int kk k)) (r:= .ptr i (o+k.toNat*te.size)) hT (by simp[ku,hti,hd,hte,hk]) hu hv;cases hb:rowH h i o te.size with
    |false=>rw[hb]at hq;exact⟨_,hn,hq⟩
    |true=>
     rw[hb]at hq;obtain⟨r,h1,h2⟩:=hn;exact⟨_,⟨r,h1,by simp only[bF]at h2 ⊢;rw[Nat.add_comm (k.toNat*te.size) o];exact h2⟩,hq⟩
   ·exact hq.elim
  ·rename_i n e i q m j hd
   split at hq
   ·rename_i te hte
    obtain⟨hk,hq⟩:=hq;obtain⟨r,h1,h2⟩:=jM (P:=P) (ρ:=ρ) (t:=t) (x:= .ptr i (q*m+j)) (ix:= .lit (.int kk k)) (r:= .ptr i (q*m+j+k.toNat*te.size)) hT (by simp[ku,hti,hd,hte,hk]) (by simpa only[bF]using hu) hv;exact⟨_,⟨r,h1,by simpa only[bF,Nat.add_assoc]using h2⟩,hq⟩
   ·exact hq.elim
  ·rename_i e i o n c hd
   split at hq
   ·rename_i te hte
    obtain⟨hk,hq⟩:=hq;exact row i o te.size k _ (jM (P:=P) (ix:= .lit (.int kk k)) hT (by simp[ku,hti,hd,hte,hk]) hu hv) rfl hq
   ·exact hq.elim
  ·rename_i e i o n c hd
   split at hq
   ·rename_i te hte
    obtain⟨hk,hq⟩:=hq;exact row i o te.size k _ (jM (P:=P) (ix:= .lit (.int kk k)) hT (by simp[ku,hti,hd,hte,hk]) hu hv) rfl hq
   ·exact hq.elim
  ·rename_i e i q m n c hd
   split at hq
   ·rename_i te hte
    cases hm:Nat.beq m te.size with
    |false=>rw[hm]at hq;exact hq.elim
    |true=>
     rw[hm]at hq;simp only[aP]at hq;have:=au hm;subst this;obtain⟨hk,hq⟩:=hq;simp only[bF]at hu hv;subst hv;obtain⟨a,p,ha,rfl,hnc,hp⟩:=hu;refine⟨_,⟨_,λw=>mM hT hti hd hte hk w,?_⟩,hq⟩;have:=hp (by omega);simp only[bF];exact⟨a,ha,by rw[this,Nat.add_mul];simp[Nat.add_assoc]⟩
   ·exact hq.elim
  ·rename_i e i q m n hd
   split at hq
   ·rename_i te hte
    cases hm:Nat.beq m te.size with
    |false=>rw[hm]at hq;exact hq.elim
    |true=>
     rw[hm]at hq;simp only[aP]at hq;have:=au hm;subst this;obtain⟨hk,hq⟩:=hq;simp only[bF]at hu hv;subst hv;obtain⟨a,p,c,ha,rfl,hnc,hp⟩:=hu;refine⟨_,⟨_,λw=>mM hT hti hd hte hk w,?_⟩,hq⟩;have:=(hp (by omega)).1;simp only[bF];exact⟨a,ha,by rw[this,Nat.add_mul];simp[Nat.add_assoc]⟩
   ·exact hq.elim
  ·rename_i e i q m n hd
   split at hq
   ·rename_i te hte
    cases hm:Nat.beq m te.size with
    |false=>rw[hm]at hq;exact hq.elim
    |true=>
     rw[hm]at hq;simp only[aP]at hq;have:=au hm;subst this;obtain⟨hk,hq⟩:=hq;simp only[bF]at hu hv;subst hv;rcases hu with ⟨rfl,_⟩|⟨a,p,c,ha,rfl,hnc,hp⟩
     ·omega
     ·refine⟨_,⟨_,λw=>mM hT hti hd hte hk w,?_⟩,hq⟩
      have:=hp (by omega);simp only[bF];exact⟨a,ha,by rw[this,Nat.add_mul];simp[Nat.add_assoc]⟩
   ·exact hq.elim
  ·exact hq.elim
 ·exact hq.elim
def eG(s:ByteArray)(k:Nat):Int:=((s.data.toList.getD k 0).toNat:Int)
def Il(tt:TT)(t:TypeId)(x ix:AV)(Q:AV->Prop):Prop:=
 match tt t,ix with
 |some ti,.lit (.int _ k)=>match ti.desc,x with
  | .string,.lit (.string s)=>(0<=k/\k<(s.size:Int))/\Q (.lit (.int .u8 (eG s k.toNat)))
  | .array n e,.arr n' g=>match tt e with
   |some te=>bif !te.agg&&Nat.beq te.size 1 then((0<=k/\k<(n:Int))/\k.toNat<n'/\xO te.desc (g k.toNat) Q)else False
   |none=>False
  | .array n e,x=>match xq x,tt e with
   |some cs,some te=>(0<=k/\k<(n:Int))/\(match BR tt e cs (k.toNat*te.size)with
    |some v=>Q v
    |none=>False)
   |_,_=>False
  |_,_=>False
 |_,_=>False
theorem afu{P:Program}{tt:TT}(hT:tt.ok P){ρ:Ren}{t:TypeId}{x ix:AV}{u v:Value}{Q:AV->Prop}(hq:Il tt t x ix Q)(hu:bF ρ x u)(hv:bF ρ ix v): ∃r,NOk P (Instr.index t u v) ρ r/\Q r:=by
 unfold Il at hq;split at hq
 ·rename_i ti kk k hti
  split at hq
  ·rename_i s hd
   obtain⟨hk,hq⟩:=hq;refine⟨_,xB (P:=P) (ix:= .lit (.int kk k)) (r:= .lit (.int .u8 (eG s k.toNat))) hT ?_ hu hv,hq⟩;have hlt:k.toNat<s.size:=by omega
   have hlt':k.toNat<s.data.size:=hlt;have:s[k.toNat]? =some s[k.toNat]:=by simp only[getElem?_def,hlt,dite_true]
   simp only[H7,hti,hd,if_pos hk.1,this,eG,List.getD_eq_getElem?_getD];have e:s.data.toList[k.toNat]? =some s[k.toNat]:=by
    rw[Array.getElem?_toList,Array.getElem?_eq_getElem hlt'];rfl
   rw[e];rfl
  ·rename_i n e n' g hd
   split at hq
   ·rename_i te hte
    cases hb:(!te.agg&&Nat.beq te.size 1)with
    |false=>rw[hb]at hq;exact hq.elim
    |true=>
     rw[hb]at hq;simp only[aP]at hq;simp only[aJ,Bool.not_eq_true']at hb;obtain⟨hag,hsz⟩:=hb;have hsz:=au hsz;obtain⟨hk,hk',hq⟩:=hq;simp only[bF]at hu;obtain⟨A,rfl,hA,hg⟩:=hu;have hlt:k.toNat<A.size:=by omega
     have hu':bF ρ (.agg (A.toList.map .lit)) (.agg A):=by simp only[bF];exact⟨A,rfl,dQ.lits _⟩
     have hn:NOk P (Instr.index t (.agg A) v) ρ (.lit A[k.toNat]):=
      xB (P:=P) (x:= .agg (A.toList.map .lit)) (ix:= .lit (.int kk k)) hT (by simp[H7,hti,hd,xq,hte,hk,BR,hag,hsz,hlt]) hu' hv
     obtain⟨r,h1,h2⟩:=hn;obtain⟨y,hy,hq⟩:=DN hq;have:=hg _ _ hk' hy;rw[Array.getElem?_eq_getElem hlt]at this;cases this;exact⟨_,⟨r,h1,h2⟩,hq⟩
   ·exact hq.elim
  ·rename_i n e hd hne
   split at hq
   ·rename_i cs te hcs hte
    obtain⟨hk,hq⟩:=hq;split at hq
    ·rename_i v hp
     exact⟨v,xB (P:=P) (ix:= .lit (.int kk k)) hT (by simp[H7,hti,hd,hcs,hte,hk,hp]) hu hv,hq⟩
    ·exact hq.elim
   ·exact hq.elim
  ·exact hq.elim
 ·exact hq.elim
def zl(tt:TT)(t:TypeId)(x:AV)(f:Nat)(Q:AV->Prop):Prop:=match x with
 | .arr n g=>match tt t with
  |some ti=>match ti.desc with
   | .struct fs _=>match fs[f]? with
    |some (off,ft,_)=>match tt ft with
     |some tf=>bif Nat.ble (off+tf.size) n then(bif tf.agg then Q (.arr tf.size (λq=>g (off+q)))else bif Nat.beq tf.size 1 then xO tf.desc (g off) Q else False)else False
     |none=>False
    |none=>False
   |_=>False
  |none=>False
 |x=>match fieldN tt t x f with
  |some v=>Q v
  |none=>False
theorem abZ{P:Program}{tt:TT}(hT:tt.ok P){ρ:Ren}{t:TypeId}{f:Nat}{x:AV}{u:Value}{Q:AV->Prop}(h:zl tt t x f Q)(hu:bF ρ x u): ∃r,NOk P (Instr.field t u f) ρ r/\Q r:=by
 unfold zl at h;split at h
 ·rename_i n g
  split at h
  ·rename_i ti hti
   split at h
   ·rename_i fs bb hd
    split at h
    ·rename_i off ft b2 hf
     split at h
     ·rename_i tf htf
      cases hb:Nat.ble (off+tf.size) n with
      |false=>rw[hb]at h;exact h.elim
      |true=>
       rw[hb]at h;simp only[aP]at h;have hb:off+tf.size<=n:=by simpa using hb
       simp only[bF]at hu;obtain⟨A,rfl,hA,hg⟩:=hu;have hu':bF ρ (.agg (A.toList.map .lit)) (.agg A):=by simp only[bF];exact⟨A,rfl,dQ.lits _⟩
       have hlen:(A.toList.map AV.lit).length=n:=by simp[hA]
       cases hagg:tf.agg with
       |true=>
        rw[hagg]at h;simp only[aP]at h;have hb2:Nat.ble (off+tf.size) (A.toList.map AV.lit).length=true:=by rw[hlen];simpa using hb
        obtain⟨r,h1,h2⟩:=xA (P:=P) (ρ:=ρ) (t:=t) (f:=f) (r:= .agg (((A.toList.map AV.lit).drop off).take tf.size)) hT (by simp only[fieldN,hti,xq,hd,hf,BR,htf,hagg,aP,takeN,hb2]) hu';refine⟨_,⟨r,h1,?_⟩,h⟩;simp only[bF]at h2 ⊢;obtain⟨vs,rfl,hl⟩:=h2;refine⟨vs,rfl,?_,λk y hk hy=> ?_⟩
        ·rw[<-Array.length_toList,<-hl.length,List.length_take,List.length_drop,hlen];omega
        ·have:=hg (off+k) y (by omega) hy
         obtain⟨z,hz,hr⟩:=hl.get k (.lit y) (by rw[List.getElem?_take,if_pos hk,List.getElem?_drop,List.getElem?_map,Array.getElem?_toList,this];rfl);simp only[bF]at hr;subst hr;simpa using hz
       |false=>
        rw[hagg]at h;simp only[aQ]at h;cases hs:Nat.beq tf.size 1 with
        |false=>rw[hs]at h;exact h.elim
        |true=>
         rw[hs]at h;simp only[aP]at h;have hs:=au hs;obtain⟨y,hy,hq⟩:=DN h;have:=hg off y (by omega) hy
         obtain⟨r,h1,h2⟩:=xA (P:=P) (ρ:=ρ) (t:=t) (f:=f) (r:= .lit y) hT (by
          simp only[fieldN,hti,xq,hd,hf,BR,htf,hagg,aQ]
          rw[List.getElem?_map,Array.getElem?_toList,this];rfl) hu'
         exact⟨_,⟨r,h1,h2⟩,hq⟩
     ·exact h.elim
    ·exact h.elim
   ·exact h.elim
  ·exact h.elim
 ·split at h
  ·rename_i v hv;exact⟨v,xA hT hv hu,h⟩
  ·exact h.elim
def vB(x:Option AV)(d:Nat)(Q:Nat->Prop):Prop:=match x with
 |none=>Q d
 |some (.lit (.int _ z))=>0<=z/\Q z.toNat
 |_=>False
theorem aqB{ρ:Ren}{x:Option AV}{d:Nat}{Q:Nat->Prop}(h:vB x d Q){v:Option Value}(hv:qc ρ x v): ∃k,Q k/\(x=none/\k=d\/ ∃kk,x=some (.lit (.int kk (k:Int)))):=by
 unfold vB at h;split at h
 ·exact⟨d,h,.inl ⟨rfl,rfl⟩⟩
 ·rename_i kk z
  refine⟨z.toNat,h.2,.inr ⟨kk,?_⟩⟩;rw[Int.toNat_of_nonneg h.1]
 ·exact h.elim
theorem afv{x:Option AV}{d k lim:Nat}(h:x=none/\k=d\/ ∃kk,x=some (.lit (.int kk (k:Int))))(hk:k<=lim):bnd x d lim=some k:=by
 rcases h with ⟨rfl,rfl⟩|⟨kk,rfl⟩
 ·rfl
 ·simp only[bnd]
  rw[if_pos ⟨by omega,by omega⟩,ay]
def Cb(n c:Nat)(lo hi mx:Option AV)(Q:Nat->Nat->Nat->Prop):Prop:=
 match hi,mx with
 |none,some _=>False
 |hi,mx=>vB mx c λm=>vB hi n λh=>vB lo 0 λl=>(l<=h/\h<=m/\m<=c)/\Q l h m
theorem lQ{ρ:Ren}{n c:Nat}{lo hi mx:Option AV}{Q:Nat->Nat->Nat->Prop}(hq:Cb n c lo hi mx Q){vl vh vm:Option Value}(hl:qc ρ lo vl)(hh:qc ρ hi vh)(hm:qc ρ mx vm):
  ∃l h m,Q l h m/\l<=h/\h<=m/\m<=c/\(mx=none->m=c)/\OO n c lo hi mx=some (l,h,m):=by
 unfold Cb at hq;split at hq
 ·exact hq.elim
 ·rename_i hne
  obtain⟨m,hq,e1⟩:=aqB hq hm;obtain⟨h,hq,e2⟩:=aqB hq hh;obtain⟨l,⟨⟨h1,h2,h3⟩,hq⟩,e3⟩:=aqB hq hl;have hmc:mx=none->m=c:=λe=>by
   rcases e1 with ⟨_,e1⟩|⟨_,e1⟩
   ·exact e1
   ·rw[e]at e1;cases e1
  refine⟨l,h,m,hq,h1,h2,h3,hmc,?_⟩;have b1:=afv e1 h3;have b2:=afv e2 h2;have b3:=afv e3 h1;cases mx with
  |none=>
   have:=hmc rfl;subst this;rw[OQ,b2];simp only[b3]
  |some y=>
   cases hi with
   |none=>exact(hne _ rfl rfl).elim
   |some z=>simp only[OO,b1,b2,b3]
def alD(i q m n c:Nat)(lo hi mx:Option AV)(Q:AV->Prop):Prop:=Cb n c lo hi mx λl h c'=>Q (.slE i (q+l) m (h-l) (c'-l))
def Io(tt:TT)(t:TypeId)(x:AV)(lo hi mx:Option AV)(h:Heap)(Q:AV->Prop):Prop:=
 match tt t with
 |some ti=>match ti.desc,x with
  | .string,.lit (.string s)=>match mx with
   |none=>Cb s.size s.size lo hi none λl h _=>Q (.lit (.string (s.extract l h)))
   |some _=>False
  | .slice e,.slE i q m n c=>match tt e with
   |some te=>bif Nat.beq m te.size then alD i q m n c lo hi mx Q else False
   |none=>False
  | .slice e,.slW i q m n=>match tt e with
   |some te=>bif Nat.beq m te.size then(match mx with
    |none=>Cb n n lo hi none λl h _=>Q (.slW i (q+l) m (h-l))
    |some x=>alD i q m n n lo hi (some x) Q)else False
   |none=>False
  | .slice e,.slR i q m n=>match tt e,mx with
   |some te,none=>bif Nat.beq m te.size then Cb n n lo hi none λl h _=>Q (.slR i (q+l) m (h-l))else False
   |_,_=>False
  | .slice e,.sl i o n c=>match tt e with
   |some te=>bif Nat.beq o 0&&Nat.beq (GU h i) te.size then alD i 0 te.size n c lo hi mx Q else(match oU tt t (.sl i o n c) lo hi mx with
    |some v=>Q v
    |none=>False)
   |none=>False
  | .slice e,.slU i o n sz=>match tt e with
   |some te=>bif Nat.beq o 0&&Nat.beq (GU h i) te.size&&Nat.beq sz te.size then(match mx with
    |none=>Cb n n lo hi none λl h _=>Q (.slW i l te.size (h-l))
    |some x=>alD i 0 te.size n n lo hi (some x) Q)else(match oU tt t (.slU i o n sz) lo hi mx with
    |some v=>Q v
    |none=>False)
   |none=>False
  | .slice e,.lit (.slice none n c)=>match tt e with
   |some _=>Cb n c lo hi mx λl h m=>Q (.lit (.slice none (h-l) (m-l)))
   |none=>False
  | .slice e,.lit (.slice (some a) n c)=>match tt e with
   |some te=>Cb n c lo hi mx λl h m=>Q (.lit (.slice (some (if m=l then a else a.add (l*te.size))) (h-l) (m-l)))
   |none=>False
  | .array n e,.ptr i o=>match tt e with
   |some te=>bif Nat.beq o 0&&Nat.beq (GU h i) te.size then alD i 0 te.size n n lo hi mx Q else(match oU tt t (.ptr i o) lo hi mx with
    |some v=>Q v
    |none=>False)
   |none=>False
  | .array n e,.nH i k m j=>match tt e with
   |some te=>bif Nat.beq te.size 1&&Nat.beq (GU h i) 1 then alD i (k*m+j) 1 n n lo hi mx Q else False
   |none=>False
  |_,x=>match oU tt t x lo hi mx with
   |some v=>Q v
   |none=>False
 |none=>False
theorem jR{P:Program}{tt:TT}(hT:tt.ok P){t e:TypeId}{ti te:TI}(hti:tt t=some ti)(hd:ti.desc= .slice e)(hte:tt e=some te){b p n c l h m:Nat}{lo hi mx:Option AV}{vl vh vm:Option Value}{ρ:Ren}
  (hb:OO n c lo hi mx=some (l,h,m)) (hl:qc ρ lo vl) (hh:qc ρ hi vh) (hm:qc ρ mx vm) (w:World):
  (Instr.sliceAt t (.slice (some ⟨b,p,none⟩) n c) vl vh vm).run P w= .ok (.slice (if m=l then some ⟨b,p,none⟩else some ⟨b,p+l*te.size,none⟩) (h-l) (m-l)) w:=by
 obtain⟨d1,r1,_,m1⟩:=dH (P:=P) hT hti w;rw[dB (m1.trans hd)]at r1;have hb':=vM (P:=P) (b:=true) hb hl hh hm w;simp[Instr.sliceAt,Instr.slice,r1,hb',run_sizeOf hT hte,dS]
theorem aqC{ρ:Ren}{i q m l h c' c:Nat}{a:Loc}{p:Nat}(ha:ρ i=some a)(hp:c≠0->p=a.base+q*m)(h1:l<=h)(h2:h<=c')(h3:c'<=c):
  bF ρ (.slE i (q+l) m (h-l) (c'-l)) (.slice (if c'=l then some ⟨a.blk,p,none⟩else some ⟨a.blk,p+l*m,none⟩) (h-l) (c'-l)):=by
 simp only[bF];by_cases hc:c'=l
 ·subst hc
  exact⟨a,p,ha,by simp,by omega,by omega⟩
 ·refine⟨a,p+l*m,ha,by simp[hc],by omega,λ_=> ?_⟩
  rw[hp (by omega),Nat.add_mul,Nat.add_assoc]
theorem afw{P:Program}{tt:TT}(hT:tt.ok P){ρ:Ren}{t:TypeId}{x:AV}{hp:Heap}{u:Value}{lo hi mx:Option AV}{vl vh vm:Option Value}{Q:AV->Prop}(hq:Io tt t x lo hi mx hp Q)
  (hu:bF ρ x u) (hl:qc ρ lo vl) (hh:qc ρ hi vh) (hm:qc ρ mx vm): ∃r,NOk P (Instr.sliceAt t u vl vh vm) ρ r/\Q r:=by
 have old:(match oU tt t x lo hi mx with|some v=>Q v|none=>False)-> ∃r,NOk P (Instr.sliceAt t u vl vh vm) ρ r/\Q r:=λh=>by
  split at h
  ·rename_i v hv;exact⟨v,mg hT hv hu hl hh hm,h⟩
  ·exact h.elim
 have cut: ∀{e:TypeId} {ti te:TI} {i q n c p:Nat} {a:Loc} {mx':Option AV},tt t=some ti->ti.desc= .slice e->tt e=some te->ρ i=some a->u= .slice (some ⟨a.blk,p,none⟩) n c->(c≠0->p=a.base+q*te.size)->
   qc ρ mx' vm-> ∀c0,c0<=c->(mx'=none->c0=c)->alD i q te.size n c0 lo hi mx' Q-> ∃r,NOk P (Instr.sliceAt t u vl vh vm) ρ r/\Q r:=by
  intro e ti te i q n c p a mx' hti hd hte ha hu hp hm c0 hc0 hc1 hq;obtain⟨l,h,c',hq,h1,h2,h3,h4,hb⟩:=lQ hq hl hh hm;have hb':OO n c lo hi mx'=some (l,h,c'):=by
   cases mx' with
   |none=>rw[<-hc1 rfl];exact hb
   |some y=>
    unfold OO at hb ⊢;split at hb
    ·rename_i m hmm
     have e:bnd (some y) c c=bnd (some y) c0 c:=by cases y<;>first|rfl|(rename_i v;cases v<;>rfl)
     rw[e,ae9 hmm hc0];exact hb
    ·cases hb
  subst hu;exact⟨_,⟨_,λw=>jR hT hti hd hte hb' hl hh hm w,aqC ha hp h1 h2 (Nat.le_trans h3 hc0)⟩,hq⟩
 unfold Io at hq;split at hq
 ·rename_i ti hti
  split at hq
  ·rename_i s hd
   split at hq
   ·obtain⟨l,h,m,hq,_,_,_,_,hb⟩:=lQ hq hl hh (vm:=none) rfl
    exact⟨_,mg (P:=P) (r:= .lit (.string (s.extract l h))) hT (by simp[oU,hti,hd,hb]) hu hl hh hm,hq⟩
   ·exact hq.elim
  ·rename_i e i q m n c hd
   split at hq
   ·rename_i te hte
    cases hmb:Nat.beq m te.size with
    |false=>rw[hmb]at hq;exact hq.elim
    |true=>
     rw[hmb]at hq;simp only[aP]at hq;have:=au hmb;subst this;simp only[bF]at hu;obtain⟨a,p,ha,hue,hnc,hp⟩:=hu;exact cut hti hd hte ha hue hp hm c (aY _) (λ_=>rfl) hq
   ·exact hq.elim
  ·rename_i e i q m n hd
   split at hq
   ·rename_i te hte
    cases hmb:Nat.beq m te.size with
    |false=>rw[hmb]at hq;exact hq.elim
    |true=>
     rw[hmb]at hq;simp only[aP]at hq;have:=au hmb;subst this;simp only[bF]at hu;obtain⟨a,p,c,ha,hue,hnc,hp⟩:=hu;split at hq
     ·obtain⟨l,h,m',hq2,h1,h2,h3,h4,hb⟩:=lQ hq hl hh (vm:=none) rfl
      simp only[qc]at hm;subst hm;have:=h4 rfl;subst this;have hb':=CU hb hnc;subst hue;refine⟨_,⟨_,λw=>jR hT hti hd hte hb' hl hh (by simp[qc]) w,?_⟩,hq2⟩;simp only[bF];by_cases hc:c=l
      ·subst hc
       exact⟨a,p,0,ha,by simp,by omega,by omega⟩
      ·refine⟨a,p+l*te.size,c-l,ha,by simp[hc],by omega,λ_=> ?_⟩
       obtain⟨e1,e2⟩:=hp (by omega);refine⟨by rw[e1,Nat.add_mul,Nat.add_assoc],?_⟩;rw[Nat.add_mul,Nat.add_assoc,<-Nat.add_mul,show l+(c-l)=c by omega];exact e2
     ·exact cut hti hd hte ha hue (λh=>(hp h).1) hm n hnc (λh=>by cases h) hq
   ·exact hq.elim
  ·rename_i e i q m n hd
   split at hq
   ·rename_i te hte
    cases hmb:Nat.beq m te.size with
    |false=>rw[hmb]at hq;exact hq.elim
    |true=>
     rw[hmb]at hq;simp only[aP]at hq;have:=au hmb;subst this;simp only[bF]at hu;simp only[qc]at hm;subst hm;obtain⟨l,h,m',hq2,h1,h2,h3,h4,hb⟩:=lQ hq hl hh (vm:=none) rfl;have:=h4 rfl;subst this;rcases hu with ⟨rfl,rfl⟩|⟨a,p,c,ha,rfl,hnc,hp⟩
     ·obtain⟨r,hr1,hr2⟩:=mg (P:=P) (ρ:=ρ) (t:=t) (x:= .lit (.slice none 0 0)) (lo:=lo) (hi:=hi) (mx:=none) (r:= .lit (.slice none (h-l) (0-l))) (vm:=none) (u:= .slice none 0 0) hT (by simp only[oU,hti,hd,hte,hb]) (by simp only[bF]) hl hh rfl
      refine⟨_,⟨r,hr1,?_⟩,hq2⟩;simp only[bF]at hr2 ⊢;have h0:h=0:=by omega
      subst h0;have l0:l=0:=by omega
      subst l0;exact .inl ⟨rfl,by simpa using hr2⟩
     ·have hb':=CU hb hnc
      refine⟨_,⟨_,λw=>jR hT hti hd hte hb' hl hh (by simp[qc]) w,?_⟩,hq2⟩;simp only[bF];refine .inr ?_;by_cases hc:c=l
      ·subst hc
       exact⟨a,p,0,ha,by simp,by omega,by omega⟩
      ·refine⟨a,p+l*te.size,c-l,ha,by simp[hc],by omega,λ_=> ?_⟩
       rw[hp (by omega),Nat.add_mul,Nat.add_assoc]
   ·exact hq.elim
  ·rename_i e i o n c hd
   split at hq
   ·rename_i te hte
    cases hb:(Nat.beq o 0&&Nat.beq (GU hp i) te.size)with
    |false=>rw[hb]at hq;exact old hq
    |true=>
     rw[hb]at hq;simp only[aP]at hq;simp only[aJ]at hb;have:=au hb.1;subst this;simp only[bF]at hu;obtain⟨a,ha,hue⟩:=hu;exact cut (q:=0) hti hd hte ha hue (λ_=>by simp) hm c (aY _) (λ_=>rfl) hq
   ·exact hq.elim
  ·rename_i e i o n sz hd
   split at hq
   ·rename_i te hte
    cases hb:(Nat.beq o 0&&Nat.beq (GU hp i) te.size&&Nat.beq sz te.size)with
    |false=>rw[hb]at hq;exact old hq
    |true=>
     rw[hb]at hq;simp only[aP]at hq;simp only[aJ]at hb;have:=au hb.1.1;subst this;have:=au hb.2;subst this;simp only[bF]at hu;obtain⟨a,c,ha,hue,hnc,hlim⟩:=hu;split at hq
     ·obtain⟨l,h,m',hq2,h1,h2,h3,h4,hb⟩:=lQ hq hl hh (vm:=none) rfl
      simp only[qc]at hm;subst hm;have:=h4 rfl;subst this;have hb':=CU hb hnc;subst hue;refine⟨_,⟨_,λw=>jR hT hti hd hte hb' hl hh (by simp[qc]) w,?_⟩,hq2⟩;simp only[bF];by_cases hc:c=l
      ·subst hc
       exact⟨a,a.base+0,0,ha,by simp,by omega,by omega⟩
      ·refine⟨a,a.base+0+l*te.size,c-l,ha,by simp[hc],by omega,λ_=>⟨by simp,?_⟩⟩
       rw[<-Nat.add_mul,show l+(c-l)=c by omega];omega
     ·exact cut (q:=0) hti hd hte ha hue (λ_=>by simp) hm n hnc (λh=>by cases h) hq
   ·exact hq.elim
  ·rename_i e n c hd
   split at hq
   ·rename_i te hte
    obtain⟨l,h,m,hq,_,_,_,_,hb⟩:=lQ hq hl hh hm;exact⟨_,mg (P:=P) (r:= .lit (.slice none (h-l) (m-l))) hT (by simp[oU,hti,hd,hte,hb]) hu hl hh hm,hq⟩
   ·exact hq.elim
  ·rename_i e a n c hd
   split at hq
   ·rename_i te hte
    obtain⟨l,h,m,hq,_,_,_,_,hb⟩:=lQ hq hl hh hm;simp only[bF]at hu;subst hu;refine⟨_,⟨.slice (some (if m=l then a else a.add (l*te.size))) (h-l) (m-l),λw=> ?_,by simp only[bF]⟩,hq⟩;obtain⟨d1,r1,_,m1⟩:=dH (P:=P) hT hti w;rw[dB (m1.trans hd)]at r1;have hb':=vM (P:=P) (b:=true) hb hl hh hm w;simp only[Instr.sliceAt,Instr.slice,r1,Sem.run_bind,Result.andThen_ok,hb',run_sizeOf hT hte];split<;>simp_all
   ·exact hq.elim
  ·rename_i n e i o hd
   split at hq
   ·rename_i te hte
    cases hb:(Nat.beq o 0&&Nat.beq (GU hp i) te.size)with
    |false=>rw[hb]at hq;exact old hq
    |true=>
     rw[hb]at hq;simp only[aP]at hq;simp only[aJ]at hb;have:=au hb.1;subst this;obtain⟨l,h,m,hq,h1,h2,h3,h4,hb⟩:=lQ hq hl hh hm;obtain⟨r,hr1,hr2⟩:=mg (P:=P) (t:=t) (x:= .ptr i 0) (lo:=lo) (hi:=hi) (mx:=mx) (r:= .sl i (if m=l then 0 else 0+l*te.size) (h-l) (m-l)) hT (by simp only[oU,hti,hd,hte,hb]) hu hl hh hm;refine⟨_,⟨r,hr1,?_⟩,hq⟩;simp only[bF]at hr2 ⊢;obtain⟨a,ha,rfl⟩:=hr2;exact⟨a,_,ha,rfl,by omega,λhc=>by rw[if_neg (by omega)];simp⟩
   ·exact hq.elim
  ·rename_i n e i k m j hd
   split at hq
   ·rename_i te hte
    cases hb:(Nat.beq te.size 1&&Nat.beq (GU hp i) 1)with
    |false=>rw[hb]at hq;exact hq.elim
    |true=>
     rw[hb]at hq;simp only[aP]at hq;simp only[aJ]at hb;have e1:=au hb.1;obtain⟨l,h,m',hq,h1,h2,h3,h4,hb⟩:=lQ hq hl hh hm;obtain⟨r,hr1,hr2⟩:=mg (P:=P) (ρ:=ρ) (u:=u) (t:=t) (x:= .ptr i (k*m+j)) (lo:=lo) (hi:=hi) (mx:=mx) (r:= .sl i (if m'=l then k*m+j else k*m+j+l*te.size) (h-l) (m'-l)) hT (by simp only[oU,hti,hd,hte,hb]) (by simpa only[bF]using hu) hl hh hm;refine⟨_,⟨r,hr1,?_⟩,hq⟩;simp only[bF]at hr2 ⊢;obtain⟨a,ha,rfl⟩:=hr2;exact⟨a,_,ha,rfl,by omega,λhc=>by rw[if_neg (by omega),e1];omega⟩
   ·exact hq.elim
  ·exact old hq
 ·exact hq.elim
def nrm:AV->AV
 | .slZ _ i k m n=> .slR i k m n
 | .slV _ i m n=> .slR i 0 m n
 |v=>v
theorem vP{ρ:Ren}{x:AV}{u:Value}(h:bF ρ x u):bF ρ (nrm x) u:=by
 cases x<;>try exact h
 ·simp only[nrm,bF]at h ⊢
  rcases h with ⟨_,h⟩|⟨_,h⟩
  ·exact .inl h
  ·exact .inr h
 ·simp only[nrm,bF]at h ⊢
  rcases h with ⟨_,h⟩|⟨_,a,p,c,h1,h2,h3,h4⟩
  ·exact .inl h
  ·exact .inr ⟨a,p,c,h1,h2,h3,λhn=>by rw[Nat.zero_mul,aI];exact(h4 (by omega)).1⟩
def nrmA:AV->AV
 | .slZ _ i k m n=> .slR i k m n
 |v=>v
theorem alE{ρ:Ren}{x:AV}{u:Value}(h:bF ρ x u):bF ρ (nrmA x) u:=by
 cases x<;>try exact h
 simp only[nrmA,bF]at h ⊢;rcases h with ⟨_,h⟩|⟨_,h⟩
 ·exact .inl h
 ·exact .inr h
def vN(tt:TT)(op:Op)(ev:Operand->AV)(h:Heap)(Q:AV->Prop):Prop:=
 match op with
 | .pick c a b=>match ev c with
  | .lit (.bool t)=>cP t (Q (ev a)) (Q (ev b))
  |_=>False
 | .binOp o t x y _=>atj tt o t (ev x) (ev y) Q
 | .convert s d x=>abY tt s d (ev x) Q
 | .slice t x lo hi mx=>Io tt t (nrm (ev x)) (alf ev lo) (alf ev hi) (alf ev mx) h Q
 | .fieldAddr s x f=>Ik tt s (ev x) f Q
 | .indexAddr t x i=>lV tt t (nrm (ev x)) (ev i) h Q
 | .index t x i=>Il tt t (ev x) (ev i) Q
 | .field t x f=>zl tt t (ev x) f Q
 |op=>match opN tt op ev with
  |some v=>Q v
  |none=>False
theorem atZ{P:Program}{tt:TT}(hT:tt.ok P){ρ:Ren}{o:Oper}{ev:Operand->AV}{e:Operand->Value}(he: ∀x,bF ρ (ev x) (e x)){h:Heap}{Q:AV->Prop}(hq:vN tt o.op ev h Q):
  ∃v u,(∀w,(execOp e o).run P w= .ok (.value u) w)/\bF ρ v u/\Q v:=by
 have old:(match opN tt o.op ev with|some v=>Q v|none=>False)-> ∃v u,(∀w,(execOp e o).run P w= .ok (.value u) w)/\bF ρ v u/\Q v:=λhq=>by
  split at hq
  ·rename_i v hv
   obtain⟨u,h1,h2⟩:=atN (P:=P) hT he hv;exact⟨v,u,h1,h2,hq⟩
  ·exact hq.elim
 obtain⟨dst,op,ty,pos,after,guard⟩:=o;have wrap: ∀{s:Sem Value},(∃r,NOk P s ρ r/\Q r)-> ∃v u,(∀w,(do pure (Next.value (<-s)):Sem Next).run P w= .ok (.value u) w)/\bF ρ v u/\Q v:=
  λ⟨r,⟨u,hu,hr⟩,hq⟩=>⟨r,u,λw=>nP (hu w),hr,hq⟩
 cases op<;>simp only[vN]at hq<;>try exact old hq
 case pick c a b=>
  split at hq
  ·rename_i t ht
   have:=he c;rw[ht]at this;simp only[bF]at this;rcases jE hq with ⟨rfl,hq⟩|⟨rfl,hq⟩
   ·exact⟨_,e a,λw=>by simp[execOp,this,asBool],he a,hq⟩
   ·exact⟨_,e b,λw=>by simp[execOp,this,asBool],he b,hq⟩
  ·exact hq.elim
 case binOp o t x y yt=>exact wrap (aqA (P:=P) (xo:=x) (yo:=y) hT hq (he x) (he y))
 case convert s d x=>exact wrap (alC (P:=P) hT hq (he x))
 case slice t x lo hi mx=>exact wrap (afw (P:=P) hT hq (vP (he x)) (uI he lo) (uI he hi) (uI he mx))
 case fieldAddr s x f=>exact wrap (aft (P:=P) hT hq (he x))
 case indexAddr t x i=>exact wrap (JM (P:=P) hT hq (vP (he x)) (he i))
 case index t x i=>exact wrap (afu (P:=P) hT hq (he x) (he i))
 case field t x f=>exact wrap (abZ (P:=P) hT hq (he x))
theorem Pg{m n k:Nat}{g:Nat->List Value}{wr:List (Nat×List Value)}(hk:k<n*m): ∃v,(Cs.row m n g wr).get k=some v:=by
 simp only[Cs.get,bg.2 hk,aP];split
 ·exact⟨_,rfl⟩
 ·exact⟨_,rfl⟩
theorem afx{m N q n:Nat}{g:Nat->List Value}{wr:List (Nat×List Value)}(hm:0<m)(h:q+n<=N):Cs.Seg (.row m N g wr) (q*m) (n*m) (.row m n (λk=>Cs.eff g wr (q+k)) []):=by
 refine⟨rfl,λk hk=> ?_⟩;have hlt:q*m+k<N*m:=by
  have:(q+n)*m<=N*m:=Nat.mul_le_mul_right _ h;rw[Nat.add_mul]at this;omega
 have e1:(q*m+k)/m=q+k/m:=by rw[Nat.mul_comm,Nat.mul_add_div hm]
 have e2:(q*m+k)%m=k%m:=by rw[Nat.mul_comm,Nat.mul_add_mod]
 refine⟨?_,Pg hlt⟩;simp only[Cs.get,bg.2 hk,bg.2 hlt,aP,e1,e2,Cs.eff]
theorem JO{P:Program}{h:Heap}{ρ:Ren}{T:Nat->Prop}{w:World}(hR:Rel h ρ T w){i o m:Nat}{ob:dF}{c d:Cs}{a:Loc}(hi:h.get i=some ob)(hc:ob.eP=some c)
  (hs:Cs.Seg c o m d) (ha:ρ i=some a): ∃vs:Array Value,(loadCells ⟨a.blk,a.base+o,none⟩ m).run P w= .ok vs w/\vs.size=d.size/\fF ρ d vs 0:=by
 obtain⟨hsz,hseg⟩:=hs;have hcell: ∀k,cellAt h i k=c.get k:=λk=>by simp[cellAt,hi,hc]
 obtain⟨l,hl,hlen,hget⟩:=Un (h:=h) (i:=i) m o (λk hk=>by rw[hcell];exact(hseg k hk).2);obtain⟨vs,hvs,hlr⟩:=run_loadCellsFrom (P:=P) hR ha o m 0 #[] l (by simpa using hl);refine⟨vs.toArray,by simpa[loadCells]using hvs,by simp[<-hlr.length,hlen,hsz],λk v hk=> ?_⟩;have hkm:k<m:=by rw[<-hsz];exact Cs.dW hk
 have:l[k]? =some v:=by rw[hget k hkm,hcell,<-(hseg k hkm).1,hk]
 obtain⟨u,hu,hr⟩:=hlr.get k v this;exact⟨u,by simpa using hu,hr⟩
inductive dJ where
 |few (L:List (List Value))
 |many (n:Nat) (g:Nat->List Value)
namespace dJ
def len:dJ->Nat
 | .few L=>L.length
 | .many n _=>n
def el:dJ->Nat->List Value
 | .few L=>λk=>L.getD k []
 | .many _ g=>g
def ones(m:Nat):dJ->Prop
 | .few L=>L.all (λl=>Nat.beq l.length m&&l.all Value.oneCell')=true
 | .many n g=> ∀k,k<n->(Nat.beq (g k).length m&&(g k).all Value.oneCell')=true
theorem afy{m:Nat}{e:dJ}(h:e.ones m): ∀k,k<e.len->(Nat.beq (e.el k).length m&&(e.el k).all Value.oneCell')=true:=by
 cases e with
 |few L=>
  intro k hk;simp only[ones,List.all_eq_true]at h;simp only[el,len]at hk ⊢;rw[List.getD_eq_getElem?_getD,List.getElem?_eq_getElem hk];exact h _ (List.getElem_mem hk)
 |many n g=>exact h
end dJ
def chunk(m:Nat):Nat->List Value->List (List Value)
 |0,_=>[]
 |n+1,vs=>vs.take m::chunk m n (vs.drop m)
theorem qX(m:Nat): ∀(n:Nat) (vs:List Value),(chunk m n vs).length=n
 |0,_=>rfl
 |n+1,vs=>by simp[chunk,qX m n]
theorem DR(m:Nat): ∀(n k:Nat) (vs:List Value),k<n->(chunk m n vs).getD k []=(vs.drop (k*m)).take m
 |0,k,vs,h=>by omega
 |n+1,0,vs,h=>by simp[chunk]
 |n+1,k+1,vs,h=>by
  simp only[chunk,List.getD_cons_succ];rw[DR m n k _ (by omega),List.drop_drop];congr 2;rw[Nat.add_mul];omega
def rowOf(h:Heap)(i m:Nat)(Q:Nat->(Nat->List Value)->List (Nat×List Value)->Prop):Prop:=match h.get i with
 |some ob=>match ob.eP with
  |some (.row m' n g wr)=>bif Nat.beq m m' then Q n g wr else False
  |_=>False
 |none=>False
theorem gW{h:Heap}{i m:Nat}{Q:Nat->(Nat->List Value)->List (Nat×List Value)->Prop}(hq:rowOf h i m Q): ∃ob n g wr,h.get i=some ob/\ob.eP=some (.row m n g wr)/\Q n g wr:=by
 unfold rowOf at hq;split at hq
 ·rename_i ob hi
  split at hq
  ·rename_i m' n g wr hc
   cases hb:Nat.beq m m' with
   |false=>rw[hb]at hq;exact hq.elim
   |true=>
    rw[hb]at hq;simp only[aP]at hq;have:=au hb;subst this;exact⟨ob,n,g,wr,hi,hc,hq⟩
  ·exact hq.elim
 ·exact hq.elim
def vNew(h:Heap)(x:AV)(m:Nat)(Q:dJ->Prop):Prop:=
 match x with
 | .sl j o n _=>bif Nat.beq o 0&&Nat.beq (GU h j) m then rowOf h j m λN g wr=>n<=N/\Q (.many n (λk=>Cs.eff g wr (0+k)))else(match h.get j with
  |some ob=>match ob.eP with
   |some c=>match c.sub o (n*m)with
    |some (.av l)=>match nN l with
     |some vs=>Q (.few (chunk m n vs))
     |none=>False
    |some (.raw vs)=>Q (.few (chunk m n vs))
    |_=>False
   |none=>False
  |none=>False)
 | .slE j q m' n _=>bif Nat.beq m m' then rowOf h j m λN g wr=>q+n<=N/\Q (.many n (λk=>Cs.eff g wr (q+k)))else False
 | .slW j q m' n=>bif Nat.beq m m' then rowOf h j m λN g wr=>q+n<=N/\Q (.many n (λk=>Cs.eff g wr (q+k)))else False
 | .slR j q m' n=>bif Nat.beq m m' then rowOf h j m λN g wr=>q+n<=N/\Q (.many n (λk=>Cs.eff g wr (q+k)))else False
 | .lit (.slice none 0 _)=>Q (.few [])
 | .lit (.slice (some _) 0 _)=>Q (.few [])
 | .lit (.string s)=>bif Nat.beq m 1 then Q (.many s.size (λk=>[.int .u8 (eG s k)]))else False
 |_=>False
def afz(P:Program)(h:Heap)(ρ:Ren)(T:Nat->Prop)(m:Nat)(v:Value)(new:dJ):Prop:=
 (∀w,(Builtin.lenOf v).run P w= .ok new.len w)/\ ∀w,Rel h ρ T w-> ∃vs:Array Value,(Builtin.firstCells m new.len v).run P w= .ok vs w/\vs.size=new.len*m/\fF ρ (.row m new.len new.el []) vs 0
theorem lS{P:Program}{h:Heap}{ρ:Ren}{T:Nat->Prop}{j q m n c p:Nat}{a:Loc}{ob:dF}{N:Nat}{g:Nat->List Value}{wr:List (Nat×List Value)}(hm:0<m)(hi:h.get j=some ob)(hc:ob.eP=some (.row m N g wr))(ha:ρ j=some a)
  (hle:q+n<=N) (hp:n≠0->p=a.base+q*m):afz P h ρ T m (.slice (some ⟨a.blk,p,none⟩) n c) (.many n (λk=>Cs.eff g wr (q+k))):=by
 refine⟨λw=>by simp[Builtin.lenOf,dJ.len],λw hR=> ?_⟩;by_cases hn:n=0
 ·subst hn
  exact⟨#[],by simp[Builtin.firstCells,dJ.len,loadCells,loadCellsFrom],by simp[dJ.len],λk v hk=>by have:=Cs.dW hk;simp[Cs.size,dJ.len]at this⟩
 ·obtain⟨vs,h1,h2,h3⟩:=JO (P:=P) hR hi hc (afx (n:=n) hm hle) ha
  refine⟨vs,?_,by simpa[Cs.size,dJ.len]using h2,h3⟩;rw[hp hn];simpa[Builtin.firstCells,dJ.len]using h1
theorem afA{P:Program}{h:Heap}{ρ:Ren}{T:Nat->Prop}{x:AV}{v:Value}{m n:Nat}{d:Cs}{vs:List Value}(hm:0<m)(hs:BU h x n m=some d)(hv:bF ρ x v)(hd: ∀k,d.get k=(Cs.raw vs).get k)(hsz:d.size=n*m)(hlen: ∀w,(Builtin.lenOf v).run P w= .ok n w):
  afz P h ρ T m v (.few (chunk m n vs)):=by
 have e:(dJ.few (chunk m n vs)).len=n:=qX m n vs;refine⟨λw=>by rw[e];exact hlen w,λw hR=> ?_⟩;rw[e];obtain⟨us,h1,h2,h3⟩:=iJ (P:=P) hR hs hv;refine⟨us,h1,by rw[h2,hsz],λk y hk=> ?_⟩;have hlt:=Cs.dW hk;simp only[Cs.size]at hlt;simp only[Cs.get,bg.2 hlt,aP,Cs.eff,dJ.el]at hk;have hkn:k/m<n:=Nat.div_lt_of_lt_mul (by rw[Nat.mul_comm];exact hlt);rw[DR m n _ vs hkn,List.getElem?_take,if_pos (Nat.mod_lt _ hm),List.getElem?_drop,Nat.div_add_mod']at hk;split at hk
 ·rename_i x hx
  cases hk;exact h3 k _ (by rw[hd];simp only[Cs.get,hx])
 ·cases hk
  exact⟨us[k]'(by rw[h2,hsz];exact hlt),by rw[aA,Array.getElem?_eq_getElem],by simp[bF]⟩
theorem zn{P:Program}{h:Heap}{ρ:Ren}{T:Nat->Prop}{x:AV}{v:Value}{m:Nat}{Q:dJ->Prop}(hm:0<m)(hq:vNew h x m Q)(hv:bF ρ x v): ∃new,afz P h ρ T m v new/\Q new:=by
 unfold vNew at hq;split at hq
 ·rename_i j o n c
  have hv':=hv;simp only[bF]at hv;obtain⟨a,ha,rfl⟩:=hv;cases hb:(Nat.beq o 0&&Nat.beq (GU h j) m)with
  |true=>
   rw[hb]at hq;simp only[aP]at hq;simp only[aJ]at hb;have:=au hb.1;subst this;obtain⟨ob,N,g,wr,hi,hc,hle,hq⟩:=gW hq;exact⟨_,lS hm hi hc ha (by omega) (λ_=>by simp),hq⟩
  |false=>
   rw[hb]at hq;simp only[aQ]at hq;split at hq
   ·rename_i ob hi
    split at hq
    ·rename_i c' hc
     have hseg: ∀d,c'.sub o (n*m)=some d->BU h (.sl j o n c) n m=some d:=λd hd=>by simp[BU,hi,hc,hd]
     split at hq
     ·rename_i l hsub
      split at hq
      ·rename_i vs hvs
       have:=fM hvs;subst this;exact⟨_,afA hm (hseg _ hsub) hv' (λk=>by simp only[Cs.get,List.getElem?_map];cases vs[k]? <;>rfl) (Cs.nO hsub).2.1 (λw=>by simp[Builtin.lenOf]),hq⟩
      ·exact hq.elim
     ·rename_i vs hsub
      exact⟨_,afA hm (hseg _ hsub) hv' (λk=>rfl) (Cs.nO hsub).2.1 (λw=>by simp[Builtin.lenOf]),hq⟩
     ·exact hq.elim
    ·exact hq.elim
   ·exact hq.elim
 ·rename_i j q m' n c
  cases hb:Nat.beq m m' with
  |false=>rw[hb]at hq;exact hq.elim
  |true=>
   rw[hb]at hq;simp only[aP]at hq;have:=au hb;subst this;simp only[bF]at hv;obtain⟨a,p,ha,rfl,hnc,hp⟩:=hv;obtain⟨ob,N,g,wr,hi,hc,hle,hq⟩:=gW hq;exact⟨_,lS hm hi hc ha hle (λ_=>hp (by omega)),hq⟩
 ·rename_i j q m' n
  cases hb:Nat.beq m m' with
  |false=>rw[hb]at hq;exact hq.elim
  |true=>
   rw[hb]at hq;simp only[aP]at hq;have:=au hb;subst this;simp only[bF]at hv;obtain⟨a,p,c,ha,rfl,hnc,hp⟩:=hv;obtain⟨ob,N,g,wr,hi,hc,hle,hq⟩:=gW hq;exact⟨_,lS hm hi hc ha hle (λ_=>(hp (by omega)).1),hq⟩
 ·rename_i j q m' n
  cases hb:Nat.beq m m' with
  |false=>rw[hb]at hq;exact hq.elim
  |true=>
   rw[hb]at hq;simp only[aP]at hq;have:=au hb;subst this;simp only[bF]at hv;obtain⟨ob,N,g,wr,hi,hc,hle,hq⟩:=gW hq;rcases hv with ⟨rfl,rfl⟩|⟨a,p,c,ha,rfl,hnc,hp⟩
   ·exact⟨_,⟨λw=>by simp[Builtin.lenOf,dJ.len],λw _=>⟨#[],by simp[Builtin.firstCells,dJ.len],by simp[dJ.len],λk v hk=>by have:=Cs.dW hk;simp[Cs.size,dJ.len]at this⟩⟩,hq⟩
   ·exact⟨_,lS hm hi hc ha hle hp,hq⟩
 ·simp only[bF]at hv;subst hv
  exact⟨_,⟨λw=>by simp[Builtin.lenOf,dJ.len],λw _=>⟨#[],by simp[Builtin.firstCells],by simp[dJ.len],λk v hk=>by have:=Cs.dW hk;simp[Cs.size,dJ.len]at this⟩⟩,hq⟩
 ·simp only[bF]at hv;subst hv
  exact⟨_,⟨λw=>by simp[Builtin.lenOf,dJ.len],λw _=>⟨#[],by(show Sem.run P (loadCells _ (0*m)) w=_;rw[Nat.zero_mul];rfl),by simp[dJ.len],λk v hk=>by have:=Cs.dW hk;simp[Cs.size,dJ.len]at this⟩⟩,hq⟩
 ·rename_i s
  cases hb:Nat.beq m 1 with
  |false=>rw[hb]at hq;exact hq.elim
  |true=>
   rw[hb]at hq;simp only[aP]at hq;have:=au hb;subst this;simp only[bF]at hv;subst hv;refine⟨_,⟨λw=>by simp[Builtin.lenOf,dJ.len],λw _=>⟨(s.extract 0 s.size).data.map λb=> .int .u8 b.toNat,by simp only[Builtin.firstCells,Sem.run_pure,dJ.len],by simp[dJ.len],λk y hk=> ?_⟩⟩,hq⟩;have hlt:=Cs.dW hk;simp only[Cs.size,dJ.len,Nat.mul_one]at hlt;have hlt2:Nat.blt k (s.size*1)=true:=bg.2 (by omega);simp only[Cs.get,dJ.len,hlt2,aP,Cs.eff,dJ.el,Nat.div_one,Nat.mod_one,ah]at hk;cases hk;refine⟨.int .u8 (eG s k),?_,by simp only[bF]⟩;have hlt3:k<s.data.size:=hlt;rw[aA,Array.getElem?_map];have e:(s.extract 0 s.size).data[k]? =some s.data[k]:=by
    rw[ByteArray.extract_zero_size,Array.getElem?_eq_getElem hlt3]
   simp only[e,Option.map_some,eG,List.getD_eq_getElem?_getD,Array.getElem?_toList,Array.getElem?_eq_getElem hlt3,Option.getD_some]
 ·exact hq.elim
def writes:Nat->List (List Value)->List (Nat×List Value)->List (Nat×List Value)
 |_,[],wr=>wr
 |k,c::L,wr=>writes (k+1) L ((k,c)::wr)
theorem oZ{g:Nat->List Value}: ∀(L:List (List Value)) (k q:Nat) (wr:List (Nat×List Value)),Cs.eff g (writes k L wr) q=if k<=q/\q<k+L.length then L.getD (q-k) []else Cs.eff g wr q
 |[],k,q,wr=>by simp only[writes,List.length_nil];rw[if_neg (by omega)]
 |c::L,k,q,wr=>by
  simp only[writes,List.length_cons];rw[oZ L (k+1) q];by_cases h1:q=k
  ·subst h1
   rw[if_neg (by omega),if_pos (by omega)];simp[Cs.eff]
  ·by_cases h2:k+1<=q/\q<k+1+L.length
   ·rw[if_pos h2,if_pos (by omega),show q-k=(q-(k+1))+1 by omega,List.getD_cons_succ]
   ·rw[if_neg h2,if_neg (by omega)]
    simp[Cs.eff,fC h1]
def kN(m n:Nat)(g:Nat->List Value)(wr:List (Nat×List Value))(new:dJ):Cs:=match new with
 | .few L=> .row m (n+L.length) g (writes n L wr)
 | .many k g'=> .row m (n+k) (λq=>bif Nat.blt q n then Cs.eff g wr q else g' (q-n)) []
theorem kD{m n:Nat}{g:Nat->List Value}{wr:List (Nat×List Value)}{new:dJ}(hm:0<m):(kN m n g wr new).size=n*m+new.len*m/\(∀k,k<n*m->(kN m n g wr new).get k=(Cs.row m n g wr).get k)/\
  ∀k,(kN m n g wr new).get (n*m+k)=(Cs.row m new.len new.el []).get k:=by
 have key: ∀(c:Cs) (N:Nat) (f:Nat->List Value) (wr':List (Nat×List Value)),c= .row m N f wr'->N=n+new.len->(∀q,q<n->Cs.eff f wr' q=Cs.eff g wr q)->(∀q,q<new.len->Cs.eff f wr' (n+q)=new.el q)->
   c.size=n*m+new.len*m/\(∀k,k<n*m->c.get k=(Cs.row m n g wr).get k)/\ ∀k,c.get (n*m+k)=(Cs.row m new.len new.el []).get k:=by
  rintro c N f wr' rfl rfl h1 h2
  refine⟨by simp[Cs.size,Nat.add_mul],λk hk=> ?_,λk=> ?_⟩
  ·have hk2:k<(n+new.len)*m:=by rw[Nat.add_mul];omega
   have hq:k/m<n:=Nat.div_lt_of_lt_mul (by rw[Nat.mul_comm];exact hk);simp only[Cs.get,bg.2 hk,bg.2 hk2,aP,h1 _ hq]
  ·have e1:(n*m+k)/m=n+k/m:=by rw[Nat.mul_comm,Nat.mul_add_div hm]
   have e2:(n*m+k)%m=k%m:=by rw[Nat.mul_comm,Nat.mul_add_mod]
   by_cases hk:k<new.len*m
   ·have hk2:n*m+k<(n+new.len)*m:=by rw[Nat.add_mul];omega
    have hq:k/m<new.len:=Nat.div_lt_of_lt_mul (by rw[Nat.mul_comm];exact hk);simp only[Cs.get,bg.2 hk,bg.2 hk2,aP,e1,e2,h2 _ hq,Cs.eff]
   ·have hk2: ¬n*m+k<(n+new.len)*m:=by rw[Nat.add_mul];omega
    have b1:Nat.blt k (new.len*m)=false:=by cases hb:Nat.blt k (new.len*m);· rfl
                                            ·exact absurd (bg.1 hb) hk
    have b2:Nat.blt (n*m+k) ((n+new.len)*m)=false:=by cases hb:Nat.blt (n*m+k) ((n+new.len)*m);· rfl
                                                      ·exact absurd (bg.1 hb) hk2
    simp only[Cs.get,b1,b2,aQ]
 cases new with
 |few L=>
  refine key _ _ g (writes n L wr) rfl rfl (λq hq=> ?_) (λq hq=> ?_)
  ·rw[oZ,if_neg (by omega)]
  ·simp only[dJ.len]at hq
   rw[oZ,if_pos (by omega),show n+q-n=q by omega];rfl
 |many k g'=>
  refine key _ _ (λq=>bif Nat.blt q n then Cs.eff g wr q else g' (q-n)) [] rfl rfl (λq hq=> ?_) (λq hq=> ?_)
  ·simp only[Cs.eff,bg.2 hq,aP]
  ·have:Nat.blt (n+q) n=false:=by cases hb:Nat.blt (n+q) n;· rfl
                                  ·have:=bg.1 hb;omega
   simp only[Cs.eff,this,aQ,dJ.el];congr 1;omega
def mO(m N k:Nat)(g:Nat->List Value)(wr:List (Nat×List Value))(new:dJ):Cs:=match new with
 | .few L=> .row m N g (writes k L wr)
 | .many n g'=> .row m N (λp=>bif Nat.ble k p&&Nat.blt p (k+n)then g' (p-k)else Cs.eff g wr p) []
theorem ab1{m N k:Nat}{g:Nat->List Value}{wr:List (Nat×List Value)}{new:dJ}(hm:0<m)(hk:k+new.len<=N):(mO m N k g wr new).size=N*m/\
  (∀p,p<N*m-> ¬(k*m<=p/\p<k*m+new.len*m)->(mO m N k g wr new).get p=(Cs.row m N g wr).get p)/\
  ∀p,p<new.len*m->(mO m N k g wr new).get (k*m+p)=(Cs.row m new.len new.el []).get p:=by
 have key: ∀(c:Cs) (f:Nat->List Value) (wr':List (Nat×List Value)),c= .row m N f wr'->(∀q,¬(k<=q/\q<k+new.len)->Cs.eff f wr' q=Cs.eff g wr q)->(∀q,q<new.len->Cs.eff f wr' (k+q)=new.el q)->
   c.size=N*m/\(∀p,p<N*m-> ¬(k*m<=p/\p<k*m+new.len*m)->c.get p=(Cs.row m N g wr).get p)/\ ∀p,p<new.len*m->c.get (k*m+p)=(Cs.row m new.len new.el []).get p:=by
  rintro c f wr' rfl h1 h2
  refine⟨rfl,λp hp hn=> ?_,λp hp=> ?_⟩
  ·have hq: ¬(k<=p/m/\p/m<k+new.len):=λ⟨a,b⟩=>hn ⟨by
     have:=Nat.mul_le_mul_right m a;have:=Nat.div_mul_le_self p m;omega,by
     have h3:p<(p/m+1)*m:=by rw[Nat.add_mul];have:=Nat.div_add_mod' p m;have:=Nat.mod_lt p hm;omega
     have h4:(p/m+1)*m<=(k+new.len)*m:=Nat.mul_le_mul_right m b
     rw[Nat.add_mul k]at h4;omega⟩
   simp only[Cs.get,bg.2 hp,aP,h1 _ hq]
  ·have hp2:k*m+p<N*m:=by
    have:(k+new.len)*m<=N*m:=Nat.mul_le_mul_right _ hk;rw[Nat.add_mul]at this;omega
   have e1:(k*m+p)/m=k+p/m:=by rw[Nat.mul_comm,Nat.mul_add_div hm]
   have e2:(k*m+p)%m=p%m:=by rw[Nat.mul_comm,Nat.mul_add_mod]
   have hq:p/m<new.len:=Nat.div_lt_of_lt_mul (by rw[Nat.mul_comm];exact hp);simp only[Cs.get,bg.2 hp,bg.2 hp2,aP,e1,e2,h2 _ hq,Cs.eff]
 cases new with
 |few L=>
  refine key _ g (writes k L wr) rfl (λq hq=> ?_) (λq hq=> ?_)
  ·simp only[dJ.len]at hq;rw[oZ,if_neg hq]
  ·simp only[dJ.len]at hq
   rw[oZ,if_pos (by omega),show k+q-k=q by omega];rfl
 |many n g'=>
  refine key _ (λp=>bif Nat.ble k p&&Nat.blt p (k+n)then g' (p-k)else Cs.eff g wr p) [] rfl (λq hq=> ?_) (λq hq=> ?_)
  ·have:(Nat.ble k q&&Nat.blt q (k+n))=false:=by
    cases hb:(Nat.ble k q&&Nat.blt q (k+n))with
    |false=>rfl
    |true=>simp only[aJ,Nat.ble_eq]at hb;exact absurd ⟨hb.1,bg.1 hb.2⟩ hq
   simp only[Cs.eff,this,aQ]
  ·simp only[dJ.len]at hq
   have:(Nat.ble k (k+q)&&Nat.blt (k+q) (k+n))=true:=by
    simp only[aJ,Nat.ble_eq];exact⟨by omega,bg.2 (by omega)⟩
   simp only[Cs.eff,this,aP,dJ.el];congr 1;omega
theorem fH{P:Program}{h:Heap}{ρ:Ren}{T:Nat->Prop}{w:World}(hR:Rel h ρ T w){i m N k:Nat}{ob:dF}{g:Nat->List Value}{wr:List (Nat×List Value)}{a:Loc}{cs:List Value}{new:dJ}(hm:0<m)
  (hi:h.get i=some ob) (hrow:fA ob=true) (hc:ob.eP=some (.row m N g wr)) (ha:ρ i=some a) (hk:k+new.len<=N) (hl:cs.length=new.len*m) (h1: ∀u∈cs,u.oneCell'=true) (hcs:fF ρ (.row m new.len new.el []) cs.toArray 0):
  ∃w',(storeCells ⟨a.blk,a.base+k*m,none⟩ cs).run P w= .ok () w'/\Rel (h.set i (mF ob (mO m N k g wr new))) ρ T w'/\Keeps T w w':=by
 obtain⟨q1,q2,q3⟩:=ab1 (m:=m) (N:=N) (k:=k) (g:=g) (wr:=wr) (new:=new) hm hk;have hKM:k*m+new.len*m<=N*m:=by rw[<-Nat.add_mul];exact Nat.mul_le_mul_right _ hk
 have key: ∀(arr arr':Array Value),fF ρ (.row m N g wr) arr 0->N*m<=arr.size->arr'.size=arr.size->
   (∀q,arr'[q]? =if k*m<=q/\q<k*m+cs.length then cs[q-k*m]? else arr[q]?)->fF ρ (mO m N k g wr new) arr' 0:=by
  intro arr arr' hcr hsz hsz' hget q v hv;have hlt:=Cs.dW hv;rw[q1]at hlt;rw[aA,hget,hl];by_cases hin:k*m<=q/\q<k*m+new.len*m
  ·rw[if_pos hin]
   obtain⟨p,rfl⟩: ∃p,q=k*m+p:=⟨q-k*m,by omega⟩;rw[q3 p (by omega)]at hv;obtain⟨u,hu,hr⟩:=hcs p v hv;refine⟨u,?_,hr⟩;rw[show k*m+p-k*m=p by omega];simpa using hu
  ·rw[if_neg hin]
   rw[q2 q hlt hin]at hv;obtain⟨u,hu,hr⟩:=hcr q v hv;exact⟨u,by simpa using hu,hr⟩
 obtain⟨S,r1,_⟩:=id hR;obtain⟨a',ha',ho⟩:=r1 i _ hi;obtain rfl:a'=a:=Option.some.inj (ha'.symm.trans ha);have main: ∀(e:TypeId) (arr:Array Value),a'.base=0->w.heap[a'.blk]? =some (.cells arr e (0,0))->N*m<=arr.size->fF ρ (.row m N g wr) arr 0->(∀S,dI ρ w T a' S ob->S a'.blk)->
   (∀S (w':World) arr',S a'.blk->dI ρ w T a' S ob->w'.heap[a'.blk]? =some (.cells arr' e (0,0))->arr'.size=arr.size->fF ρ (mO m N k g wr new) arr' 0->
    dI ρ w' T a' S (mF ob (mO m N k g wr new)))->
   ∃w',(storeCells ⟨a'.blk,a'.base+k*m,none⟩ cs).run P w= .ok () w'/\Rel (h.set i (mF ob (mO m N k g wr new))) ρ T w'/\Keeps T w w':=by
  intro e arr h0 hb hsz hcr hown hnew;obtain⟨w',arr',hrun,hb',hsz',hw,hne,ho1,ho2,ho3,hget⟩:=ig (P:=P) a'.blk cs (a'.base+k*m) 0 w arr hb h1 (by omega);have afd: ∀q,arr'[q]? =if k*m<=q/\q<k*m+cs.length then cs[q-k*m]? else arr[q]? :=λq=>by
   rw[hget];simp only[h0,aA,aI]
  refine⟨w',hrun,hR.upd hi ha hw hne hown λS hS hx=>hnew S w' arr' hS hx hb' hsz' (key arr arr' hcr hsz hsz' afd),⟨by omega,ho1,ho2,ho3,λb hb2=>hne b λhbb=>hb2 ?_⟩⟩;subst hbb;exact hR.Uh hi ha hown
 cases ob with
 |cells e c=>
  simp only[dF.eP,ak]at hc;subst hc;obtain⟨h0,hS,arr,hb,hsz,hlim,hcr⟩:=ho;refine main e arr h0 hb (by simp only[Cs.size]at hsz;omega) hcr (λS' h=>h.2.1) λS' w' arr' hS' hx hb' hsz' hc'=> ?_
  exact⟨h0,hS',arr',hb',by rw[hsz',hsz,q1];rfl,by rw[hlim,q1];rfl,hc'⟩
 |room e c=>
  simp only[dF.eP,ak]at hc;subst hc;obtain⟨h0,hS,arr,hb,hsz,hle',hcr⟩:=ho;refine main e arr h0 hb (by simp only[Cs.size]at hle';omega) hcr (λS' h=>h.2.1) λS' w' arr' hS' hx hb' hsz' hc'=> ?_
  exact⟨h0,hS',arr',hb',by omega,by rw[q1];exact hle',hc'⟩
 |_=>simp[fA]at hrow
theorem Ip{ρ:Ren}{m:Nat}{new:dJ}{vs:Array Value}(hm:0<m)(zo:new.ones m)(Bf:vs.size=new.len*m)(hvc:fF ρ (.row m new.len new.el []) vs 0): ∀u∈vs.toList,u.oneCell'=true:=by
 intro u hu;obtain⟨k,hk⟩:=List.mem_iff_getElem?.1 hu;have hk':vs[k]? =some u:=by simpa using hk
 have hlt:k<new.len*m:=by rw[<-Bf];exact(Array.getElem?_eq_some_iff.1 hk').1
 have hkn:k/m<new.len:=Nat.div_lt_of_lt_mul (by rw[Nat.mul_comm];exact hlt);have h1:=dJ.afy zo (k/m) hkn;simp only[aJ,List.all_eq_true]at h1;have hl:=au h1.1;have hmod:k%m<(new.el (k/m)).length:=by rw[hl];exact Nat.mod_lt _ hm
 obtain⟨y,hy,hr⟩:=hvc k (.lit (new.el (k/m))[k%m]) (by
  simp only[Cs.get,bg.2 hlt,aP,Cs.eff,List.getElem?_eq_getElem hmod])
 rw[aA,hk']at hy;cases hy;simp only[bF]at hr;subst hr;exact h1.2 _ (List.getElem_mem hmod)
def DT(h:Heap)(i:Nat):Bool:=match h.get i with
 |some ob=>fA ob
 |none=>false
def setRow(h:Heap)(i:Nat)(c:Cs):Heap:=match h.get i with
 |some ob=>h.set i (mF ob c)
 |none=>h
def Ux(tt:TT)(t xt:TypeId)(s x:AV)(h:Heap)(Q:AV->Heap->Prop):Prop:=
 match tt t,tt xt with
 |some ti,some tx=>match ti.desc with
  | .slice e=>match tt e with
   |some te=>bif Bd tx.desc||Nat.beq te.bytes 0|| !Nat.beq te.zero.length te.size||Nat.beq te.size 0 then False else(match s with
    | .lit (.slice none 0 0)=>vNew h x te.size λnew=>cP (Nat.beq new.len 0) (Q (.lit (.slice none 0 0)) h)
      ((2*(0+new.len)+1000)*te.bytes<=2^48/\Q (.slW h.next 0 te.size (0+new.len)) (h.push (.room e (kN te.size 0 (λ_=>[]) [] new))))
    | .slE i q m sn c=>bif Nat.beq m te.size then(rowOf h i m λN g wr=>q+sn<=N/\vNew h x te.size λnew=>cP (Nat.beq new.len 0) (Q (.slE i q m sn c) h)
      (cP (Nat.ble (sn+new.len) c) (new.ones te.size/\q+(sn+new.len)<=N/\(bif DT h i then Q (.slE i q m (sn+new.len) c) (setRow h i (mO te.size N (q+sn) g wr new))else False))
      ((2*(sn+new.len)+1000)*te.bytes<=2^48/\Q (.slW h.next 0 te.size (sn+new.len)) (h.push (.room e (kN te.size sn (λk=>Cs.eff g wr (q+k)) [] new))))))else False
    | .slW i 0 m sn=>match h.get i with
     |some (.room e' (.row m' N g wr))=>bif Nat.beq m te.size&&Nat.beq m' te.size&&Nat.beq e' e then(N=sn/\vNew h x te.size λnew=>new.ones te.size/\(2*(sn+new.len)+1000)*te.bytes<=2^48/\
       Q (.slW h.next 0 te.size (sn+new.len)) ((h.drop i).push (.room e (kN te.size sn g wr new))))else False
     |_=>False
    | .slV z i m sn=>match h.get i with
     |some (.iC z' e' (.row m' N g wr))=>bif Nat.beq m te.size&&Nat.beq m' te.size&&Nat.beq e' e then(z=z'/\N=sn/\vNew h x te.size λnew=>cP (Nat.beq new.len 0) (Q (.slV z i m sn) h) (new.ones te.size/\(2*(sn+new.len)+1000)*te.bytes<=2^48/\
       Q (.slW h.next 0 te.size (sn+new.len)) ((h.drop i).push (.room e (kN te.size sn g wr new)))))else False
     |_=>False
    | .sl i o 0 0=>vNew h x te.size λnew=>cP (Nat.beq new.len 0) (Q (.sl i o 0 0) h)
      ((2*(0+new.len)+1000)*te.bytes<=2^48/\Q (.slW h.next 0 te.size (0+new.len)) (h.push (.room e (kN te.size 0 (λ_=>[]) [] new))))
    |s=>match JF tt t xt s x h with
     |some (v,h')=>Q v h'
     |none=>False)
   |none=>False
  |_=>False
 |_,_=>False
theorem uN{ρ:Ren}{m n:Nat}{g:Nat->List Value}{wr:List (Nat×List Value)}{new:dJ}(hm:0<m){us vs rest:Array Value}(hc:fF ρ (.row m n g wr) us 0)(hd:fF ρ (.row m new.len new.el []) vs 0)(hus:us.size=n*m)(hvs:vs.size=new.len*m):
  fF ρ (kN m n g wr new) (us++vs++rest) 0:=by
 obtain⟨hsz,h1,h2⟩:=kD (m:=m) (n:=n) (g:=g) (wr:=wr) (new:=new) hm;intro k v hk;have hlt:=Cs.dW hk;simp only[aA];by_cases hkc:k<n*m
 ·rw[h1 k hkc]at hk
  obtain⟨u,hu,hr⟩:=hc _ _ hk;refine⟨u,?_,hr⟩;rw[Array.getElem?_append_left (by simp;omega),Array.getElem?_append_left (by omega)];simpa using hu
 ·obtain⟨j,rfl⟩: ∃j,k=n*m+j:=⟨k-n*m,by omega⟩
  rw[h2]at hk;obtain⟨u,hu,hr⟩:=hd _ _ hk;have hj:=Cs.dW hk;simp only[Cs.size]at hj;refine⟨u,?_,hr⟩;rw[Array.getElem?_append_left (by simp;omega),Array.getElem?_append_right (by omega)];simpa[hus]using hu
def XQ(P:Program)(s:Sem Value)(h:Heap)(ρ:Ren)(T:Nat->Prop)(w:World)(Q:AV->Heap->Prop):Prop:= ∃v h',XOk P s h ρ T w v h'/\Q v h'
theorem Iq{P:Program}{tt:TT}(hT:tt.ok P){h:Heap}{ρ:Ren}{T:Nat->Prop}{w:World}(hR:Rel h ρ T w){t xt ty e:TypeId}{te:TI}{u v:Value}{ts:Array TypeId}{us:Array Value}{i N:Nat}{g:Nat->List Value}{wr:List (Nat×List Value)}{new:dJ}{dx:TypeDesc}
  (hte:tt e=some te) (hb0:te.bytes≠0) (hz:te.zero.length=te.size) (hm:0<te.size) (jD: ∀w,(underlying t).run P w= .ok (.slice e) w) (hdx: ∀w,(underlying xt).run P w= .ok dx w) (hdn: ∀k,dx≠ .int k) (hsz: ∀w,(sizeOf e).run P w= .ok te.size w)
  (ht0:ts[0]? =some t) (ht1:ts[1]? =some xt) (hu0:us[0]? =some u) (hu1:us[1]? =some v) (hi:h.get i=some (.room e (.row te.size N g wr))) (hnn:afz P h ρ T te.size v new) (zo:new.ones te.size) (hlim:(2*(N+new.len)+1000)*te.bytes<=2^48)
  (hu:bF ρ (.slW i 0 te.size N) u):XOk P (Builtin.append_ ts ty us) h ρ T w (.slW h.next 0 te.size (N+new.len)) ((h.drop i).push (.room e (kN te.size N g wr new))):=by
 obtain⟨hlen,hnew⟩:=hnn;simp only[bF]at hu;obtain⟨a,p,sc,ha,rfl,hle,hp⟩:=hu;obtain⟨S,r1,_⟩:=id hR;obtain⟨a',ha',ho⟩:=r1 i _ hi;obtain rfl:a'=a:=Option.some.inj (ha'.symm.trans ha);obtain⟨h0,hS,arr,hb1,GI,DC,hcr⟩:=ho;obtain⟨q1,q2,q3⟩:=kD (m:=te.size) (n:=N) (g:=g) (wr:=wr) (new:=new) hm;by_cases hroom:N+new.len<=sc
 ·obtain⟨vs,hvs,Bf,hvc⟩:=hnew w hR
  have hone: ∀u∈vs.toList,u.oneCell'=true:=by
   intro u hu;obtain⟨k,hk⟩:=List.mem_iff_getElem?.1 hu;have hk':vs[k]? =some u:=by simpa using hk
   have hlt:k<new.len*te.size:=by rw[<-Bf];exact(Array.getElem?_eq_some_iff.1 hk').1
   have hkn:k/te.size<new.len:=Nat.div_lt_of_lt_mul (by rw[Nat.mul_comm];exact hlt);have h1:=dJ.afy zo (k/te.size) hkn;simp only[aJ,List.all_eq_true]at h1;have hl:=au h1.1;have hmod:k%te.size<(new.el (k/te.size)).length:=by rw[hl];exact Nat.mod_lt _ hm
   obtain⟨y,hy,hr⟩:=hvc k (.lit (new.el (k/te.size))[k%te.size]) (by
    simp only[Cs.get,bg.2 hlt,aP,Cs.eff,List.getElem?_eq_getElem hmod])
   rw[aA,hk']at hy;cases hy;simp only[bF]at hr;subst hr;exact h1.2 _ (List.getElem_mem hmod)
  obtain⟨hp1,hp2⟩:(sc≠0->p=a'.base+0*te.size)/\(sc≠0->0*te.size+sc*te.size<=a'.lim):=⟨λh=>(hp h).1,λh=>(hp h).2⟩;have hfit:N*te.size+vs.size<=arr.size:=by
   rw[GI,Bf,<-Nat.add_mul];rcases Nat.eq_zero_or_pos sc with h00|h00
   ·have:N+new.len=0:=by omega
    rw[this];simp
   ·exact Nat.le_trans (Nat.mul_le_mul_right _ hroom) (by have:=hp2 (by omega);omega)
  by_cases hv0:vs.size=0
  ·--nothing is laid down
   have hn0:new.len=0:=by
    rw[Bf]at hv0;rcases Nat.mul_eq_zero.1 hv0 with h'|h'
    ·exact h'
    ·omega
   have aln:vs= #[]:=Array.eq_empty_of_size_eq_zero hv0;subst aln
   have hR':Rel (h.set i (.room e (kN te.size N g wr new))) ρ T w:=hR.upd hi ha rfl (λ_ _=>rfl) (λS h=>h.2.1) λS' hS' hx=>⟨h0,hS',arr,hb1,GI,by rw[q1,hn0];simpa[Cs.size]using DC,λk y hk=>by
    have hk2:=Cs.dW hk;rw[q1,hn0]at hk2;rw[q2 k (by omega)]at hk
    exact hcr k y hk⟩
   obtain⟨ρ',m1,m2,m3,m4⟩:=hR'.move (i:=i) (o:= .room e (kN te.size N g wr new)) (a:=a') (by rw[Heap.dR,if_pos rfl]) ha;refine⟨_,w,ρ',run_append_room (w':=w) ht0 ht1 hu0 hu1 jD hsz hdx hdn hlen hroom hvs (by simp[storeCells]),m3,m1,by simp,?_,?_,Keeps.refl _ _⟩
   ·refine m4.less (aY _) λj x hj=> ?_
    rw[Heap.fG]at hj ⊢;have hnx:((h.set i (.room e (kN te.size N g wr new))).drop i).next=(h.drop i).next:=by simp
    rw[hnx];split at hj
    ·rename_i hjn;rw[if_pos hjn];exact hj
    ·rename_i hjn
     rw[if_neg hjn,Heap.fD];rw[Heap.fD]at hj;split at hj
     ·cases hj
     ·rename_i hji;rw[if_neg hji,Heap.dR,if_neg hji];exact hj
   ·simp only[bF]
    exact⟨a',p,sc,by simpa using m2,by simp,hroom,hp⟩
  ·have hpe:p=a'.base+0*te.size:=hp1 λh00=>by
    have:new.len=0:=by omega
    rw[Bf,this]at hv0;simp at hv0
   obtain⟨w',arr',hrun,hb',hsz',hw,hne,ho1,ho2,ho3,hget⟩:=ig (P:=P) a'.blk vs.toList (p+N*te.size) 0 w arr hb1 hone (by simp;omega);have atE:fF ρ (kN te.size N g wr new) arr' 0:=by
    intro k y hk;simp only[aA];rw[hget];simp only[hpe,h0,Nat.zero_mul,aA,aI,Array.length_toList];by_cases hkc:k<N*te.size
    ·rw[if_neg (by omega)]
     rw[q2 k hkc]at hk;simpa using hcr k y hk
    ·obtain⟨j,rfl⟩: ∃j,k=N*te.size+j:=⟨k-N*te.size,by omega⟩
     rw[q3]at hk;have hj:=Cs.dW hk;simp only[Cs.size]at hj;rw[if_pos (by omega)];obtain⟨q,hq,hr⟩:=hvc j y hk;refine⟨q,?_,hr⟩;have:N*te.size+j-N*te.size=j:=by omega
     rw[this];simpa using hq
   have hR':Rel (h.set i (.room e (kN te.size N g wr new))) ρ T w':=hR.upd hi ha hw hne (λS h=>h.2.1) λS' hS' hx=>⟨h0,hS',arr',hb',by omega,by rw[q1];omega,atE⟩
   obtain⟨ρ',m1,m2,m3,m4⟩:=hR'.move (i:=i) (o:= .room e (kN te.size N g wr new)) (a:=a') (by rw[Heap.dR,if_pos rfl]) ha;refine⟨_,w',ρ',run_append_room (w':=w') ht0 ht1 hu0 hu1 jD hsz hdx hdn hlen hroom hvs ?_,m3,m1,by simp,?_,?_,?_⟩
   ·simp only[dS];exact hrun
   ·refine m4.less (aY _) λj x hj=> ?_
    rw[Heap.fG]at hj ⊢;have hnx:((h.set i (.room e (kN te.size N g wr new))).drop i).next=(h.drop i).next:=by simp
    rw[hnx];split at hj
    ·rename_i hjn;rw[if_pos hjn];exact hj
    ·rename_i hjn
     rw[if_neg hjn,Heap.fD];rw[Heap.fD]at hj;split at hj
     ·cases hj
     ·rename_i hji;rw[if_neg hji,Heap.dR,if_neg hji];exact hj
   ·simp only[bF]
    exact⟨a',p,sc,by simpa using m2,by simp,hroom,hp⟩
   ·refine⟨by omega,ho1,ho2,ho3,λb hb2=>hne b λhbb=>hb2 ?_⟩
    subst hbb;exact hR.Uh hi ha (λS h=>h.2.1)
 ·obtain⟨vs',hvs',oz,abQ⟩:=hnew w.drew hR.drew
  obtain⟨_,hold⟩:=lS (P:=P) (T:=T) (q:=0) (n:=N) (p:=p) (c:=sc) hm hi (by rfl) ha (by omega) (λh=>(hp (by omega)).1);obtain⟨os,hos,OV,hoc⟩:=hold w.drew hR.drew;simp only[dJ.len,dJ.el]at hos OV hoc;have hoc':fF ρ (.row te.size N g wr) os 0:=λk y hk=>by
   refine hoc k y ?_;have hk2:=Cs.dW hk;simp only[Cs.size]at hk2;simp only[Cs.get,bg.2 hk2,aP,Cs.eff,aA]at hk ⊢;exact hk
  obtain⟨ii,z,newCap,ρ',g1,g2,g3,g4,g5,g6,g7,g8,g9,g10,g11⟩:=jc (P:=P) hT hR hte hb0 hz (need:=N+new.len) (sCap:=sc) (by omega) hlim (us:=os) (vs:=vs') (c:=kN te.size N g wr new)
   (by rw[OV,oz,Nat.add_mul]) (by rw[q1,Nat.add_mul]) (λrest=>uN hm hoc' abQ OV oz)
  refine⟨_,_,ρ',run_append_grow ht0 ht1 hu0 hu1 jD hsz hdx hdn hlen g1 (by omega) g3 (by omega) (by rw[g2];exact g4) g5 hos hvs',g7,g8,by simp,?_,?_,g11⟩
  ·refine g9.less (aY _) λj x hj=> ?_
   rw[Heap.fG]at hj ⊢;have hnx:(h.drop i).next=h.next:=by simp
   rw[hnx]at hj;split at hj
   ·rename_i hjn;rw[if_pos hjn];exact hj
   ·rename_i hjn
    rw[if_neg hjn];rw[Heap.fD]at hj;split at hj
    ·cases hj
    ·exact hj
  ·simp only[bF]at g10 ⊢
   obtain⟨a,c,q1,q2,q3,q4⟩:=g10;exact⟨a,_,c,q1,q2,q3,λ_=>⟨by simp,by omega⟩⟩
theorem Rel.swap{h:Heap}{ρ:Ren}{T:Nat->Prop}{w:World}{i:Nat}{o o':dF}(hi:h.get i=some o)(hh: ∀a S,dI ρ w T a S o->dI ρ w T a S o')(hR:Rel h ρ T w):Rel (h.set i o') ρ T w:=by
 obtain⟨S,h1,h2,h3,h4,h5⟩:=hR;have get: ∀j x,(h.set i o').get j=some x-> ∃y,h.get j=some y:=λj x hj=>by
  rw[Heap.dR]at hj;by_cases hji:j=i
  ·exact⟨o,hji▸hi⟩
  ·rw[if_neg hji]at hj;exact⟨x,hj⟩
 refine⟨S,λj x hj=> ?_,λj k x y b hj hk hjk=> ?_,λj x b hj hS=> ?_,λj hj=>h4 j (by simpa using hj),h5⟩
 ·rw[Heap.dR]at hj
  by_cases hji:j=i
  ·subst hji
   rw[if_pos rfl]at hj;cases hj;obtain⟨a,ha,ho⟩:=h1 j o hi;exact⟨a,ha,hh a _ ho⟩
  ·rw[if_neg hji]at hj
   exact h1 j x hj
 ·obtain⟨x',hx'⟩:=get j x hj
  obtain⟨y',hy'⟩:=get k y hk;exact h2 j k x' y' b hx' hy' hjk
 ·obtain⟨x',hx'⟩:=get j x hj
  exact h3 j x' b hx' hS
theorem afB{h h':Heap}{ρ:Ren}{T:Nat->Prop}{w:World}{i:Nat}{o:dF}(hn:h'.next=h.next)(hg: ∀j,j≠i->h'.get j=h.get j)(hR:Rel (h'.push o) ρ T w):Rel ((h.drop i).push o) ρ T w:=by
 refine hR.less (by simp[hn]) λj x hj=> ?_
 rw[Heap.fG]at hj ⊢;rw[Heap.wY]at hj;rw[hn];split at hj
 ·rename_i hjn;rw[if_pos hjn];exact hj
 ·rename_i hjn
  rw[if_neg hjn];rw[Heap.fD]at hj;split at hj
  ·cases hj
  ·rename_i hji;rw[hg j hji];exact hj
theorem ab2{P:Program}{tt:TT}(hT:tt.ok P){h:Heap}{ρ:Ren}{T:Nat->Prop}{w:World}(hR:Rel h ρ T w){t xt ty:TypeId}{s x:AV}{u v:Value}{ts:Array TypeId}{us:Array Value}{Q:AV->Heap->Prop}
  (hq:Ux tt t xt s x h Q) (hu:bF ρ s u) (hv:bF ρ x v) (ht0:ts[0]? =some t) (ht1:ts[1]? =some xt) (hu0:us[0]? =some u) (hu1:us[1]? =some v):XQ P (Builtin.append_ ts ty us) h ρ T w Q:=by
 unfold Ux at hq;split at hq
 ·rename_i ti tx hti htx
  split at hq
  ·rename_i e hd
   split at hq
   ·rename_i te hte
    cases hbz:(Bd tx.desc||Nat.beq te.bytes 0|| !Nat.beq te.zero.length te.size||Nat.beq te.size 0)with
    |true=>rw[hbz]at hq;exact hq.elim
    |false=>
     rw[hbz]at hq;simp only[aQ]at hq;simp only[Bool.or_eq_false_iff,Bool.not_eq_false']at hbz;obtain⟨⟨⟨hxi,hb0⟩,hz⟩,hs0⟩:=hbz;have hb0:te.bytes≠0:=λh0=>by rw[h0]at hb0;cases hb0
     have hm:0<te.size:=Nat.pos_of_ne_zero λh0=>by rw[h0]at hs0;cases hs0
     have hz:te.zero.length=te.size:=au hz;have jD: ∀w,(underlying t).run P w= .ok (.slice e) w:=λw=>by
      obtain⟨d1,r1,_,m1⟩:=dH (P:=P) hT hti w;rw[dB (m1.trans hd)]at r1;exact r1
     obtain⟨dx,hdx,hdn⟩: ∃dx,(∀w,(underlying xt).run P w= .ok dx w)/\ ∀k,dx≠ .int k:=by
      obtain⟨d1,_,p1,m1⟩:=dH (P:=P) hT htx w;refine⟨d1,λw=>by simp[underlying,p1],λk hk=> ?_⟩;subst hk;rw[<-m1]at hxi;cases hxi
     have hsz:=λw=>run_sizeOf (P:=P) hT hte w
     split at hq
     ·--none
      simp only[bF]at hu;subst hu;obtain⟨new,⟨hlen,hnew⟩,hq⟩:=zn (P:=P) (T:=T) hm hq hv;rcases jE hq with ⟨hn,hq⟩|⟨hn,hlim,hq⟩
      ·have hn:=au hn
       obtain⟨vs,hvs,_⟩:=hnew w hR;refine⟨_,_,⟨.slice none 0 0,w,ρ,?_,λ_ _=>rfl,Ren.le_refl _,aY _,hR,by simp only[bF],Keeps.refl _ _⟩,hq⟩;have:=run_append_room (P:=P) (w:=w) (w':=w) (ty:=ty) (base:=none) ht0 ht1 hu0 hu1 jD hsz hdx hdn hlen (by omega) hvs rfl;rw[hn]at this;exact this
      ·have hn:new.len≠0:=λh0=>by rw[h0]at hn;cases hn
       obtain⟨vs',hvs',oz,abQ⟩:=hnew w.drew hR.drew;obtain⟨i,z,newCap,ρ',g1,g2,g3,g4,g5,g6,g7,g8,g9,g10,g11⟩:=jc (P:=P) hT hR hte hb0 hz (need:=0+new.len) (sCap:=0) (by omega) hlim (us:= #[]) (vs:=vs') (c:=kN te.size 0 (λ_=>[]) [] new)
        (by simp[oz]) (by rw[(kD hm).1];simp) (λrest=>uN hm (λk y hk=>by have:=Cs.dW hk;simp[Cs.size]at this) abQ (by simp) oz)
       refine⟨_,_,⟨_,_,ρ',run_append_grow ht0 ht1 hu0 hu1 jD hsz hdx hdn hlen g1 (by omega) g3 (by omega) (by rw[g2];exact g4) g5 (by simp[Builtin.firstCells]) hvs',g7,g8,by simp,g9,?_,g11⟩,hq⟩;simp only[bF]at g10 ⊢;obtain⟨a,c,q1,q2,q3,q4⟩:=g10;exact⟨a,_,c,q1,q2,q3,λ_=>⟨by simp,by omega⟩⟩
     ·--of elements,its room known
      rename_i i q m sn c;cases hmb:Nat.beq m te.size with
      |false=>rw[hmb]at hq;exact hq.elim
      |true=>
       rw[hmb]at hq;simp only[aP]at hq;have:=au hmb;subst this;have hu':=hu;simp only[bF]at hu;obtain⟨a,p,ha,rfl,hnc,hp⟩:=hu;obtain⟨ob,N,g,wr,hi,hc,hle,hq⟩:=gW hq;obtain⟨new,⟨hlen,hnew⟩,hq⟩:=zn (P:=P) (T:=T) hm hq hv;rcases jE hq with ⟨hn,hq⟩|⟨hn,hcap⟩
       ·have hn:=au hn
        obtain⟨vs,hvs,Bf,_⟩:=hnew w hR;have aln:vs= #[]:=Array.eq_empty_of_size_eq_zero (by rw[Bf,hn];simp);subst aln;refine⟨_,_,⟨_,w,ρ,run_append_room (w':=w) ht0 ht1 hu0 hu1 jD hsz hdx hdn hlen (by omega) hvs (by simp[storeCells]),λ_ _=>rfl,Ren.le_refl _,aY _,hR,?_,Keeps.refl _ _⟩,hq⟩;rw[hn];exact hu'
       ·have hn:new.len≠0:=λh0=>by rw[h0]at hn;cases hn
        rcases jE hcap with ⟨hroom,zo,hin,hq⟩|⟨hroom,hlim,hq⟩
        ·have hroom:sn+new.len<=c:=by simpa using hroom
         cases how:DT h i with
         |false=>rw[how]at hq;exact hq.elim
         |true=>
         rw[how]at hq;simp only[aP]at hq;have hrow:fA ob=true:=by simpa[DT,hi]using how
         have hset:setRow h i (mO te.size N (q+sn) g wr new)=h.set i (mF ob (mO te.size N (q+sn) g wr new)):=by simp[setRow,hi]
         rw[hset]at hq;obtain⟨vs,hvs,Bf,hvc⟩:=hnew w hR;have hkN:q+sn+new.len<=N:=by omega
         obtain⟨w',hrun,hR',hk'⟩:=fH (P:=P) hR (k:=q+sn) (cs:=vs.toList) hm hi hrow hc ha hkN (by simpa using Bf) (Ip hm zo Bf hvc) (by simpa using hvc);refine⟨_,_,⟨_,w',ρ,run_append_room (w':=w') ht0 ht1 hu0 hu1 jD hsz hdx hdn hlen hroom hvs ?_,λ_ _=>rfl,Ren.le_refl _,by simp,hR',?_,hk'⟩,hq⟩
         ·simp only[dS]
          rw[hp (by omega),Nat.add_assoc,<-Nat.add_mul];exact hrun
         ·simp only[bF];exact⟨a,p,ha,rfl,hroom,hp⟩
        have hcap:c<sn+new.len:=by
         cases hb:Nat.ble (sn+new.len) c with
         |true=>rw[hb]at hroom;cases hroom
         |false=>rcases Nat.lt_or_ge c (sn+new.len)with h'|h'
                 ·exact h'
                 ·have hb2:Nat.ble (sn+new.len) c=true:=by simpa using h'
                  rw[hb2]at hb;cases hb
        obtain⟨vs',hvs',oz,abQ⟩:=hnew w.drew hR.drew;obtain⟨_,hold⟩:=lS (P:=P) (T:=T) (c:=c) hm hi hc ha hle (p:=p) (λh=>hp (by omega));obtain⟨os,hos,OV,hoc⟩:=hold w.drew hR.drew;simp only[dJ.len,dJ.el]at hos OV hoc;obtain⟨ii,z,newCap,ρ',g1,g2,g3,g4,g5,g6,g7,g8,g9,g10,g11⟩:=jc (P:=P) hT hR hte hb0 hz (need:=sn+new.len) (sCap:=c) (by omega) hlim (us:=os) (vs:=vs')
         (c:=kN te.size sn (λk=>Cs.eff g wr (q+k)) [] new) (by rw[OV,oz,Nat.add_mul]) (by rw[(kD hm).1,Nat.add_mul]) (λrest=>uN hm hoc abQ OV oz)
        refine⟨_,_,⟨_,_,ρ',run_append_grow ht0 ht1 hu0 hu1 jD hsz hdx hdn hlen g1 (by omega) g3 (by omega) (by rw[g2];exact g4) g5 hos hvs',g7,g8,by simp,g9,?_,g11⟩,hq⟩;simp only[bF]at g10 ⊢;obtain⟨a,c,q1,q2,q3,q4⟩:=g10;exact⟨a,_,c,q1,q2,q3,λ_=>⟨by simp,by omega⟩⟩
     ·--of elements,its room not known
      rename_i i m sn;split at hq
      ·rename_i e' m' N g wr hi
       cases hck:(Nat.beq m te.size&&Nat.beq m' te.size&&Nat.beq e' e)with
       |false=>rw[hck]at hq;exact hq.elim
       |true=>
        rw[hck]at hq;simp only[aP]at hq;simp only[aJ]at hck;obtain⟨⟨k1,k2⟩,k3⟩:=hck;have k1:=au k1;have k2:=au k2;have k3:=au k3;subst k1;subst k3;subst k2;obtain⟨rfl,hq⟩:=hq;obtain⟨new,⟨hlen,hnew⟩,zo,hlim,hq⟩:=zn (P:=P) (T:=T) hm hq hv;exact⟨_,_,Iq hT hR hte hb0 hz hm jD hdx hdn hsz ht0 ht1 hu0 hu1 hi ⟨hlen,hnew⟩ zo hlim hu,hq⟩
      ·exact hq.elim
     ·--of elements,if it is one
      rename_i z i m sn;split at hq
      ·rename_i z' e' m' N g wr hi
       cases hck:(Nat.beq m te.size&&Nat.beq m' te.size&&Nat.beq e' e)with
       |false=>rw[hck]at hq;exact hq.elim
       |true=>
        rw[hck]at hq;simp only[aP]at hq;simp only[aJ]at hck;obtain⟨⟨k1,k2⟩,k3⟩:=hck;have k1:=au k1;have k2:=au k2;have k3:=au k3;subst k1;subst k3;subst k2;obtain⟨rfl,rfl,hq⟩:=hq;obtain⟨new,hnn,hq⟩:=zn (P:=P) (T:=T) hm hq hv;have hu':=hu;rcases jE hq with ⟨hn,hq2⟩|⟨hn,zo,hlim,hq2⟩
        ·have hn:=au hn
         obtain⟨hlen,hnew⟩:=hnn;obtain⟨vs,hvs,Bf,_⟩:=hnew w hR;have aln:vs= #[]:=Array.eq_empty_of_size_eq_zero (by rw[Bf,hn];simp);subst aln;simp only[bF]at hu;rcases hu with ⟨_,rfl,rfl⟩|⟨_,a,p,c,ha,rfl,hle,hp⟩
         ·refine⟨_,_,⟨_,w,ρ,?_,λ_ _=>rfl,Ren.le_refl _,aY _,hR,hu',Keeps.refl _ _⟩,hq2⟩
          have:=run_append_room (P:=P) (w:=w) (w':=w) (ty:=ty) (base:=none) ht0 ht1 hu0 hu1 jD hsz hdx hdn hlen (by omega) hvs rfl;rw[hn]at this;exact this
         ·refine⟨_,_,⟨_,w,ρ,?_,λ_ _=>rfl,Ren.le_refl _,aY _,hR,hu',Keeps.refl _ _⟩,hq2⟩
          have:=run_append_room (P:=P) (w:=w) (w':=w) (ty:=ty) (base:=some ⟨a.blk,p,none⟩) ht0 ht1 hu0 hu1 jD hsz hdx hdn hlen (by omega) hvs (by simp[storeCells]);rw[hn]at this;exact this
        ·have hn:new.len≠0:=λh0=>by rw[h0]at hn;cases hn
         simp only[bF]at hu;rcases hu with ⟨rfl,rfl,rfl⟩|⟨rfl,a,p,c,ha,rfl,hle,hp⟩
         ·obtain⟨hlen,hnew⟩:=hnn
          obtain⟨vs',hvs',oz,abQ⟩:=hnew w.drew hR.drew;obtain⟨ii,z,newCap,ρ',g1,g2,g3,g4,g5,g6,g7,g8,g9,g10,g11⟩:=jc (P:=P) hT hR hte hb0 hz (need:=0+new.len) (sCap:=0) (by omega) hlim (us:= #[]) (vs:=vs') (c:=kN te.size 0 g wr new)
           (by simp[oz]) (by rw[(kD hm).1];simp) (λrest=>uN hm (λk y hk=>by have:=Cs.dW hk;simp[Cs.size]at this) abQ (by simp) oz)
          refine⟨_,_,⟨_,_,ρ',run_append_grow ht0 ht1 hu0 hu1 jD hsz hdx hdn hlen g1 (by omega) g3 (by omega) (by rw[g2];exact g4) g5 (by simp[Builtin.firstCells]) hvs',g7,g8,by simp,afB rfl (λ_ _=>rfl) g9,?_,g11⟩,hq2⟩;simp only[bF]at g10 ⊢;obtain⟨a,c,q1,q2,q3,q4⟩:=g10;exact⟨a,_,c,q1,q2,q3,λ_=>⟨by simp,by omega⟩⟩
         ·have to: ∀{w},Rel h ρ T w->Rel (h.set i (.room e' (.row te.size N g wr))) ρ T w:=λhR=>hR.swap hi λa S ho=>by
           rcases ho with ⟨h0,_⟩|⟨_,ho⟩
           ·cases h0
           ·exact ho
          have fro: ∀{w},Rel (h.set i (.room e' (.row te.size N g wr))) ρ T w->Rel h ρ T w:=λ{w} hR=>by
           have hR:=hR.swap (o:= .room e' (.row te.size N g wr)) (o':= .iC false e' (.row te.size N g wr)) (by rw[Heap.dR,if_pos rfl]) λa S ho=> .inr ⟨rfl,ho⟩
           refine hR.less (by simp) λj x hj=> ?_
           rw[Heap.dR,Heap.dR];by_cases hji:j=i
           ·rw[if_pos hji];rw[hji,hi]at hj;exact hj
           ·rw[if_neg hji,if_neg hji];exact hj
          obtain⟨uu,w',ρ',x1,x2,x3,x4,x5,x6,x7⟩:=Iq hT (to hR) (ty:=ty) hte hb0 hz hm jD hdx hdn hsz ht0 ht1 hu0 hu1 (by rw[Heap.dR,if_pos rfl]) ⟨hnn.1,λw hw=>hnn.2 w (fro hw)⟩ zo hlim (by simp only[bF];exact⟨a,p,c,ha,rfl,hle,λh=>by rw[Nat.zero_mul,aI,aA];exact hp h⟩);rw[Heap.Zj]at x2 x4 x6;refine⟨.slW h.next 0 te.size (N+new.len),(h.drop i).push (.room e' (kN te.size N g wr new)),⟨uu,w',ρ',x1,x2,x3,by simp,?_,x6,x7⟩,hq2⟩;exact x5.less (by simp) λj x hj=>by
           rw[Heap.fG,Heap.wY]at hj;rw[Heap.fG,Heap.wY,Heap.Zj];split at hj
           ·rename_i hjn;rw[if_pos hjn];exact hj
           ·rename_i hjn
            rw[if_neg hjn];rw[Heap.fD]at hj;rw[Heap.fD];split at hj
            ·cases hj
            ·rename_i hji;rw[if_neg hji,Heap.dR,if_neg hji];exact hj
      ·exact hq.elim
     ·--of nothing,without room
      rename_i i o;have hu':=hu;simp only[bF]at hu;obtain⟨a0,ha0,rfl⟩:=hu;obtain⟨new,⟨hlen,hnew⟩,hq⟩:=zn (P:=P) (T:=T) hm hq hv;rcases jE hq with ⟨hn,hq⟩|⟨hn,hlim,hq⟩
      ·have hn:=au hn
       obtain⟨vs,hvs,Bf,_⟩:=hnew w hR;have aln:vs= #[]:=Array.eq_empty_of_size_eq_zero (by rw[Bf,hn];simp);subst aln;refine⟨_,_,⟨_,w,ρ,?_,λ_ _=>rfl,Ren.le_refl _,aY _,hR,hu',Keeps.refl _ _⟩,hq⟩;have:=run_append_room (P:=P) (w:=w) (w':=w) (ty:=ty) (base:=some ⟨a0.blk,a0.base+o,none⟩) ht0 ht1 hu0 hu1 jD hsz hdx hdn hlen (by omega) hvs (by simp[storeCells]);rw[hn]at this;exact this
      ·have hn:new.len≠0:=λh0=>by rw[h0]at hn;cases hn
       obtain⟨vs',hvs',oz,abQ⟩:=hnew w.drew hR.drew;obtain⟨i,z,newCap,ρ',g1,g2,g3,g4,g5,g6,g7,g8,g9,g10,g11⟩:=jc (P:=P) hT hR hte hb0 hz (need:=0+new.len) (sCap:=0) (by omega) hlim (us:= #[]) (vs:=vs') (c:=kN te.size 0 (λ_=>[]) [] new)
        (by simp[oz]) (by rw[(kD hm).1];simp) (λrest=>uN hm (λk y hk=>by have:=Cs.dW hk;simp[Cs.size]at this) abQ (by simp) oz)
       refine⟨_,_,⟨_,_,ρ',run_append_grow ht0 ht1 hu0 hu1 jD hsz hdx hdn hlen g1 (by omega) g3 (by omega) (by rw[g2];exact g4) g5 (by simp[Builtin.firstCells,loadCells,loadCellsFrom]) hvs',g7,g8,by simp,g9,?_,g11⟩,hq⟩;simp only[bF]at g10 ⊢;obtain⟨a,c,q1,q2,q3,q4⟩:=g10;exact⟨a,_,c,q1,q2,q3,λ_=>⟨by simp,by omega⟩⟩
     ·split at hq
      ·rename_i r h' hr
       exact⟨r,h',H8 hT hR hr hu hv ht0 ht1 hu0 hu1,hq⟩
      ·exact hq.elim
   ·exact hq.elim
  ·exact hq.elim
 ·exact hq.elim
def alF:Value->Value->Option Bool
 | .int k a,.int k' b=>if k=k' then some (a==b)else none
 | .string a,.string b=>some (a==b)
 |_,_=>none
def kE:TD->Value->Bool
 | .int k,.int k' _=>if k'=k then true else false
 | .string,.string _=>true
 |_,_=>false
def atl:Value->AV
 | .agg cs=> .agg (Zl cs.toList)
 |v=> .lit v
theorem JQ(ρ:Ren)(z:Value):bF ρ (atl z) z:=by
 cases z with
 |agg cs=>simp only[atl,bF];exact⟨cs,rfl,dQ.lits _⟩
 |_=>simp only[atl,bF]
def afC(key:Value):List (AV×AV×Nat)->Nat->(Option (Nat×AV)->Prop)->Prop
 |[],_,Q=>Q none
 |(.lit u,v,_)::r,i,Q=>match alF key u with
  |some b=>cP b (Q (some (i,v))) (afC key r (i+1) Q)
  |none=>False
 |_::_,_,_=>False
theorem lT{P:Program}{t:TypeId}{d:TypeDesc}{td:TD}{key:Value}(hd:wU P t d=td)(h:kE td key=true):MapKept.IsKey d key:=by
 cases td<;>cases key<;>simp[kE]at h
 ·rw[fJ hd];trivial
 ·rw[xg hd];exact h
theorem afD{P:Program}{t:TypeId}{d:TypeDesc}{td:TD}{key u:Value}{b:Bool}(hd:wU P t d=td)(h:kE td key=true)(hs:alF key u=some b):Instr.sameNow d key u=some b/\(b=true->key=u):=by
 cases td<;>cases key<;>simp[kE]at h
 ·cases u<;>simp[alF]at hs
  rename_i x y;rw[fJ hd];refine⟨by simp[Instr.sameNow,hs],λhb=> ?_⟩;subst hb;have:x=y:=(MapKept.bytes_beq x y).1 hs;rw[this]
 ·cases u<;>simp[alF]at hs
  rename_i k1 a k2 b';rw[xg hd];refine⟨by simp[Instr.sameNow,hs],λhb=> ?_⟩;subst hb;obtain⟨h1,h2⟩:=hs;have h2:a=b':=by simpa using h2
  rw[h1,h2]
theorem JR{P:Program}{ρ:Ren}{t:TypeId}{d:TypeDesc}{td:TD}{key:Value}{Q:Option (Nat×AV)->Prop}(hd:wU P t d=td)(hk:kE td key=true): ∀{es:List (AV×AV×Nat)} {arr:List MapEntry} {i:Nat},kM ρ es arr->afC key es i Q->
  (Instr.findNow d key arr i=some none/\Q none)\/ ∃j v u e,Instr.findNow d key arr i=some (some (i+j,u))/\bF ρ v u/\Q (some (i+j,v))/\arr[j]? =some e/\e.key=key
 |[],arr,i,hm,hq=>by
  simp only[kM]at hm;subst hm;exact .inl ⟨rfl,hq⟩
 |(kk,v,b)::r,arr,i,hm,hq=>by
  simp only[kM]at hm;obtain⟨e,arr',rfl,h1,h2,_,h4⟩:=hm;cases kk<;>simp only[afC]at hq;rename_i u;split at hq
  ·rename_i bb hb
   simp only[bF]at h1;obtain⟨g1,g2⟩:=afD hd hk hb;rw[<-h1]at g1;rcases jE hq with ⟨rfl,hq⟩|⟨rfl,hq⟩
   ·refine .inr ⟨0,v,e.val,e,?_,h2,hq,rfl,by rw[h1,g2 rfl]⟩
    simp[Instr.findNow,g1]
   ·rcases JR hd hk h4 hq with ⟨q1,q2⟩|⟨j,v',u',e',q1,q2,q3,q4,q5⟩
    ·exact .inl ⟨by simp[Instr.findNow,g1,q1],q2⟩
    ·refine .inr ⟨j+1,v',u',e',?_,q2,by rw[show i+(j+1)=i+1+j by omega];exact q3,by simpa using q4,q5⟩
     simp[Instr.findNow,g1,q1];omega
  ·exact hq.elim
theorem kM.app{ρ:Ren}: ∀{es:List (AV×AV×Nat)} {arr:List MapEntry} {x:AV×AV×Nat} {e:MapEntry},kM ρ es arr->bF ρ x.1 e.key->bF ρ x.2.1 e.val->e.born=x.2.2->kM ρ (es++[x]) (arr++[e])
 |[],arr,x,e,hm,h1,h2,h3=>by simp only[kM]at hm;subst hm;exact⟨e,[],rfl,h1,h2,h3,rfl⟩
 |y::es,arr,x,e,hm,h1,h2,h3=>by
  simp only[kM]at hm;obtain⟨e0,arr',rfl,g1,g2,g3,g4⟩:=hm;exact⟨e0,arr'++[e],rfl,g1,g2,g3,g4.app h1 h2 h3⟩
theorem kM.modify{ρ:Ren}{key val:Value}{v:AV}(hv:bF ρ v val): ∀{es:List (AV×AV×Nat)} {arr:List MapEntry} {j:Nat},kM ρ es arr->kM ρ (es.modify j λx=>(.lit key,v,x.2.2)) (arr.modify j λe=>{e with key:=key,val:=val})
 |[],arr,j,hm=>by simp only[kM]at hm;subst hm;simp[kM]
 |y::es,arr,0,hm=>by
  simp only[kM]at hm;obtain⟨e0,arr',rfl,g1,g2,g3,g4⟩:=hm;exact⟨{e0 with key:=key,val:=val},arr',rfl,by simp only[bF],hv,g3,g4⟩
 |y::es,arr,j+1,hm=>by
  simp only[kM]at hm;obtain⟨e0,arr',rfl,g1,g2,g3,g4⟩:=hm;exact⟨e0,_,rfl,g1,g2,g3,g4.modify hv⟩
theorem Rel.afE{h:Heap}{ρ:Ren}{T:Nat->Prop}{w:World}(hR:Rel h ρ T w){i:Nat}{es:List (AV×AV×Nat)}{clk:Nat}(hi:h.get i=some (.map es clk)):
  ∃a arr,ρ i=some a/\w.heap[a.blk]? =some (.map arr clk)/\kM ρ es arr.toList/\T a.blk:=by
 obtain⟨S,h1,h2,h3,h4,h5⟩:=hR;obtain⟨a,ha,hS,arr,hb,hm⟩:=h1 i _ hi;exact⟨a,arr,ha,hb,hm,(h3 i _ _ hi hS).1⟩
theorem Rel.apd{h:Heap}{ρ:Ren}{T:Nat->Prop}{w:World}(hR:Rel h ρ T w){i:Nat}{es es':List (AV×AV×Nat)}{clk atm:Nat}{a:Loc}{arr arr':Array MapEntry}(hi:h.get i=some (.map es clk))(ha:ρ i=some a)
  (hb:w.heap[a.blk]? =some (.map arr clk)) (hT:T a.blk) (hm:kM ρ es' arr'.toList):Rel (h.set i (.map es' atm)) ρ T {w with heap:=w.heap.setIfInBounds a.blk (.map arr' atm)}/\Keeps T w {w with heap:=w.heap.setIfInBounds a.blk (.map arr' atm)}:=by
 have hne: ∀b,b≠a.blk->(w.heap.setIfInBounds a.blk (.map arr' atm))[b]? =w.heap[b]? :=λb hb=>by
  rw[Array.getElem?_setIfInBounds];rw[if_neg (Ne.symm hb)]
 have hlt:a.blk<w.heap.size:=(Array.getElem?_eq_some_iff.1 hb).1;refine⟨hR.upd (o:= .map es clk) hi ha (by simp) hne (λS hS=>hS.1) (λS hS _=>⟨hS,arr',?_,hm⟩),by simp,rfl,rfl,rfl,λb hb=>hne b λh=>hb (h▸hT)⟩;show(w.heap.setIfInBounds a.blk _)[a.blk]? =_;simp[hlt]
def alG(m:MS)(s:ByteArray)(A:Nat->Prop)(B:Prop):Prop:=(∀j,j<m.n->(m.g j).key=s->A j)/\((∀j,j<m.n->(m.g j).key≠s)->B)
def MS.put(m:MS)(j:Nat)(s:ByteArray)(vs:List Value):MS:=⟨m.n,λq=>bif Nat.beq q j then⟨s,vs,(m.g j).born⟩else m.g q,m.clk⟩
def MS.add(m:MS)(s:ByteArray)(vs:List Value):MS:=⟨m.n+1,λq=>bif Nat.beq q m.n then⟨s,vs,m.clk⟩else m.g q,m.clk+1⟩
def MS.del(m:MS)(j:Nat):MS:=⟨m.n-1,λq=>bif Nat.blt q j then m.g q else m.g (q+1),m.clk⟩
def abK.raw(e:abK):MapEntry:={key:= .string e.key,val:= .agg e.val.toArray,born:=e.born}
theorem Jz.get{m:MS}{arr:Array MapEntry}(h:Jz m arr){j:Nat}(hj:j<m.n):arr[j]? =some (m.g j).raw:=h.2 j hj
theorem Jz.mem{m:MS}{arr:Array MapEntry}(h:Jz m arr){x:MapEntry}(hx:x∈arr.toList): ∃j,j<m.n/\arr.toList[j]? =some x/\x=(m.g j).raw:=by
 obtain⟨j,hj⟩:=List.mem_iff_getElem?.1 hx;have hlt:j<m.n:=by rw[<-h.1];have:=(List.getElem?_eq_some_iff.1 hj).1;simpa using this
 have:=h.get hlt;rw[<-Array.getElem?_toList,hj]at this;exact⟨j,hlt,hj,Option.some.inj this⟩
theorem JU{m:MS}{arr:Array MapEntry}{d:TypeDesc}{s:ByteArray}{A:Nat->Prop}{B:Prop}(h:Jz m arr)(hd:d= .string)(hq:alG m s A B):
  (Instr.findNow d (.string s) arr.toList 0=some none/\B)\/ ∃j,j<m.n/\(m.g j).key=s/\Instr.findNow d (.string s) arr.toList 0=some (some (j,.agg (m.g j).val.toArray))/\A j:=by
 subst hd;rcases MapKept.findNow_spec (d:= .string) (k:= .string s) trivial arr.toList 0 (λx hx=>by obtain⟨j,_,_,rfl⟩:=h.mem hx;trivial)with ⟨h1,h2⟩|⟨j,e,h1,h2,h3⟩
 ·refine .inl ⟨h1,hq.2 λj hj he=> ?_⟩
  have hg:=h.get hj;rw[<-Array.getElem?_toList]at hg;exact h2 _ (List.mem_of_getElem? hg) (by show Value.string (m.g j).key=_;rw[he])
 ·have hlt:j<m.n:=by rw[<-h.1];have:=(List.getElem?_eq_some_iff.1 h2).1;simpa using this
  have hg:=h.get hlt;rw[<-Array.getElem?_toList,h2]at hg;have he:=Option.some.inj hg;subst he;have hk:(m.g j).key=s:=by
   have h3:Value.string (m.g j).key= .string s:=h3;injection h3
  rw[aA]at h1;exact .inr ⟨j,hlt,hk,h1,hq.1 j hlt hk⟩
theorem Jz.put{m:MS}{arr:Array MapEntry}(h:Jz m arr){j:Nat}{s:ByteArray}{vs:List Value}:Jz (m.put j s vs) (arr.modify j λe=>{e with key:= .string s,val:= .agg vs.toArray}):=by
 refine⟨by rw[Array.size_modify];exact h.1,λq hq=> ?_⟩;rw[Array.getElem?_modify];have hg:=h.get hq;by_cases hqj:j=q
 ·subst hqj
  rw[if_pos rfl,hg];simp[MS.put,abK.raw]
 ·rw[if_neg hqj,hg]
  simp only[MS.put,fC (Ne.symm hqj),aQ];rfl
theorem Jz.add{m:MS}{arr:Array MapEntry}(h:Jz m arr)(s:ByteArray)(vs:List Value):Jz (m.add s vs) (arr.push (abK.raw ⟨s,vs,m.clk⟩)):=by
 refine⟨by rw[Array.size_push,h.1];rfl,λq hq=> ?_⟩;have hq:q<m.n+1:=hq;rw[Array.getElem?_push,h.1];by_cases hqn:q=m.n
 ·subst hqn;rw[if_pos rfl];simp[MS.add,abK.raw]
 ·rw[if_neg hqn,h.get (by omega)]
  simp only[MS.add,fC hqn,aQ];rfl
theorem Jz.del{m:MS}{arr:Array MapEntry}(h:Jz m arr){j:Nat}(hj:j<m.n):Jz (m.del j) (arr.eraseIdxIfInBounds j):=by
 have hj':j<arr.size:=by rw[h.1];exact hj
 rw[show arr.eraseIdxIfInBounds j=arr.eraseIdx j hj' by simp[Array.eraseIdxIfInBounds,hj']];refine⟨by rw[Array.size_eraseIdx,h.1];rfl,λq hq=> ?_⟩;have hq:q<m.n-1:=hq;rw[<-Array.getElem?_toList,Array.toList_eraseIdx,List.getElem?_eraseIdx];simp only[Array.getElem?_toList];by_cases hqj:q<j
 ·rw[if_pos hqj,h.get (by omega)]
  simp only[MS.del,bg.2 hqj,aP];rfl
 ·rw[if_neg hqj,h.get (by omega)]
  have:Nat.blt q j=false:=by
   cases hb:Nat.blt q j with
   |false=>rfl
   |true=>exact absurd (bg.1 hb) hqj
  simp only[MS.del,this,aQ];rfl
theorem Rel.DU{h:Heap}{ρ:Ren}{T:Nat->Prop}{w:World}(hR:Rel h ρ T w){i:Nat}{m:MS}(hi:h.get i=some (.nK m)):
  ∃a arr,ρ i=some a/\w.heap[a.blk]? =some (.map arr m.clk)/\Jz m arr/\T a.blk:=by
 obtain⟨S,h1,h2,h3,h4,h5⟩:=hR;obtain⟨a,ha,hS,arr,hb,hm⟩:=h1 i _ hi;exact⟨a,arr,ha,hb,hm,(h3 i _ _ hi hS).1⟩
theorem Rel.Uy{h:Heap}{ρ:Ren}{T:Nat->Prop}{w:World}(hR:Rel h ρ T w){i:Nat}{m m':MS}{a:Loc}{arr arr':Array MapEntry}(hi:h.get i=some (.nK m))(ha:ρ i=some a)
  (hb:w.heap[a.blk]? =some (.map arr m.clk)) (hT:T a.blk) (hm:Jz m' arr'):Rel (h.set i (.nK m')) ρ T {w with heap:=w.heap.setIfInBounds a.blk (.map arr' m'.clk)}/\Keeps T w {w with heap:=w.heap.setIfInBounds a.blk (.map arr' m'.clk)}:=by
 have hne: ∀b,b≠a.blk->(w.heap.setIfInBounds a.blk (.map arr' m'.clk))[b]? =w.heap[b]? :=λb hb=>by
  rw[Array.getElem?_setIfInBounds];rw[if_neg (Ne.symm hb)]
 have hlt:a.blk<w.heap.size:=(Array.getElem?_eq_some_iff.1 hb).1;refine⟨hR.upd (o:= .nK m) hi ha (by simp) hne (λS hS=>hS.1) (λS hS _=>⟨hS,arr',?_,hm⟩),by simp,rfl,rfl,rfl,λb hb=>hne b λh=>hb (h▸hT)⟩;show(w.heap.setIfInBounds a.blk _)[a.blk]? =_;simp[hlt]
def DV:TD->Bool
 | .string=>true
 |_=>false
theorem DW{td:TD}(h:DV td=true):td= .string:=by cases td<;>first|rfl|cases h
def Uz:AV->Option (List Value)
 | .agg cs=>nN cs
 |_=>none
theorem UA{ρ:Ren}{v:AV}{vs:List Value}{u:Value}(h:Uz v=some vs)(hv:bF ρ v u):u= .agg vs.toArray:=by
 cases v<;>simp only[Uz]at h<;>try cases h
 rename_i cs;have:=fM h;subst this;simp only[bF]at hv;obtain⟨us,rfl,hl⟩:=hv;have: ∀(l:List Value) (us:List Value),dQ ρ (l.map .lit) us->us=l:=by
  intro l
  induction l with
  |nil=>intro us h;simpa[dQ]using h
  |cons x l ih=>
   intro us h;simp only[List.map_cons,dQ,bF]at h;obtain⟨v,vs',rfl,rfl,h2⟩:=h;rw[ih _ h2]
 have:=this _ _ hl;rw[<-this]
def CZ(tt:TT)(t:TypeId)(hint:Bool)(h:Heap)(Q:AV->Heap->Prop):Prop:=bif hint then False else
 match tt t with
 |some ti=>match ti.desc with
  | .map _ _=>Q (.mp h.next) (h.push (.map [] 0))
  |_=>False
 |none=>False
theorem UC{P:Program}{tt:TT}{h:Heap}{ρ:Ren}{T:Nat->Prop}{w:World}(hR:Rel h ρ T w){t:TypeId}{o:Option Value}{Q:AV->Heap->Prop}(hq:CZ tt t o.isSome h Q):XQ P (Instr.makeMap t o) h ρ T w Q:=by
 cases o with
 |some x=>simp[CZ]at hq
 |none=>
  simp only[CZ,Option.isSome_none,aQ]at hq;split at hq
  ·split at hq
   ·obtain⟨ρ',h1,h2,h3,h4⟩:=hR.push (o:= .map [] 0) (ob:= .map #[] 0) 0 ⟨rfl,#[],by show(w.heap.push _)[w.heap.size]? =_;simp,rfl⟩
    obtain⟨_,_,_,_,_,h5⟩:=hR;refine⟨_,_,⟨.map (some w.heap.size),w.alloc (.map #[] 0),ρ',?_,h3,h1,by simp,h4,by simp only[bF];exact⟨_,h2,rfl⟩,Keeps.alloc _ h5⟩,hq⟩;rfl
   ·exact hq.elim
  ·exact hq.elim
def ab3(tt:TT)(t:TypeId):Option (TI×TI):=match tt t with
 |some ti=>match ti.desc with
  | .map kt et=>match tt kt,tt et with
   |some tk,some te=>some (tk,te)
   |_,_=>none
  |_=>none
 |none=>none
theorem C9{P:Program}{tt:TT}(hT:tt.ok P){t:TypeId}{tk te:TI}(h:ab3 tt t=some (tk,te)): ∃kt et d,P.underlying t=some (.map kt et)/\P.underlying kt=some d/\wU P kt d=tk.desc/\tt et=some te:=by
 unfold ab3 at h;split at h
 ·rename_i ti hti
  split at h
  ·rename_i kt et hd
   split at h
   ·rename_i tk' te' h1 h2
    cases h;obtain⟨_,d,_,_,hu,_,_,_,_,hm⟩:=hT.info hti;obtain⟨_,d2,_,_,hu2,_,_,_,_,hm2⟩:=hT.info h1;rw[hd]at hm;rw[uG hm]at hu;exact⟨kt,et,d2,hu,hu2,hm2,h2⟩
   ·cases h
  ·cases h
 ·cases h
def JV(tt:TT)(t:TypeId)(m k v:AV)(h:Heap)(Q:Heap->Prop):Prop:=
 match ab3 tt t,m,k with
 |some (tk,_),.mp i,.lit key=>match h.get i with
  |some (.map es clk)=>bif kE tk.desc key then afC key es 0 fun
    |none=>Q (h.set i (.map (es++[(.lit key,v,clk)]) (clk+1)))
    |some (j,_)=>Q (h.set i (.map (es.modify j λx=>(.lit key,v,x.2.2)) clk))else False
  |some (.nK m)=>bif DV tk.desc then(match key,Uz v with
   | .string s,some vs=>alG m s (λj=>Q (h.set i (.nK (m.put j s vs)))) (Q (h.set i (.nK (m.add s vs))))
   |_,_=>False)else False
  |_=>False
 |_,_,_=>False
theorem xW{P:Program}{t:TypeId}{d:TypeDesc}{td:TD}{key:Value}(hd:wU P t d=td)(h:kE td key=true):Instr.sameBits 10000 key key=true:=by
 cases td<;>cases key<;>simp[kE]at h<;>simp[Instr.sameBits,MapKept.bytes_beq]
theorem jA{P:Program}{t:TypeId}{d:TypeDesc}(h:P.underlying t=some d)(w:World):(underlying t).run P w= .ok d w:=by simp[underlying,h]
theorem Ir{P:Program}{tt:TT}(hT:tt.ok P){h:Heap}{ρ:Ren}{T:Nat->Prop}{w:World}(hR:Rel h ρ T w){t:TypeId}{m k v:AV}{um uk uv:Value}{Q:Heap->Prop}(hq:JV tt t m k v h Q)
  (hm:bF ρ m um) (hk:bF ρ k uk) (hv:bF ρ v uv): ∃w' h',(Instr.mapUpdate t um uk uv).run P w= .ok () w'/\Rel h' ρ T w'/\h'.next=h.next/\Keeps T w w'/\Q h':=by
 unfold JV at hq;split at hq
 ·rename_i tk te i key hty
  obtain⟨kt,et,d,h1,h2,h3,h4⟩:=C9 hT hty;simp only[bF]at hk;subst hk;simp only[bF]at hm;obtain⟨a0,ha0,rfl⟩:=hm;split at hq
  ·rename_i es clk hi
   cases hkf:kE tk.desc uk with
   |false=>rw[hkf]at hq;exact hq.elim
   |true=>
    rw[hkf]at hq;simp only[aP]at hq;obtain⟨a,arr,ha,hb,hmr,hTa⟩:=hR.afE hi;obtain rfl:a=a0:=Option.some.inj (ha.symm.trans ha0);have hck:=MapKept.run_checkKey (w:=w) h2 (lT h3 hkf) false 9999;rcases JR h3 hkf hmr hq with ⟨q1,q2⟩|⟨j,v',u,e,q1,q2,q3,q4,q5⟩
    ·obtain⟨r1,r2⟩:=hR.apd (es':=es++[(.lit uk,v,clk)]) (atm:=clk+1) (arr':=arr.push {key:=uk,val:=uv,born:=clk}) hi ha hb hTa (by
      rw[Array.toList_push];exact hmr.app (by simp only[bF]) hv rfl)
     refine⟨_,_,?_,r1,by simp,r2,q2⟩;simp[Instr.mapUpdate,jA h1,MapKept.run_getObj_map hb,hck,MapKept.run_findKey h2 q1,MapKept.run_setObj_map _ hb]
    ·rw[aA]at q1 q3
     obtain⟨r1,r2⟩:=hR.apd (es':=es.modify j λx=>(.lit uk,v,x.2.2)) (atm:=clk) (arr':=arr.modify j λe=>{e with key:=uk,val:=uv}) hi ha hb hTa (by
      rw[Array.toList_modify];exact hmr.modify hv)
     refine⟨_,_,?_,r1,by simp,r2,q3⟩;have hj:arr[j]? =some e:=by rw[<-Array.getElem?_toList];exact q4
     simp[Instr.mapUpdate,jA h1,MapKept.run_getObj_map hb,hck,MapKept.run_findKey h2 q1,MapKept.run_setObj_map _ hb,hj,q5,Instr.keyThatStays,xW h3 hkf]
  ·rename_i m hi
   cases hsd:DV tk.desc with
   |false=>rw[hsd]at hq;exact hq.elim
   |true=>
    rw[hsd]at hq;simp only[aP]at hq;have hsd:=DW hsd;have hd0:d= .string:=fJ (h3.trans hsd);split at hq
    ·rename_i s vs hvs
     have huv:=UA hvs hv;subst huv;have hkf:kE tk.desc (.string s)=true:=by rw[hsd];rfl
     obtain⟨a,arr,ha,hb,hmr,hTa⟩:=hR.DU hi;obtain rfl:a=a0:=Option.some.inj (ha.symm.trans ha0);have hck:=MapKept.run_checkKey (w:=w) h2 (lT h3 hkf) false 9999;rcases JU hmr hd0 hq with ⟨q1,q2⟩|⟨j,hj,he,q1,q2⟩
     ·obtain⟨r1,r2⟩:=hR.Uy hi ha hb hTa (hmr.add s vs)
      refine⟨_,_,?_,r1,by simp,r2,q2⟩;simp[Instr.mapUpdate,jA h1,MapKept.run_getObj_map hb,hck,MapKept.run_findKey h2 q1,MapKept.run_setObj_map _ hb,abK.raw,MS.add]
     ·obtain⟨r1,r2⟩:=hR.Uy hi ha hb hTa (hmr.put (j:=j) (s:=s) (vs:=vs))
      refine⟨_,_,?_,r1,by simp,r2,q2⟩;have hj:arr[j]? =some (m.g j).raw:=hmr.get hj;have hk:(m.g j).raw.key= .string s:=by show Value.string (m.g j).key=_;rw[he]
      simp[Instr.mapUpdate,jA h1,MapKept.run_getObj_map hb,hck,MapKept.run_findKey h2 q1,MapKept.run_setObj_map _ hb,hj,hk,Instr.keyThatStays,xW h3 hkf,MS.put]
    ·exact hq.elim
  ·exact hq.elim
 ·exact hq.elim
def okV(ok:Bool)(v:AV)(b:Bool):AV:=bif ok then .tup [v,.lit (.bool b)]else v
def UD(tt:TT)(t:TypeId)(x k:AV)(ok:Bool)(h:Heap)(Q:AV->Prop):Prop:=
 match ab3 tt t,k with
 |some (tk,te),.lit key=>bif kE tk.desc key then(match x with
  | .lit (.map none)=>Q (okV ok (atl te.zv) false)
  | .mp i=>match h.get i with
   |some (.map es _)=>afC key es 0 fun
    |none=>Q (okV ok (atl te.zv) false)
    |some (_,v)=>Q (okV ok v true)
   |some (.nK m)=>bif DV tk.desc then(match key with
    | .string s=>alG m s (λj=>Q (okV ok (.agg ((m.g j).val.map .lit)) true)) (Q (okV ok (atl te.zv) false))
    |_=>False)else False
   |_=>False
  |_=>False)else False
 |_,_=>False
theorem DX{ρ:Ren}{ok b:Bool}{v:AV}{u:Value}(h:bF ρ v u):bF ρ (okV ok v b) (if ok then .tuple #[u,.bool b]else u):=by
 cases ok with
 |false=>exact h
 |true=>
  simp only[okV,aP,if_true,bF];exact⟨_,rfl,.cons h (.cons (by simp only[bF]) .nil)⟩
theorem ab4{P:Program}{tt:TT}(hT:tt.ok P){h:Heap}{ρ:Ren}{T:Nat->Prop}{w:World}(hR:Rel h ρ T w){t:TypeId}{x k:AV}{ok:Bool}{ux uk:Value}{Q:AV->Prop}(hq:UD tt t x k ok h Q)
  (hx:bF ρ x ux) (hk:bF ρ k uk): ∃v,ROk P (Instr.lookup t ux uk ok) ρ w v/\Q v:=by
 unfold UD at hq;split at hq
 ·rename_i tk te key hty
  obtain⟨kt,et,d,h1,h2,h3,h4⟩:=C9 hT hty;simp only[bF]at hk;subst hk;cases hkf:kE tk.desc uk with
  |false=>rw[hkf]at hq;exact hq.elim
  |true=>
   rw[hkf]at hq;simp only[aP]at hq;have hck:=λb=>MapKept.run_checkKey (w:=w) h2 (lT h3 hkf) b 9999
   have hz:=ae0 (P:=P) hT h4 w;split at hq
   ·simp only[bF]at hx;subst hx
    have hf:Instr.findNow d uk [] 0=some none:=rfl;refine⟨_,⟨_,?_,DX (JQ ρ te.zv)⟩,hq⟩;simp[Instr.lookup,jA h1,hck,MapKept.run_findKey h2 hf,hz]
   ·rename_i i
    simp only[bF]at hx;obtain⟨a0,ha0,rfl⟩:=hx;split at hq
    ·rename_i es clk hi
     obtain⟨a,arr,ha,hb,hmr,hTa⟩:=hR.afE hi;obtain rfl:a=a0:=Option.some.inj (ha.symm.trans ha0);rcases JR h3 hkf hmr hq with ⟨q1,q2⟩|⟨j,v',u,e,q1,q2,q3,q4,q5⟩
     ·refine⟨_,⟨_,?_,DX (JQ ρ te.zv)⟩,q2⟩
      simp[Instr.lookup,jA h1,MapKept.run_getObj_map hb,hck,MapKept.run_findKey h2 q1,hz]
     ·refine⟨_,⟨_,?_,DX q2⟩,q3⟩
      simp[Instr.lookup,jA h1,MapKept.run_getObj_map hb,hck,MapKept.run_findKey h2 q1]
    ·rename_i m hi
     cases hsd:DV tk.desc with
     |false=>rw[hsd]at hq;exact hq.elim
     |true=>
      rw[hsd]at hq;simp only[aP]at hq;have hd0:d= .string:=fJ (h3.trans (DW hsd));split at hq
      ·rename_i s
       obtain⟨a,arr,ha,hb,hmr,hTa⟩:=hR.DU hi;obtain rfl:a=a0:=Option.some.inj (ha.symm.trans ha0);rcases JU hmr hd0 hq with ⟨q1,q2⟩|⟨j,hj,he,q1,q2⟩
       ·refine⟨_,⟨_,?_,DX (JQ ρ te.zv)⟩,q2⟩
        simp[Instr.lookup,jA h1,MapKept.run_getObj_map hb,hck,MapKept.run_findKey h2 q1,hz]
       ·refine⟨_,⟨_,?_,DX (u:= .agg (m.g j).val.toArray) (by simp only[bF];exact⟨_,rfl,dQ.lits _⟩)⟩,q2⟩
        simp[Instr.lookup,jA h1,MapKept.run_getObj_map hb,hck,MapKept.run_findKey h2 q1]
      ·exact hq.elim
    ·exact hq.elim
   ·exact hq.elim
 ·exact hq.elim
def UE(tt:TT)(t:TypeId)(m k:AV)(h:Heap)(Q:Heap->Prop):Prop:=
 match ab3 tt t,m,k with
 |some (tk,_),.mp i,.lit (.string s)=>match h.get i with
  |some (.nK m)=>bif DV tk.desc then alG m s (λj=>Q (h.set i (.nK (m.del j)))) (Q h)else False
  |_=>False
 |_,_,_=>False
theorem ab5{P:Program}{tt:TT}(hT:tt.ok P){h:Heap}{ρ:Ren}{T:Nat->Prop}{w:World}(hR:Rel h ρ T w){t ty:TypeId}{m k:AV}{um uk:Value}{ts:Array TypeId}{us:Array Value}{Q:Heap->Prop}(hq:UE tt t m k h Q)
  (hm:bF ρ m um) (hk:bF ρ k uk) (ht0:ts[0]? =some t) (hu0:us[0]? =some um) (hu1:us[1]? =some uk): ∃w' h',(Builtin.delete_ ts ty us).run P w= .ok (.tuple #[]) w'/\Rel h' ρ T w'/\h'.next=h.next/\Keeps T w w'/\Q h':=by
 unfold UE at hq;split at hq
 ·rename_i tk te i s hty
  obtain⟨kt,et,d,h1,h2,h3,h4⟩:=C9 hT hty;simp only[bF]at hk;subst hk;simp only[bF]at hm;obtain⟨a0,ha0,rfl⟩:=hm;split at hq
  ·rename_i m hi
   cases hsd:DV tk.desc with
   |false=>rw[hsd]at hq;exact hq.elim
   |true=>
    rw[hsd]at hq;simp only[aP]at hq;have hsd:=DW hsd;have hd0:d= .string:=fJ (h3.trans hsd);have hkf:kE tk.desc (.string s)=true:=by rw[hsd];rfl
    obtain⟨a,arr,ha,hb,hmr,hTa⟩:=hR.DU hi;obtain rfl:a=a0:=Option.some.inj (ha.symm.trans ha0);have hck:=λb=>MapKept.run_checkKey (w:=w) h2 (lT h3 hkf) b 9999
    have same:w.heap.setIfInBounds a.blk (.map arr m.clk)=w.heap:=by
     apply Array.ext_getElem?;intro q;rw[Array.getElem?_setIfInBounds];split
     ·rename_i he;subst he
      rw[hb,if_pos (Array.getElem?_eq_some_iff.1 hb).1]
     ·rfl
    rcases JU hmr hd0 hq with ⟨q1,q2⟩|⟨j,hj,he,q1,q2⟩
    ·refine⟨w,h,?_,hR,rfl,Keeps.refl _ _,q2⟩
     simp[Builtin.delete_,ht0,hu0,hu1,jA h1,MapKept.run_getObj_map hb,hck,MapKept.run_findKey h2 q1,MapKept.run_setObj_map _ hb,same]
    ·obtain⟨r1,r2⟩:=hR.Uy hi ha hb hTa (hmr.del hj)
     refine⟨_,_,?_,r1,by simp,r2,q2⟩;simp[Builtin.delete_,ht0,hu0,hu1,jA h1,MapKept.run_getObj_map hb,hck,MapKept.run_findKey h2 q1,MapKept.run_setObj_map _ hb,MS.del]
  ·exact hq.elim
 ·exact hq.elim
def aqD(tt:TT)(t:TypeId)(x:AV)(h:Heap):Option AV:=match ab3 tt t,x with
 |some _,.mp i=>match h.get i with
  |some (.nK m)=>some (.lit (.int .i64 m.n))
  |_=>none
 |_,_=>none
theorem alH{P:Program}{tt:TT}(hT:tt.ok P){h:Heap}{ρ:Ren}{T:Nat->Prop}{w:World}(hR:Rel h ρ T w){t ty:TypeId}{x r:AV}{u:Value}{ts:Array TypeId}{us:Array Value}(hq:aqD tt t x h=some r)(hu:bF ρ x u)(ht0:ts[0]? =some t)(hu0:us[0]? =some u):
  ROk P (Builtin.len_ ts ty us) ρ w r:=by
 unfold aqD at hq;split at hq
 ·rename_i tt' i hty
  obtain⟨tk,te⟩:=tt';obtain⟨kt,et,d,h1,_⟩:=C9 hT hty;split at hq
  ·rename_i m hi
   cases hq;simp only[bF]at hu;obtain⟨a0,ha0,rfl⟩:=hu;obtain⟨a,arr,ha,hb,hmr,hTa⟩:=hR.DU hi;obtain rfl:a=a0:=Option.some.inj (ha.symm.trans ha0);refine⟨.int .i64 m.n,?_,by simp only[bF]⟩;simp[Builtin.len_,ht0,hu0,jA h1,MapKept.run_getObj_map hb,goInt,hmr.1]
  ·cases hq
 ·cases hq
end Go.Proofs.YtenfleoejgjklaaGreat.SE
end
