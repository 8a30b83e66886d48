import Derived.Test.YtenfleoejgjklaaGreatKa
import Derived.Test.YtenfleoejgjklaaGreatKb
import Derived.Test.YtenfleoejgjklaaGreatKc
import Derived.Laws.LoneSync
import Derived.Laws.IdiomCopy
import Derived.Lib.Bytealg
import Derived.Lib.Overlaps
set_option linter.unusedVariables false
set_option linter.unusedSimpArgs false
set_option linter.unnecessarySimpa false
section
namespace Go.Proofs.YtenfleoejgjklaaGreat.SE
open Go
set_option maxRecDepth 4000
theorem Rel.block{h:Heap}{ρ:Ren}{T:Nat->Prop}{w:World}(hR:Rel h ρ T w){i:Nat}{ob:dF}{c:Cs}{a:Loc}(hi:h.get i=some ob)(hc:ob.eP=some c)(ha:ρ i=some a):
  c.size=0\/ ∃arr e f,w.heap[a.blk]? =some (.cells arr e f)/\fF ρ c arr a.base:=by
 obtain⟨S,h1,_⟩:=hR;obtain⟨a',ha',ho⟩:=h1 i ob hi;obtain rfl:a'=a:=Option.some.inj (ha'.symm.trans ha);cases ob<;>simp[dF.eP]at hc
 case cells e c'=>
  subst hc;obtain⟨h0,hS,arr,hb,hsz,_,hcr⟩:=ho;exact .inr ⟨arr,e,_,hb,by rw[h0];exact hcr⟩
 case room e c'=>
  subst hc;obtain⟨h0,hS,arr,hb,hsz,_,hcr⟩:=ho;exact .inr ⟨arr,e,_,hb,by rw[h0];exact hcr⟩
 case iC z e c'=>
  subst hc;rcases ho with ⟨_,h0⟩|⟨_,h0,hS,arr,hb,hsz,_,hcr⟩
  ·exact .inl h0
  ·exact .inr ⟨arr,e,_,hb,by rw[h0];exact hcr⟩
 case ro c'=>
  subst hc;rcases ho with h0|⟨hT,arr,e,f,hb,hcr⟩
  ·exact .inl h0
  ·exact .inr ⟨arr,e,f,hb,hcr⟩
theorem fF.seg{ρ:Ren}{c d:Cs}{o m b:Nat}{arr:Array Value}(hs:Cs.Seg c o m d)(h:fF ρ c arr b):fF ρ d arr (b+o):=λk v hk=>by
 have hkm:k<m:=by rw[<-hs.1];exact Cs.dW hk
 rw[Nat.add_assoc];exact h _ _ (by rw[<-(hs.2 k hkm).1];exact hk)
def ZO(w:World)(m:Nat)(new:dJ)(v:Value):Prop:=
 ∃a:Loc,(∀(ρ:Ren) i,ρ i=some a->bF ρ (.slR i 0 m new.len) v)/\(new.len*m=0\/ ∃arr e f,w.heap[a.blk]? =some (.cells arr e f)/\ ∀ρ,fF ρ (.row m new.len new.el []) arr a.base)
theorem al0{ρ ρ':Ren}{m n:Nat}{g:Nat->List Value}{wr:List (Nat×List Value)}{arr:Array Value}{b:Nat}(h:fF ρ (.row m n g wr) arr b):fF ρ' (.row m n g wr) arr b:=λk v hk=>by
 obtain⟨u,hu,hr⟩:=h k v hk;refine⟨u,hu,?_⟩;simp only[Cs.get]at hk;cases hb:Nat.blt k (n*m)with
 |false=>rw[hb]at hk;simp at hk
 |true=>
  rw[hb]at hk;simp only[aP]at hk;split at hk
  ·cases hk;simpa only[bF]using hr
  ·cases hk;simp only[bF]
theorem yu{h:Heap}{ρ:Ren}{T:Nat->Prop}{w:World}{j q m n c p:Nat}{a:Loc}{ob:dF}{N:Nat}{g:Nat->List Value}{wr:List (Nat×List Value)}(hR:Rel h ρ T w)(hm:0<m)(hi:h.get j=some ob)(hc:ob.eP=some (.row m N g wr))(ha:ρ j=some a)
  (hle:q+n<=N) (hnc:n<=c) (hp:n≠0->p=a.base+q*m):ZO w m (.many n (λk=>Cs.eff g wr (q+k))) (.slice (some ⟨a.blk,p,none⟩) n c):=by
 refine⟨⟨a.blk,a.base+q*m,a.lim⟩,λρ0 i h0=> ?_,?_⟩
 ·simp only[bF,dJ.len]
  exact .inr ⟨_,p,c,h0,rfl,hnc,λhn=>by simp only[Nat.zero_mul,aI];exact hp hn⟩
 ·simp only[dJ.len,dJ.el]
  rcases hR.block hi hc ha with h0|⟨arr,e,f,hb,hcr⟩
  ·simp only[Cs.size]at h0
   left;rcases Nat.mul_eq_zero.1 h0 with h1|h1
   ·have:n=0:=by omega
    rw[this,Nat.zero_mul]
   ·rw[h1,Nat.mul_zero]
  ·exact .inr ⟨arr,e,f,hb,λρ'=>al0 (fF.seg (afx (n:=n) hm hle) hcr)⟩
theorem ZP{h:Heap}{ρ:Ren}{T:Nat->Prop}{w:World}{j o m n c:Nat}{a:Loc}{ob:dF}{cc d:Cs}{vs:List Value}(hR:Rel h ρ T w)(hm:0<m)(hi:h.get j=some ob)(hc:ob.eP=some cc)(ha:ρ j=some a)
  (hs:cc.sub o (n*m)=some d) (hd: ∀k,d.get k=(Cs.raw vs).get k) (hnc:n<=c):ZO w m (.few (chunk m n vs)) (.slice (some ⟨a.blk,a.base+o,none⟩) n c):=by
 have e:(dJ.few (chunk m n vs)).len=n:=qX m n vs;have hs2:=Cs.nO hs;refine⟨⟨a.blk,a.base+o,a.lim⟩,λρ0 i h0=> ?_,?_⟩
 ·simp only[bF,e]
  exact .inr ⟨_,_,c,h0,rfl,hnc,λ_=>by simp⟩
 ·rw[e]
  by_cases hz:n*m=0
  ·exact .inl hz
  rcases hR.block hi hc ha with h0|⟨arr,e,f,hb,hcr⟩
  ·have:=hs2.1;omega
  ·refine .inr ⟨arr,e,f,hb,λρ' k y hk=> ?_⟩
   have h3:=fF.seg hs2.2 hcr;have hlt:=Cs.dW hk;simp only[Cs.size]at hlt;simp only[Cs.get,bg.2 hlt,aP,Cs.eff,dJ.el]at hk;have hkn:k/m<n:=Nat.div_lt_of_lt_mul (by rw[Nat.mul_comm];exact hlt);rw[DR m n _ vs hkn,List.getElem?_take,if_pos (Nat.mod_lt _ hm),List.getElem?_drop,Nat.div_add_mod']at hk;obtain⟨_,y0,hy0⟩:=hs2.2.2 k hlt;have hk0:=(hs2.2.2 k hlt).1;split at hk
   ·rename_i x hx
    cases hk;obtain⟨u,hu,hr⟩:=h3 k (.lit x) (by rw[hd];simp only[Cs.get,hx]);exact⟨u,hu,by simpa only[bF]using hr⟩
   ·cases hk
    obtain⟨u,hu,_⟩:=h3 k y0 (by rw[hk0];exact hy0);exact⟨u,hu,by simp only[bF]⟩
def aco(h:Heap)(x:AV)(m:Nat)(Q:dJ->Prop):Prop:=match x with
 | .lit (.slice none 0 c)=>bif Nat.beq c 0 then Q (.few [])else False
 | .lit _=>False
 |x=>bif agr x then vNew h (nrm x) m Q else False
where
 /-- It is no longer than it may be. -/
 agr:AV->Bool
  | .sl _ _ n c=>Nat.ble n c
  |_=>true
theorem al1{h:Heap}{ρ:Ren}{T:Nat->Prop}{w:World}{x:AV}{v:Value}{m:Nat}{Q:dJ->Prop}(hR:Rel h ρ T w)(hm:0<m)(hq:aco h x m Q)(hv:bF ρ x v): ∃new,ZO w m new v/\Q new:=by
 unfold aco at hq;split at hq
 ·rename_i c
  cases hb:Nat.beq c 0 with
  |false=>rw[hb]at hq;exact hq.elim
  |true=>
   rw[hb]at hq;have:=au hb;subst this;simp only[bF]at hv;subst hv;exact⟨.few [],⟨⟨0,0,0⟩,λρ0 i h0=>by simp[bF,dJ.len],.inl (by simp[dJ.len])⟩,hq⟩
 ·exact hq.elim
 rename_i hnl1 ato;cases hcap:aco.agr x with
 |false=>rw[hcap]at hq;exact hq.elim
 |true=>
 rw[hcap]at hq;simp only[aP]at hq;have hcap:aco.agr (nrm x)=true:=by cases x<;>exact hcap
 have hnl1: ∀c,nrm x= .lit (.slice none 0 c)->False:=by cases x<;>first|exact hnl1|(intro c h;cases h)
 have ato: ∀v,nrm x= .lit v->False:=by cases x<;>first|exact ato|(intro c h;cases h)
 have hv:=vP hv;generalize nrm x=x at hq hcap hnl1 ato hv;unfold vNew at hq;split at hq
 ·rename_i j o n c
  simp only[bF]at hv;obtain⟨a,ha,rfl⟩:=hv;have hnc:n<=c:=Nat.le_of_ble_eq_true hcap;cases hb:(Nat.beq o 0&&Nat.beq (GU h j) m)with
  |true=>
   rw[hb]at hq;simp only[aP]at hq;simp only[aJ]at hb;have:=au hb.1;subst this;obtain⟨ob,N,g,wr,hi,hc,hle,hq⟩:=gW hq;exact⟨_,yu hR hm hi hc ha (by omega) hnc (λ_=>by simp),hq⟩
  |false=>
   rw[hb]at hq;simp only[aQ]at hq;split at hq
   ·rename_i ob hi
    split at hq
    ·rename_i c' hc
     split at hq
     ·rename_i l hsub
      split at hq
      ·rename_i vs hvs
       have:=fM hvs;subst this;exact⟨_,ZP hR hm hi hc ha hsub (λk=>by simp only[Cs.get,List.getElem?_map];cases vs[k]? <;>rfl) hnc,hq⟩
      ·exact hq.elim
     ·rename_i vs hsub
      exact⟨_,ZP hR hm hi hc ha hsub (λk=>rfl) hnc,hq⟩
     ·exact hq.elim
    ·exact hq.elim
   ·exact hq.elim
 ·rename_i j q m' n c
  cases hb:Nat.beq m m' with
  |false=>rw[hb]at hq;exact hq.elim
  |true=>
   rw[hb]at hq;simp only[aP]at hq;have:=au hb;subst this;simp only[bF]at hv;obtain⟨a,p,ha,rfl,hnc,hp⟩:=hv;obtain⟨ob,N,g,wr,hi,hc,hle,hq⟩:=gW hq;exact⟨_,yu hR hm hi hc ha hle hnc (λhn=>hp (by omega)),hq⟩
 ·rename_i j q m' n
  cases hb:Nat.beq m m' with
  |false=>rw[hb]at hq;exact hq.elim
  |true=>
   rw[hb]at hq;simp only[aP]at hq;have:=au hb;subst this;simp only[bF]at hv;obtain⟨a,p,c,ha,rfl,hnc,hp⟩:=hv;obtain⟨ob,N,g,wr,hi,hc,hle,hq⟩:=gW hq;exact⟨_,yu hR hm hi hc ha hle hnc (λhn=>(hp (by omega)).1),hq⟩
 ·rename_i j q m' n
  cases hb:Nat.beq m m' with
  |false=>rw[hb]at hq;exact hq.elim
  |true=>
   rw[hb]at hq;simp only[aP]at hq;have:=au hb;subst this;simp only[bF]at hv;obtain⟨ob,N,g,wr,hi,hc,hle,hq⟩:=gW hq;rcases hv with ⟨rfl,rfl⟩|⟨a,p,c,ha,rfl,hnc,hp⟩
   ·exact⟨_,⟨⟨0,0,0⟩,λρ0 i h0=>by simp[bF,dJ.len],.inl (by simp[dJ.len])⟩,hq⟩
   ·exact⟨_,yu hR hm hi hc ha hle hnc hp,hq⟩
 ·exact(ato _ rfl).elim
 ·exact(ato _ rfl).elim
 ·exact(ato _ rfl).elim
 ·exact hq.elim
theorem Rel.fresh{h:Heap}{ρ:Ren}{T:Nat->Prop}{w w':World}(hR:Rel h ρ T w)(hk:Keeps (λb=>w.heap.size<=b) w w'):Rel h ρ T w'/\Keeps T w w':=by
 obtain⟨S,h1,h2,h3,h4,h5⟩:=hR;have hsame: ∀b,b<w.heap.size->w'.heap[b]? =w.heap[b]? :=λb hb=>hk.block b (by omega)
 refine⟨⟨S,λi o hi=> ?_,h2,λi o b hi hs=>⟨(h3 i o b hi hs).1,Nat.lt_of_lt_of_le (h3 i o b hi hs).2 hk.size⟩,h4,λb hb=>h5 b (Nat.le_trans hk.size hb)⟩,⟨hk.size,hk.os,hk.tape,hk.output,λb hb=>hsame b (by
  rcases Nat.lt_or_ge b w.heap.size with h|h
  ·exact h
  ·exact(hb (h5 b h)).elim)⟩⟩
 obtain⟨a,ha,ho⟩:=h1 i o hi;refine⟨a,ha,ho.stays λb hb=>hsame b ?_⟩;rcases hb with hb|hb
 ·exact(h3 i o b hi hb).2
 ·rcases Nat.lt_or_ge b w.heap.size with h|h
  ·exact h
  ·exact(hb (h5 b h)).elim
theorem aqU{P:Program}{f:FuncId}{args GY:List AV}{h:Heap}(m:Nat)(os:List dF){r:AV}{K0:AV->Heap->Prop}(hs:Sp P f GY (hO m os) K0)(hK: ∀v h',K0 v h'->v=r)(hm:os.length=m)(hr: ∀ρ ρ' u,bF ρ r u->bF ρ' r u)
  (hview: ∀ρ T w vs,Rel h ρ T w->dQ ρ args vs-> ∃as,xK w (λb=>w.heap.size<=b) (GR as) os as/\dQ (GR as) GY vs):Sp P f args h (λv h'=>v=r/\h'=h):=by
 subst hm;refine⟨hs.1,λρ T w vs hR hl=> ?_⟩;obtain⟨as,hh,hl0⟩:=hview ρ T w vs.toList hR hl;obtain⟨g1,g2⟩:=hh.get;have hR0:Rel (hOf os) (GR as) (λb=>w.heap.size<=b) w:=by
  refine⟨λ_ _=>False,λi o hi=> ?_,λ_ _ _ _ _ _ _ _ h=>h.elim,λ_ _ _ _ h=>h.elim,λi hi=> ?_,λ_ h=>h⟩
  ·rw[dX]at hi
   exact g2 i o hi
  ·rw[nR]at hi
   simp only[GR];rw[List.getElem?_eq_none];omega
 refine(hs.2 _ _ w vs hR0 hl0).mono ?_
 rintro e w' ⟨ρ',v,u,h',_,_,_,hu,rfl,hk,hKv⟩
 have:=hK _ _ hKv;subst this;obtain⟨a1,a2⟩:=hR.fresh hk;exact⟨ρ,v,u,h,λ_ _=>rfl,aY _,a1,hr _ _ _ hu,rfl,a2,rfl,rfl⟩
def kK:AV->Bool
 | .lit _=>true
 | .agg l=>l.all isLit
 | .tup l=>l.all isLit
 |_=>false
where isLit:AV->Bool
 | .lit _=>true
 |_=>false
theorem Em{ρ ρ':Ren}: ∀{l:List AV} {us:List Value},l.all kK.isLit=true->dQ ρ l us->dQ ρ' l us
 |[],us,_,h=>by simpa[dQ]using h
 |a::l,us,hl,h=>by
  simp only[List.all_cons,aJ]at hl;simp only[dQ]at h ⊢;obtain⟨v,vs',rfl,h1,h2⟩:=h;refine⟨v,vs',rfl,?_,Em hl.2 h2⟩;cases a<;>simp[kK.isLit]at hl;simpa only[bF]using h1
theorem vT{r:AV}(h:kK r=true)(ρ ρ':Ren)(u:Value)(hu:bF ρ r u):bF ρ' r u:=by
 cases r<;>simp only[kK,Bool.false_eq_true]at h
 ·simpa only[bF]using hu
 ·simp only[bF]at hu ⊢;obtain⟨vs,rfl,hl⟩:=hu;exact⟨vs,rfl,Em h hl⟩
 ·simp only[bF]at hu ⊢;obtain⟨vs,rfl,hl⟩:=hu;exact⟨vs,rfl,Em h hl⟩
theorem acp{w:World}{m:Nat}{new:dJ}{v:Value}(hv:ZO w m new v){n:Nat}{g:Nat->List Value}(hn:new.len=n)(hg: ∀k,k<n->new.el k=g k): ∃a:Loc,(∀(ρ:Ren) i,ρ i=some a->bF ρ (.slR i 0 m n) v)/\ ∀ρ,dI ρ w (λb=>w.heap.size<=b) a (λ_=>False) (.ro (.row m n g [])):=by
 subst hn;obtain⟨a,h1,h2⟩:=hv;refine⟨a,h1,λρ=> ?_⟩;rcases h2 with h2|⟨arr,e,f,hb,hc⟩
 ·exact .inl h2
 ·refine .inr ⟨λhle=> ?_,arr,e,f,hb,λk x hk=> ?_⟩
  ·have:=(Array.getElem?_eq_some_iff.1 hb).1;omega
  ·refine hc ρ k x ?_
   have hlt:=Cs.dW hk;simp only[Cs.size]at hlt;rw[<-hk];simp only[Cs.get,bg.2 hlt,aP,Cs.eff,hg _ (Nat.div_lt_of_lt_mul (by rw[Nat.mul_comm];exact hlt))]
theorem IG{ρ ρ':Ren}: ∀{l:List AV} {us:List Value},l.all kK=true->dQ ρ l us->dQ ρ' l us
 |[],us,_,h=>by simpa[dQ]using h
 |a::l,us,hl,h=>by
  simp only[List.all_cons,aJ]at hl;simp only[dQ]at h ⊢;obtain⟨v,vs',rfl,h1,h2⟩:=h;exact⟨v,vs',rfl,vT hl.1 _ _ _ h1,IG hl.2 h2⟩
theorem ZQ{P:Program}{f:FuncId}{args:List AV}(h:Heap){r:AV}{K0:AV->Heap->Prop}(hs:Sp P f args (hO 0 []) K0)(hK: ∀v h',K0 v h'->v=r)(ha:args.all kK=true)(hr:kK r=true):Sp P f args h (λv h'=>v=r/\h'=h):=
 aqU 0 [] hs hK rfl (vT hr) λ_ _ _ _ _ hl=>⟨[],trivial,IG ha hl⟩
theorem al2{P:Program}{f:FuncId}{x:AV}{h:Heap}{m:Nat}{new:dJ->Prop}{K:AV->Heap->Prop}(hc:lN P f)(hm:0<m)(hq:aco h x m new)
  (hs: ∀e,new e-> ∃n g r,e.len=n/\(∀k,k<n->e.el k=g k)/\kK r=true/\K r h/\Sp P f [.slR 0 0 m n] (hO 1 [.ro (.row m n g [])]) (λv _=>v=r)):Sp P f [x] h K:=by
 refine⟨hc,λρ T w vs hR hl=> ?_⟩;simp only[dQ]at hl;obtain⟨v,vs',hvs,hv,rfl⟩:=hl;obtain⟨e,hva,he⟩:=al1 hR hm hq hv;obtain⟨n,g,r,hn,hg,hr,hK,hsp⟩:=hs e he;obtain⟨a,ha1,ha2⟩:=acp hva hn hg;have hR0:Rel (hOf [.ro (.row m n g [])]) (GR [a]) (λb=>w.heap.size<=b) w:=by
  refine⟨λ_ _=>False,λi o hi=> ?_,λ_ _ _ _ _ _ _ _ h=>h.elim,λ_ _ _ _ h=>h.elim,λi hi=> ?_,λ_ h=>h⟩
  ·rw[dX]at hi
   cases i with
   |zero=>simp at hi;subst hi;exact⟨a,rfl,ha2 _⟩
   |succ i=>simp at hi
  ·rw[nR]at hi
   simp only[GR];rw[List.getElem?_eq_none];simpa using hi
 refine(hsp.2 _ _ w vs hR0 (by rw[hvs];simp only[dQ];exact⟨v,[],rfl,ha1 _ 0 rfl,rfl⟩)).mono ?_
 rintro e' w' ⟨ρ',v',u,h',_,_,_,hu,rfl,hk,hKv⟩
 subst hKv;obtain⟨a1,a2⟩:=hR.fresh hk;exact⟨ρ,v',u,h,λ_ _=>rfl,aY _,a1,vT hr _ _ _ hu,rfl,a2,hK⟩
end Go.Proofs.YtenfleoejgjklaaGreat.SE
end
section
namespace Go.Proofs.YtenfleoejgjklaaGreat.SE
open Go
open Go.ChangeShapes Go.WideShapes Go.ChangeAt Go.RowKit
theorem open_row{H:Type}{enc:TypeId×Value->H}{P:Program}{W:World}{T:Nat->Prop}{t e:TypeId}{v:Value}{d:DataW H}{ps:List MemPlace}{α:Type}{f:α->List Value}{m:Nat}(a0:α)(ok:α->Prop)(hf: ∀a,(f a).length=m)(hm:0<m)
  (ht:P.underlying t=some (.slice e)) (hc:P.cellsOf e=m) (hok:Value.okWide P W .any 0 t v) (h:DataW.Trod enc P W 0 (λ_=>true) true t v d ps) (hT: ∀b,b<W.heap.size-> ¬T b)
  (hel: ∀fuel cs y,DataW.trod enc P W 0 (λ_=>true) true fuel e cs=some y-> ∃a,ok a/\cs=f a):
  ∃(c:Nat->α) (n:Nat) (a:Loc),n<=maxLen/\(∀k,k<n->ok (c k))/\(∀(ρ:Ren) (i:Nat),ρ i=some a->bF ρ (.slR i 0 m n) v)/\ ∀(ρ:Ren) (S:Nat->Prop),dI ρ W T a S (.ro (.row m n (λk=>f (c k)) [])):=by
 obtain⟨x,cap,a,h1,h2,h3⟩:=afo ok hf hm ht hc hok h hT hel;cases x with
 |none=>
  refine⟨λ_=>a0,0,a,Nat.zero_le _,λk hk=>by omega,λρ i hi=> ?_,λρ S=> .inl (by simp[Cs.size])⟩;have:=h2 ρ i hi;simp only[argV,bF]at this ⊢;exact .inl ⟨trivial,this⟩
 |some l=>
  obtain⟨g1,g2,g3⟩:=h1 l rfl;refine⟨λk=>l.getD k a0,l.length,a,Nat.le_trans g2 g3,λk hk=>g1 _ (by simp[hk]),λρ i hi=> ?_,λρ S=> ?_⟩
  ·have:=h2 ρ i hi
   simp only[argV,bF]at this ⊢;obtain⟨a',ha',hv⟩:=this;exact .inr ⟨a',_,cap,ha',hv,g2,λ_=>by simp⟩
  ·have:=h3 ρ S
   simp only[argO,dI,Cs.size]at this ⊢;rcases this with h0|⟨hT',arr,e',f',hb,hcr⟩
   ·left;rwa [flat_length hf]at h0
   ·refine .inr ⟨hT',arr,e',f',hb,λk u hk=> ?_⟩
    have hlt:=Cs.dW hk;simp only[Cs.size]at hlt;have hkl:k/m<l.length:=Nat.div_lt_of_lt_mul (by rw[Nat.mul_comm];exact hlt);have hg:l[k/m]? =some (l.getD (k/m) a0):=by simp[hkl]
    have hfl:=flat_get (f:=f) hf l (k/m) (k%m) _ hg (Nat.mod_lt _ hm);rw[Nat.div_add_mod']at hfl;simp only[Cs.get,bg.2 hlt,aP,Cs.eff]at hk;split at hk
    ·rename_i y hy
     cases hk;refine hcr k (.lit y) ?_;simp only[Cs.get,hfl,hy]
    ·rename_i hy
     have:k%m<(f (l.getD (k/m) a0)).length:=by rw[hf];exact Nat.mod_lt _ hm
     rw[List.getElem?_eq_getElem this]at hy;cases hy
end Go.Proofs.YtenfleoejgjklaaGreat.SE
end
section
namespace Go.Proofs.YtenfleoejgjklaaGreat.SE
open Go
def aqV(τ:Nat->Nat)(n:Nat)(o0 o:dF):Prop:=
 (jX o0=false/\Soft τ n o0 o)\/
 ∃c0 c,o0= .ro c0/\o.eP=some c/\(c.size=0->c0.size=0)/\ ∀ρ ρ0 arr b,(∀i,i<n->ρ0 i=ρ (τ i))->fF ρ c arr b->fF ρ0 c0 arr b
theorem Rel.part2{h h0:Heap}{ρ:Ren}{T:Nat->Prop}{w:World}{S:Nat->Nat->Prop}{τ:Nat->Nat}
  (h1: ∀i o,h.get i=some o-> ∃a,ρ i=some a/\dI ρ w T a (S i) o)
  (h2: ∀i j o o' b,h.get i=some o->h.get j=some o'->i≠j->S i b->S j b->False)
  (h3: ∀i o b,h.get i=some o->S i b->T b/\b<w.heap.size)
  (hinj: ∀i j,i<h0.next->j<h0.next->τ i=τ j->i=j)
  (hfit: ∀i o0,h0.get i=some o0->i<h0.next/\ ∃o,h.get (τ i)=some o/\aqV τ h0.next o0 o):
  apb h0 (λi=>if i<h0.next then ρ (τ i)else none) (λb=> ∃i o0,h0.get i=some o0/\jX o0=false/\S (τ i) b) w:=by
 have hρ: ∀i,i<h0.next->(λi=>if i<h0.next then ρ (τ i)else none) i=ρ (τ i):=λi hi=>by simp[hi]
 refine⟨λi b=>(∃o0,h0.get i=some o0/\jX o0=false)/\S (τ i) b,λi o0 hi=> ?_,λi j o o' b hi hj hij hSi hSj=> ?_,λi o0 b hi hS=> ?_,λi hi=>by simp;omega⟩
 ·obtain⟨hlt,o,ho,hf⟩:=hfit i o0 hi
  obtain⟨a,ha,hh⟩:=h1 _ o ho;refine⟨a,by rw[hρ i hlt];exact ha,?_⟩;rcases hf with ⟨hro,JJ⟩|⟨c0,c,rfl,hx,hz,hcc⟩
  ·have:=JJ ρ _ w T a (S (τ i)) hρ hh
   have he:(λb=>(∃o0,h0.get i=some o0/\jX o0=false)/\S (τ i) b)=S (τ i):=by
    funext b;simp only[hi,ak,aC,hro,aU]
   show dI _ w _ a (λb=>(∃o0,h0.get i=some o0/\jX o0=false)/\S (τ i) b) o0;rw[he];exact this.JI hro
  ·have alx:(jX o=false->S (τ i) a.blk)-> ∀b,(b=a.blk)->(∀(x:dF),h.get (τ i)=some x->jX x=true-> ¬T b)-> ¬ ∃j o1,h0.get j=some o1/\jX o1=false/\S (τ j) b:=by
    intro hSi0 b hb hT ⟨j,o1,hj,hro1,hSj⟩;obtain⟨hjlt,oj,hoj,hfj⟩:=hfit j o1 hj;by_cases hij:j=i
    ·subst hij
     rw[hi]at hj;cases hj;simp[jX]at hro1
    ·have hne:τ j≠τ i:=λh'=>hij (hinj j i hjlt hlt h')
     subst hb;cases atQ:jX o with
     |true=>exact hT o ho atQ (h3 _ oj _ hoj hSj).1
     |false=>
      have hSi:S (τ i) a.blk:=hSi0 atQ;exact h2 _ _ _ _ _ hoj ho hne hSj hSi
   cases o with
   |cells e y=>
    simp only[dF.eP,ak]at hx;subst hx;obtain⟨g0,gS,arr,g1,g2,g3,g4⟩:=hh;refine .inr ⟨alx (λ_=>gS) _ rfl (λz hz hz'=> ?_),arr,e,(0,0),g1,?_⟩
    ·rw[ho]at hz;cases hz;simp[jX]at hz'
    ·rw[g0];exact hcc ρ _ arr 0 hρ g4
   |room e y=>
    simp only[dF.eP,ak]at hx;subst hx;obtain⟨g0,gS,arr,g1,g2,g3,g4⟩:=hh;refine .inr ⟨alx (λ_=>gS) _ rfl (λz hz hz'=> ?_),arr,e,(0,0),g1,?_⟩
    ·rw[ho]at hz;cases hz;simp[jX]at hz'
    ·rw[g0];exact hcc ρ _ arr 0 hρ g4
   |iC z e y=>
    simp only[dF.eP,ak]at hx;subst hx;rcases hh with ⟨_,h0⟩|⟨_,g0,gS,arr,g1,g2,g3,g4⟩
    ·exact .inl (hz h0)
    ·refine .inr ⟨alx (λ_=>gS) _ rfl (λz hz hz'=> ?_),arr,e,(0,0),g1,?_⟩
     ·rw[ho]at hz;cases hz;simp[jX]at hz'
     ·rw[g0];exact hcc ρ _ arr 0 hρ g4
   |nK m=>simp[dF.eP]at hx
   |ro y=>
    simp only[dF.eP,ak]at hx;subst hx;rcases hh with h0|⟨gT,arr,e,f,g1,g2⟩
    ·exact .inl (hz h0)
    ·exact .inr ⟨alx (λh=>by simp[jX]at h) _ rfl (λz hz hz'=>gT),arr,e,f,g1,hcc ρ _ arr _ hρ g2⟩
   |map es q=>simp[dF.eP]at hx
   |abs A=>simp[dF.eP]at hx
   |iter m since seen st=>simp[dF.eP]at hx
 ·exact h2 (τ i) (τ j) (Classical.choose (hfit i o hi).2) (Classical.choose (hfit j o' hj).2) b (Classical.choose_spec (hfit i o hi).2).1 (Classical.choose_spec (hfit j o' hj).2).1
   (λh'=>hij (hinj i j (hfit i o hi).1 (hfit j o' hj).1 h')) hSi.2 hSj.2
 ·obtain⟨hlt,x,hx,_⟩:=hfit i o0 hi
  exact⟨⟨i,o0,hi,by obtain⟨y,hy,hr⟩:=hS.1;rw[hi]at hy;cases hy;exact hr,hS.2⟩,(h3 _ x b hx hS.2).2⟩
theorem Sp.aui{P:Program}{f:FuncId}{GY args:List AV}{h0 h:Heap}{K0:AV->Heap->Prop}(τ:Nat->Nat)(hs:Sp P f GY h0 K0)
  (hfit: ∀i o0,h0.get i=some o0->i<h0.next/\ ∃o,h.get (τ i)=some o/\aqV τ h0.next o0 o)
  (hinj: ∀i j,i<h0.next->j<h0.next->τ i=τ j->i=j) (hτ: ∀i,i<h0.next->τ i<h.next)
  (hargs: ∀ρ ρ0 u,(∀i,i<h0.next->ρ0 i=ρ (τ i))->dQ ρ args u->dQ ρ0 GY u):
  Sp P f args h (λv h'=> ∃v0 h0',K0 v0 h0'/\v=jd (lay τ h0.next h.next) v0/\h'=Ic τ h0 h h0'):=by
 refine⟨hs.1,λρ T w vs hR hl=> ?_⟩;obtain⟨S,h1,h2,h3,h4,h5⟩:=hR;have hpart:=Rel.part2 (h0:=h0) (τ:=τ) h1 h2 h3 hinj hfit;let ρ0:Ren:=λi=>if i<h0.next then ρ (τ i)else none
 let T0:Nat->Prop:=λb=> ∃i o0,h0.get i=some o0/\jX o0=false/\S (τ i) b
 have hρ0: ∀i,i<h0.next->ρ0 i=ρ (τ i):=λi hi=>by simp[ρ0,hi]
 have hR0:Rel h0 ρ0 (λb=>T0 b\/w.heap.size<=b) w:=by
  obtain⟨S0,r1,r2,r3,r4⟩:=hpart;refine⟨S0,λi o hi=> ?_,r2,λi o b hi hS=>⟨.inl (r3 i o b hi hS).1,(r3 i o b hi hS).2⟩,r4,λb hb=> .inr hb⟩;obtain⟨a,ha,hh⟩:=r1 i o hi;refine⟨a,ha,?_⟩;cases hr:jX o with
  |false=>exact hh.JI hr
  |true=>
   cases o<;>simp[jX]at hr;rcases hh with h0|⟨hT,arr,e,f,g1,g2⟩
   ·exact .inl h0
   refine .inr ⟨λhT'=> ?_,arr,e,f,g1,g2⟩;rcases hT' with hT'|hT'
   ·exact hT hT'
   ·have:a.blk<w.heap.size:=(Array.getElem?_eq_some_iff.1 g1).1
    omega
 have hl0:dQ ρ0 GY vs.toList:=hargs ρ ρ0 _ hρ0 hl;refine(hs.2 ρ0 _ w vs hR0 hl0).mono ?_
 rintro e w' ⟨ρ0',v0,u,h0',q1,q2,q3,q4,rfl,q5,q6⟩
 have hT0': ∀b,T0 b-> ∃i o,i<h0.next/\gives h0 i=true/\h.get (τ i)=some o/\S (τ i) b:=by
  rintro b ⟨i,o0,hi,hr,hS⟩
  obtain⟨hlt,o,ho,_⟩:=hfit i o0 hi;exact⟨i,o,hlt,by simp[gives,hi,hr],ho,hS⟩
 have hlow: ∀j o,h.get j=some o->j<h.next:=λj o hj=>by
  obtain⟨a,ha,_⟩:=h1 j o hj;rcases Nat.lt_or_ge j h.next with h'|h'
  ·exact h'
  ·rw[h4 j h']at ha;cases ha
 obtain⟨ρ',b1,b2,b3,b4,b5⟩:=Rel.back (h':=Ic τ h0 h h0') (own:=λi=>gives h0 i=true) (τ:=τ) (k0:=h0.next) (ρ0':=ρ0') (h0':=atV h0') (T0:=T0) h1 h2 h3 h4 h5 hT0' hτ q5
  (λi hi=>(q1 i hi).trans (hρ0 i hi)) q2 (q3.aqw.less rfl λi o hi=>(Zv hi).1)
  (λi o0 hi hr=>by rw[(Zv hi).2]at hr;cases hr) (by rw[DI];rfl)
  (λj o hj=>by
   rw[DI]at hj;have hj':(Ib (lay τ h0.next h.next) (λi=>Nat.blt i h0.next&& !gives h0 i) h0' (List.range h0'.next) h.m).get j=some o:=hj;rcases Ie _ _ h0' _ _ j o hj' with ⟨hm,hne⟩|⟨i,o0,hi,hsk,ho0,hr,rfl,rfl⟩
   ·refine .inl ⟨hlow j o hm,hm,λi hik hgv=> ?_⟩
    have hi:i∈List.range h0'.next:=List.mem_range.2 (Nat.lt_of_lt_of_le hik q2);have:=hne i hi (by simp[hgv]);simpa[lay,hik]using this
   ·refine .inr ⟨i,o0,aqx ho0 hr,?_,rfl,rfl⟩
    simp only[Bool.and_eq_false_iff,Bool.not_eq_false']at hsk;rcases hsk with h'|h'
    ·refine .inl ?_
     rcases Nat.lt_or_ge i h0.next with hlt|hge
     ·rw[bg.2 hlt]at h';cases h'
     ·exact hge
    ·exact .inr h') hinj
 exact⟨ρ',jd (lay τ h0.next h.next) v0,u,Ic τ h0 h h0',b2,by rw[DI];simp,b4,bF.jd b3 _ _ q4,rfl,b5,v0,h0',q6,rfl,rfl⟩
def eqF(τ:Tau)(o0:dF)(x:Option dF):Prop:=match o0 with
 | .ro c0=>match x with
  |some o=>match o.eP with
   |some c=>eqC τ c0 c
   |none=>False
  |none=>False
 |o0=>eqO τ o0 x
def eqFs(τ:Tau)(h:Heap):Nat->List dF->Prop
 |_,[]=>True
 |i,o::r=>eqF τ o (h.get (tau τ i))/\eqFs τ h (i+1) r
def matF(h:Heap):Nat->List dF->Tau->Tau
 |_,[],τ=>τ
 |i,o::r,τ=>matF h (i+1) r (match o,h.get (tau τ i)with
  | .cells _ c,some (.cells _ d)=>matC c d τ
  | .ro (.av l),some x=>(match x.eP with
   |some (.av m)=>aci l m τ
   |_=>τ)
  |_,_=>τ)
def PU(k n:Nat)(τ:Tau):Bool:=go ((List.range k).map (tau τ))
where
 go:List Nat->Bool
  |[]=>true
  |x::l=>Nat.blt x n&&l.all (λy=> !Nat.beq x y)&&go l
theorem U1{k n:Nat}{τ:Tau}(h:PU k n τ=true):(∀i,i<k->tau τ i<n)/\ ∀i j,i<k->j<k->tau τ i=tau τ j->i=j:=by
 have key: ∀l:List Nat,PU.go n l=true->(∀x∈l,x<n)/\ ∀(i j a b:Nat),l[i]? =some a->l[j]? =some b->a=b->i=j:=by
  intro l
  induction l with
  |nil=>intro _;exact⟨λx hx=>(nomatch hx),λi j a b ha=>by simp at ha⟩
  |cons x l ih=>
   intro hh;simp only[PU.go,aJ,List.all_eq_true,Bool.not_eq_true']at hh;obtain⟨⟨h1,h2⟩,h3⟩:=hh;obtain⟨i1,i2⟩:=ih h3;have ne: ∀(j:Nat) (b:Nat),l[j]? =some b->x≠b:=λj b hb he=>by
    have:=h2 b (List.mem_of_getElem? hb);rw[he,Nat.beq_refl]at this;cases this
   refine⟨λy hy=> ?_,λi j a b ha hb hab=> ?_⟩
   ·rcases List.mem_cons.1 hy with rfl|hy
    ·exact bg.1 h1
    ·exact i1 y hy
   ·cases i with
    |zero=>
     cases j with
     |zero=>rfl
     |succ j=>simp at ha hb;subst ha;exact(ne j b hb hab).elim
    |succ i=>
     cases j with
     |zero=>simp at ha hb;subst hb;exact(ne i a ha hab.symm).elim
     |succ j=>simp at ha hb;rw[i2 i j a b ha hb hab]
 obtain⟨h1,h2⟩:=key _ h;have at_: ∀i,i<k->((List.range k).map (tau τ))[i]? =some (tau τ i):=λi hi=>by simp[hi]
 exact⟨λi hi=>h1 _ (List.mem_of_getElem? (at_ i hi)),λi j hi hj he=>h2 i j _ _ (at_ i hi) (at_ j hj) he⟩
def obsB(k:Nat)(os:List dF):Bool:=os.all λo=>oW k o
def ags(k:Nat)(GY:List AV)(os:List dF)(args:List AV)(h:Heap)(Q:Tau->Prop):Prop:=go (matF h 0 os (aci GY args []))
where
 go (τ:Tau):Prop:=bif PU k h.next τ&&gU k GY&&obsB k os then(eqL τ GY args/\eqFs τ h 0 os/\Q τ)else False
theorem acr{ρ:Ren}{c:Cs}{arr:Array Value}{b:Nat}(hk: ∀k,k<c.size-> ∃v,c.get k=some v)(h0:0<c.size)(hc:fF ρ c arr b):b+c.size<=arr.size:=by
 obtain⟨v,hv⟩:=hk (c.size-1) (by omega);obtain⟨u,hu,_⟩:=hc _ _ hv;have:=(Array.getElem?_eq_some_iff.1 hu).1;omega
theorem agt{τ:Tau}{ρ ρ0:Ren}{N:Nat}(hρ: ∀i,i<N->ρ0 i=ρ (tau τ i)){c d:Cs}(hn:jQ N c=true)(h:eqC τ c d)(hnc: ∀x y,c≠ .cat x y){arr:Array Value}{b:Nat}(hc:fF ρ d arr b):fF ρ0 c arr b:=by
 have hsz:=jT h;rcases Nat.eq_zero_or_pos d.size with h0|h0
 ·intro k v hk
  have:=Cs.dW hk;omega
 ·refine Iy hρ hn h (acr (λk hk=> ?_) h0 hc) hc
  cases d with
  |av l=>exact⟨l[k],List.getElem?_eq_getElem hk⟩
  |raw l=>
   simp only[Cs.size]at hk;exact⟨.lit l[k],by simp only[Cs.get,List.getElem?_eq_getElem hk]⟩
  |tr n z t=>cases c<;>simp[eqC]at h
  |row m n g wr=>exact Pg hk
  |cat x y=>
   cases c with
   |cat x' y'=>exact(hnc _ _ rfl).elim
   |_=>simp[eqC]at h
theorem al3{τ:Tau}{ρ ρ0:Ren}{N:Nat}(hρ: ∀i,i<N->ρ0 i=ρ (tau τ i)): ∀{c d:Cs},jQ N c=true->eqC τ c d-> ∀{arr:Array Value} {b:Nat},fF ρ d arr b->fF ρ0 c arr b:=by
 intro c
 induction c with
 |cat x y ihx ihy=>
  intro d hn h arr b hc;cases d with
  |cat x' y'=>
   simp only[eqC]at h;simp only[jQ,aJ]at hn;rw[xQ]at hc ⊢;have hx:=jT h.1;exact⟨ihx hn.1 h.1 hc.1,by rw[hx];exact ihy hn.2 h.2 hc.2⟩
  |_=>simp[eqC]at h
 |_=>intro d hn h arr b hc;exact agt hρ hn h (λ_ _ hh=>by cases hh) hc
theorem al4{τ:Tau}{N:Nat}{o0:dF}{x:Option dF}(hn:oW N o0=true)(h:eqF τ o0 x): ∃o,x=some o/\aqV (tau τ) N o0 o:=by
 unfold eqF at h;split at h
 ·rename_i c0
  split at h
  ·rename_i o
   split at h
   ·rename_i c hc
    refine⟨o,rfl,.inr ⟨c0,c,rfl,hc,λhz=>by rw[jT h];exact hz,λρ ρ0 arr b hρ hcr=>al3 hρ hn h hcr⟩⟩
   ·exact h.elim
  ·exact h.elim
 ·rename_i hne
  obtain⟨o,ho,hs⟩:=J8 hn h;refine⟨o,ho,.inl ⟨?_,hs⟩⟩;cases hr:jX o0 with
  |false=>rfl
  |true=>
   cases o0<;>simp[jX]at hr;exact(hne _ rfl).elim
structure Out (X:Type) where
 Y:Type
 post:X->Y->Prop
 ret:X->Y->AV
 m:Nat
 os:X->Y->List dF
structure Ctr where
 X:Type
 args:X->List AV
 k:Nat
 os:X->List dF
 pre:X->Prop
 outs:List (Out X)
def kP{X:Type}(x:X)(v:AV)(h':Heap):List (Out X)->Prop
 |[]=>False
 |o::r=>(∃y,o.post x y/\v=o.ret x y/\h'=hO o.m (o.os x y))\/kP x v h' r
def Kr{X:Type}(x:X)(Q:AV->Heap->Prop):List (Out X)->Prop
 |[]=>True
 |[o]=> ∀y,o.post x y->Q (o.ret x y) (hO o.m (o.os x y))
 |o::r=>(∀y,o.post x y->Q (o.ret x y) (hO o.m (o.os x y)))/\Kr x Q r
theorem zB{X:Type}{x:X}{Q:AV->Heap->Prop}{v:AV}{h':Heap}: ∀{l:List (Out X)},Kr x Q l->kP x v h' l->Q v h'
 |[o],ha,hp=>by
  rcases hp with ⟨y,h1,rfl,rfl⟩|hp
  ·exact ha y h1
  ·exact hp.elim
 |o::o2::r,ha,hp=>by
  rcases hp with ⟨y,h1,rfl,rfl⟩|hp
  ·exact ha.1 y h1
  ·exact zB ha.2 hp
def cO(P:Program)(f:FuncId)(C:Ctr):Prop:= ∀x,C.pre x->(C.os x).length=C.k/\Sp P f (C.args x) (hO C.k (C.os x)) (λv h'=>kP x v h' C.outs)
def ctrT(C:Ctr):WTr:=λargs h K=> ∃x,C.pre x/\ags C.k (C.args x) (C.os x) args h λτ=>
 Kr x (λv h'=>K (jd (lay (tau τ) C.k h.next) v) (Ic (tau τ) (hO C.k (C.os x)) h h')) C.outs
theorem jq{n:Nat}{os:List dF}(h:os.length=n)(i:Nat):(hO n os).get i=os[i]? :=by
 subst h;exact dX os i
theorem bP{P:Program}{f:FuncId}{C:Ctr}(hC:cO P f C)(args:List AV)(h:Heap)(K:AV->Heap->Prop)(hq:ctrT C args h K):Sp P f args h K:=by
 obtain⟨x,hp,hq⟩:=hq;obtain⟨hlen,hs⟩:=hC x hp;unfold ags at hq;generalize matF h 0 (C.os x) (aci (C.args x) args [])=τ at hq;unfold ags.go at hq;cases hb:(PU C.k h.next τ&&gU C.k (C.args x)&&obsB C.k (C.os x))with
 |false=>rw[hb]at hq;exact hq.elim
 |true=>
  rw[hb]at hq;simp only[aP]at hq;simp only[aJ]at hb;obtain⟨⟨b1,b2⟩,b3⟩:=hb;obtain⟨q1,q2,q3⟩:=hq;obtain⟨t1,t2⟩:=U1 b1;have hn:(hO C.k (C.os x)).next=C.k:=rfl;have hfs: ∀(os:List dF) (i:Nat),eqFs τ h i os-> ∀j o,os[j]? =some o->eqF τ o (h.get (tau τ (i+j))):=by
   intro os
   induction os with
   |nil=>intro i _ j o hj;simp at hj
   |cons o os ih=>
    intro i he j o' hj;cases j with
    |zero=>simp at hj;subst hj;exact he.1
    |succ j=>simp at hj;have:=ih (i+1) he.2 j o' hj;rwa [show i+1+j=i+(j+1) by omega]at this
  refine(Sp.aui (h:=h) (args:=args) (tau τ) hs (λi o0 hi=> ?_) (λi j hi hj=>t2 i j hi hj) (λi hi=>t1 i hi) (λρ ρ0 u hρ hl=>Iw hρ _ _ _ b2 q1 hl)).mono ?_
  ·rw[jq hlen]at hi
   have hlt:i<C.k:=by rw[<-hlen];exact(List.getElem?_eq_some_iff.1 hi).1
   refine⟨hlt,?_⟩;have he:=hfs _ 0 q2 i o0 hi;rw[aA]at he;obtain⟨o,ho,hf⟩:=al4 (N:=C.k) (List.all_eq_true.1 b3 o0 (List.mem_of_getElem? hi)) he;exact⟨o,ho,hf⟩
  ·rintro v h' ⟨v0,h0',hout,rfl,rfl⟩
   exact zB (Q:=λv h'=>K (jd (lay (tau τ) C.k h.next) v) (Ic (tau τ) (hO C.k (C.os x)) h h')) q3 hout
def orT(b:List AV->Bool)(T U:WTr):WTr:=λargs h K=>bif b args then T args h K else U args h K
theorem auj{P:Program}{f:FuncId}{b:List AV->Bool}{T U:WTr}(hT: ∀args h K,T args h K->Sp P f args h K)(hU: ∀args h K,U args h K->Sp P f args h K)(args:List AV)(h:Heap)(K:AV->Heap->Prop)(hq:orT b T U args h K):Sp P f args h K:=by
 unfold orT at hq;cases hb:b args with
 |true=>rw[hb]at hq;exact hT _ _ _ hq
 |false=>rw[hb]at hq;exact hU _ _ _ hq
def det(X:Type)(args:X->List AV)(k:Nat)(os:X->List dF)(pre:X->Prop)(ret:X->AV)(m:Nat)(os':X->List dF):Ctr:=
 {X:=X,args:=args,k:=k,os:=os,pre:=pre,outs:=[{Y:=Unit,post:=λ_ _=>True,ret:=λx _=>ret x,m:=m,os:=λx _=>os' x}]}
def eX(k:Nat){X:Type}(x:X)(v:AV)(h':Heap):List (Out X)->Prop
 |[]=>False
 |[o]=> ∃y,o.post x y/\endP k (o.ret x y) (o.os x y) v h'
 |o::r=>(∃y,o.post x y/\endP k (o.ret x y) (o.os x y) v h')\/eX k x v h' r
theorem PV{k:Nat}{X:Type}{x:X}{v:AV}{h':Heap}: ∀{l:List (Out X)},(∀o∈l,∀y,(o.os x y).length=o.m)->eX k x v h' l-> ∃v0 h0,Leq k v h' v0 h0/\kP x v0 h0 l
 |[o],hl,⟨y,h1,h2⟩=>⟨_,_,Kq h2,.inl ⟨y,h1,rfl,by rw[hl o (by simp) y]⟩⟩
 |o::o2::r,hl,hh=>by
  rcases hh with ⟨y,h1,h2⟩|hh
  ·exact⟨_,_,Kq h2,.inl ⟨y,h1,rfl,by rw[hl o (by simp) y]⟩⟩
  ·obtain⟨v0,h0,g1,g2⟩:=PV (l:=o2::r) (λo ho=>hl o (List.mem_cons_of_mem _ ho)) hh
   exact⟨v0,h0,g1,.inr g2⟩
theorem agu{P:Program}{tbl:je}{tt:TT}(hT:tt.ok P)(hm:P.follows .mixedOrders=true)(ht:dZ P tbl){C:Ctr}(an:C.X->FuncId->qL)(fuel d:Nat){f:FuncId}
  (hk: ∀x,(C.os x).length=C.k) (hl: ∀x,∀o∈C.outs,∀y,(o.os x y).length=o.m)
  (hq: ∀x,C.pre x->wpF P tbl tt (an x) fuel d f (C.args x) (hO C.k (C.os x)) (λv h'=>eX C.k x v h' C.outs)):cO P f C:=λx hp=>
 ⟨hk x,Bh ((vC hT hm ht (an x) fuel d f _ _ _ (hq x hp)).mono λv h' hh=>by
  obtain⟨v0,h0,g1,g2⟩:=PV (hl x) hh
  exact⟨v0,h0,g1,g2⟩)⟩
theorem dM{P:Program}{tbl:je}{tt:TT}(hT:tt.ok P)(hm:P.follows .mixedOrders=true)(ht:dZ P tbl){X:Type}{args:X->List AV}{k:Nat}{os:X->List dF}{pre:X->Prop}{ret:X->AV}{m:Nat}{os':X->List dF}
  (an:X->FuncId->qL) (fuel d:Nat) {f:FuncId} (hk: ∀x,(os x).length=k) (hl: ∀x,(os' x).length=m)
  (hq: ∀x,pre x->wpF P tbl tt (an x) fuel d f (args x) (hO k (os x)) (λv h'=>eX k x v h' (det X args k os pre ret m os').outs)):cO P f (det X args k os pre ret m os'):=
 agu hT hm ht (C:=det X args k os pre ret m os') an fuel d hk (λx o ho y=>by
  have ho:=List.mem_singleton.1 ho
  subst ho;exact hl x) hq
theorem ZR{X:Type}{x:X}{o:Out X}{r:List (Out X)}(y:o.Y)(h:o.post x y):kP x (o.ret x y) (hO o.m (o.os x y)) (o::r):= .inl ⟨y,h,rfl,rfl⟩
theorem al5{X:Type}{x:X}{v:AV}{h':Heap}{o:Out X}{r:List (Out X)}(h:kP x v h' r):kP x v h' (o::r):= .inr h
attribute [irreducible] kP
noncomputable def hid{α:Type}(a:α):{b:α//b=a}:=Classical.choice ⟨⟨a,rfl⟩⟩
noncomputable def hide{α:Type}(a:α):α:=(hid a).1
theorem iK{α:Type}(a:α):hide a=a:=(hid a).2
noncomputable def Hd(p:Prop):Prop:=hide p
theorem aZ{p:Prop}:Hd p↔p:=by unfold Hd;rw[iK]
theorem qG{b:Bool}{x y:Prop}:cP b x y↔(b=true->x)/\(b=false->y):=by cases b<;>simp[cP]
theorem bU{p:Unit->Prop}:(∃y,p y)↔p ():=⟨λ⟨_,h⟩=>h,λh=>⟨(),h⟩⟩
theorem bG{p:Unit->Prop}:(∀y,p y)↔p ():=⟨λh=>h (),λh _=>h⟩
def aqW{X:Type}(x:X):List (Out X)->Prop
 |[]=>True
 |o::r=>(∀y,(o.os x y).length=o.m)/\aqW x r
theorem PW{X:Type}{x:X}: ∀{l:List (Out X)},aqW x l-> ∀o∈l,∀y,(o.os x y).length=o.m
 |o::r,h,p,hp,y=>by
  rcases List.mem_cons.1 hp with rfl|hp
  ·exact h.1 y
  ·exact PW h.2 p hp y
theorem iP{P:Program}{tbl:je}{tt:TT}(hT:tt.ok P)(hm:P.follows .mixedOrders=true)(ht:dZ P tbl){C:Ctr}(an:C.X->FuncId->qL)(fuel d:Nat){f:FuncId}
  (hk: ∀x,(C.os x).length=C.k) (hl: ∀x,aqW x C.outs)
  (hq: ∀x,C.pre x->wpF P tbl tt (an x) fuel d f (C.args x) (hO C.k (C.os x)) (λv h'=>eX C.k x v h' C.outs)):cO P f C:=
 agu hT hm ht an fuel d hk (λx=>PW (hl x)) hq
def qM(P:Program)(f:FuncId)(e:Array Value->Sem Value):Prop:= ∃fn,P.funcs[f]? =some fn/\(fn.name== "runtime.NumGoroutine")=false/\fn.body.isNone=true/\Extern.findNext fn=none/\Extern.find fn=some e
noncomputable def agv(a b:ByteArray):Int:=hide (Lib.compareBytes a.data.toList b.data.toList)
theorem nT: ∀a b:List UInt8,(Lib.compareBytes a b<0↔Op.bytesLess a b=true)/\(Lib.compareBytes a b=0↔a=b)
 |[],[]=>by simp[Lib.compareBytes,Op.bytesLess]
 |[],_::_=>by simp[Lib.compareBytes,Op.bytesLess]
 |_::_,[]=>by simp[Lib.compareBytes,Op.bytesLess]
 |a::as,b::bs=>by
  obtain⟨h1,h2⟩:=nT as bs;by_cases hlt:a<b
  ·have:a≠b:=λh=>by subst h;exact absurd hlt (UInt8.lt_irrefl _)
   simp[Lib.compareBytes,Op.bytesLess,hlt,this]
  ·by_cases hgt:b<a
   ·have:a≠b:=λh=>by subst h;exact absurd hgt (UInt8.lt_irrefl _)
    simp[Lib.compareBytes,Op.bytesLess,hlt,hgt,this]
   ·have:a=b:=UInt8.le_antisymm (UInt8.not_lt.1 hgt) (UInt8.not_lt.1 hlt)
    subst this;simp[Lib.compareBytes,Op.bytesLess,hlt,h1,h2]
theorem toList_data(a:ByteArray):a.toList=a.data.toList:=by
 have go: ∀(n i:Nat) (r:List UInt8),a.size-i=n->ByteArray.toList.loop a i r=r.reverse++a.data.toList.drop i:=by
  intro n
  induction n with
  |zero=>
   intro i r h;unfold ByteArray.toList.loop;rw[if_neg (by omega)];have:a.data.toList.length<=i:=by simp;have:a.data.size=a.size:=rfl;omega
   rw[List.drop_eq_nil_of_le this,List.append_nil]
  |succ n ih=>
   intro i r h;unfold ByteArray.toList.loop;have hi:i<a.size:=by omega
   have hi':i<a.data.toList.length:=by simpa using hi
   rw[if_pos hi,ih (i+1) _ (by omega),List.drop_eq_getElem_cons hi'];have:a.get! i=a.data.toList[i]:=by
    simp[ByteArray.get!,getElem!_def,Array.getElem?_eq_getElem (show i<a.data.size from hi)]
   simp[this]
 have:=go a.size 0 [] rfl;simpa[ByteArray.toList]using this
theorem agw(a b:ByteArray):agv a b<0↔Op.bytesLess a.toList b.toList=true:=by
 unfold agv;rw[iK,toList_data,toList_data];exact(nT _ _).1
def cmpX:WTr:=λargs h K=>match args with
 |[.lit (.string a),.lit (.string b)]=>K (.lit (.int .i64 (agv a b))) h
 |_=>False
theorem aqX{P:Program}{f:FuncId}(hf:qM P f Extern.BytealgCompare.compare)(args:List AV)(h:Heap)(K:AV->Heap->Prop)(hq:cmpX args h K):XSp P f args h K:=by
 obtain⟨fn,h1,h2,h3,h4,h5⟩:=hf;unfold cmpX at hq;split at hq
 ·rename_i a b
  intro ρ T w vs hR hl;simp only[dQ,bF]at hl;obtain⟨_,_,hvs,rfl,_,_,rfl,rfl,rfl⟩:=hl;have:vs= #[.string a,.string b]:=by cases vs;simp at hvs;rw[hvs]
  subst this;refine⟨_,_,.int .i64 (agv a b),w,ρ,?_,λ_ _=>rfl,Ren.le_refl _,aY _,hR,by simp only[bF],Keeps.refl _ _,hq⟩;rw[run_callFunc_extern h1 h2 h3 h4 h5,Lib.run_compareString];unfold agv;rw[iK];rfl
 ·exact hq.elim
theorem Rel.agx{h h':Heap}{ρ:Ren}{T:Nat->Prop}{w:World}(hR:Rel h ρ T w){i o:Nat}{v:AV}(hs:setCell h i o v=some h'){a:Loc}(ha:ρ i=some a):w.frozen? ⟨a.blk,a.base+o,none⟩=false:=by
 obtain⟨S,r1,_⟩:=hR;unfold setCell at hs;split at hs
 ·rename_i e c hx
  obtain⟨a',ha',ho⟩:=r1 i _ hx;obtain rfl:a'=a:=Option.some.inj (ha'.symm.trans ha);obtain⟨h0,hS,arr,hb,_⟩:=ho;simp[World.frozen?,hb]
 ·rename_i e c hx
  obtain⟨a',ha',ho⟩:=r1 i _ hx;obtain rfl:a'=a:=Option.some.inj (ha'.symm.trans ha);obtain⟨h0,hS,arr,hb,_⟩:=ho;simp[World.frozen?,hb]
 ·cases hs
def atI(h:Heap)(a:AV)(k:IntKind)(Q:Nat->Nat->Int->Prop):Prop:=match a with
 | .ptr i o=>match cellAt h i o with
  |some (.lit (.int k' x))=>bif decide (k'=k)then Q i o x else False
  |_=>False
 | .nH i q m j=>match h.get i with
  |some ob=>match ob.eP with
   |some (.row m' n g wr)=>bif Nat.beq m 1&&Nat.beq m' 1&&Nat.beq j 0&&fA ob then(q<n/\DL g wr q λl=>match l with
    |[.int k' x]=>bif decide (k'=k)then Q i q x else False
    |_=>False)else False
   |_=>False
  |none=>False
 |_=>False
theorem PX{h:Heap}{ρ:Ren}{T:Nat->Prop}{w:World}(hR:Rel h ρ T w){a:AV}{u:Value}{k:IntKind}{Q:Nat->Nat->Int->Prop}(hq:atI h a k Q)(hu:bF ρ a u):
  ∃i o x b,u= .pointer (some ⟨b.blk,b.base+o,none⟩)/\ρ i=some b/\w.cell? ⟨b.blk,b.base+o,none⟩=some (.int k x)/\Q i o x:=by
 unfold atI at hq;split at hq
 ·rename_i i o
  split at hq
  ·rename_i k' x hc
   by_cases hk:k'=k
   ·subst hk
    simp only[decide_true,aP]at hq;obtain⟨b,hb,y,hy,hr⟩:=hR.cell hc;simp only[bF]at hr hu;obtain⟨b',hb',rfl⟩:=hu;obtain rfl:b'=b:=Option.some.inj (hb'.symm.trans hb);subst hr;exact⟨i,o,x,b',rfl,hb,hy,hq⟩
   ·simp[hk]at hq
  ·exact hq.elim
 ·rename_i i q m j
  split at hq
  ·rename_i ob hi
   split at hq
   ·rename_i m' n g wr hc
    cases hb:(Nat.beq m 1&&Nat.beq m' 1&&Nat.beq j 0&&fA ob)with
    |false=>rw[hb]at hq;exact hq.elim
    |true=>
     rw[hb]at hq;simp only[aP]at hq;simp only[aJ]at hb;have:=au hb.1.1.1;subst this;have:=au hb.1.1.2;subst this;have:=au hb.1.2;subst this;obtain⟨hqn,hq⟩:=hq;have hq:=uK hq;split at hq
     ·rename_i k' x hl
      by_cases hk:k'=k
      ·subst hk
       simp only[decide_true,aP]at hq;have hcell:cellAt h i q=some (.lit (.int k' x)):=by
        simp only[cellAt,hi,hc];have:=qh (m:=1) (g:=g) (wr:=wr) (n:=n) (k:=q) (j:=0) (v:= .int k' x) hqn (by omega) (by rw[hl];rfl);simpa using this
       obtain⟨b,hb2,y,hy,hr⟩:=hR.cell hcell;simp only[bF]at hr hu;obtain⟨b',hb',rfl⟩:=hu;obtain rfl:b'=b:=Option.some.inj (hb'.symm.trans hb2);subst hr;exact⟨i,q,x,b',by simp,hb2,hy,hq⟩
      ·simp[hk]at hq
     ·exact hq.elim
   ·exact hq.elim
  ·exact hq.elim
 ·exact hq.elim
def al6(h:Heap)(i o:Nat)(k:IntKind)(y:Int)(Q:Heap->Prop):Prop:=match setCell h i o (.lit (.int k y))with
 |some h'=>Q h'
 |none=>match h.get i with
  |some ob=>match ob.eP with
   |some (.row m n g wr)=>bif Nat.beq m 1&&fA ob then(o<n/\Q (h.set i (mF ob (.row 1 n g ((o,[.int k y])::wr)))))else False
   |_=>False
  |none=>False
theorem agy{P:Program}{h:Heap}{ρ:Ren}{T:Nat->Prop}{w:World}(hR:Rel h ρ T w){i o n:Nat}{k:IntKind}{y:Int}{b:Loc}{ob:dF}{g:Nat->List Value}{wr:List (Nat×List Value)}
  (hi:h.get i=some ob) (hc:ob.eP=some (.row 1 n g wr)) (hrow:fA ob=true) (ho:o<n) (hb:ρ i=some b):
  w.frozen? ⟨b.blk,b.base+o,none⟩=false/\Rel (h.set i (mF ob (.row 1 n g ((o,[.int k y])::wr)))) ρ T (w.setCell ⟨b.blk,b.base+o,none⟩ (.int k y))/\Keeps T w (w.setCell ⟨b.blk,b.base+o,none⟩ (.int k y)):=by
 obtain⟨w',hrun,hR',hk'⟩:=fH (P:=P) hR (m:=1) (k:=o) (new:= .few [[.int k y]]) (cs:=[.int k y]) (by omega) hi hrow hc hb (by simp only[dJ.len,List.length_cons,List.length_nil];omega) (by simp[dJ.len]) (by simp[Value.oneCell']) (λq z hq=>by
  have hlt:=Cs.dW hq;simp only[Cs.size,dJ.len,List.length_cons,List.length_nil,Nat.mul_one]at hlt;have h0:q=0:=by simpa using hlt
  subst h0;have:(Cs.row 1 (dJ.few [[Value.int k y]]).len (dJ.few [[Value.int k y]]).el []).get 0=some (.lit (.int k y)):=rfl;rw[this]at hq;cases hq
  exact⟨.int k y,by simp,by simp only[bF]⟩)
 rw[Nat.mul_one]at hrun;obtain⟨S,r1,_⟩:=id hR;obtain⟨a',ha',hh⟩:=r1 i _ hi;obtain rfl:a'=b:=Option.some.inj (ha'.symm.trans hb);obtain⟨arr,e,hblk,h0,hsz⟩: ∃arr e,w.heap[a'.blk]? =some (.cells arr e (0,0))/\a'.base=0/\n<=arr.size:=by
  cases ob with
  |cells e c=>simp only[dF.eP,ak]at hc;subst hc;obtain⟨g0,_,arr,g1,g2,_⟩:=hh;exact⟨arr,e,g1,g0,by rw[g2];simp[Cs.size]⟩
  |room e c=>simp only[dF.eP,ak]at hc;subst hc;obtain⟨g0,_,arr,g1,g2,g3,_⟩:=hh;exact⟨arr,e,g1,g0,by rw[g2];simpa[Cs.size]using g3⟩
  |_=>simp[fA]at hrow
 have hfz:w.frozen? ⟨a'.blk,a'.base+o,none⟩=false:=by simp[World.frozen?,hblk]
 have hcell:(w.cell? ⟨a'.blk,a'.base+o,none⟩).isSome=true:=by
  have:a'.base+o<arr.size:=by omega
  simp[World.cell?,hblk,this]
 have hrun2:=run_storeCells_cells (P:=P) a'.blk (a'.base+o) [.int k y] 0 w
  (λj hj=>by
   have:j=0:=by simpa using hj
   subst this;simpa using hcell)
  (λj hj=>by
   have:j=0:=by simpa using hj
   subst this;simpa using hfz) (by simp[Value.oneCell'])
 rw[hrun]at hrun2;have hw:w'=w.setCell ⟨a'.blk,a'.base+o,none⟩ (.int k y):=by
  simp only[Result.ok.injEq,aU,World.setCells,aI]at hrun2;exact hrun2
 subst hw;exact⟨hfz,hR',hk'⟩
theorem oG{P:Program}{h:Heap}{ρ:Ren}{T:Nat->Prop}{w:World}(hR:Rel h ρ T w){i o:Nat}{k:IntKind}{y:Int}{Q:Heap->Prop}{b:Loc}(hq:al6 h i o k y Q)(hb:ρ i=some b):
  ∃h',w.frozen? ⟨b.blk,b.base+o,none⟩=false/\Rel h' ρ T (w.setCell ⟨b.blk,b.base+o,none⟩ (.int k y))/\h'.next=h.next/\Keeps T w (w.setCell ⟨b.blk,b.base+o,none⟩ (.int k y))/\Q h':=by
 unfold al6 at hq;split at hq
 ·rename_i h' hs
  obtain⟨_,h2,h3,h4⟩:=Hz (P:=P) hR hs hb rfl (u:= .int k y) (by simp only[bF]);exact⟨h',hR.agx hs hb,h2,h3,h4,hq⟩
 ·split at hq
  ·rename_i ob hi
   split at hq
   ·rename_i m n g wr hc
    cases hbb:(Nat.beq m 1&&fA ob)with
    |false=>rw[hbb]at hq;exact hq.elim
    |true=>
     rw[hbb]at hq;simp only[aP]at hq;simp only[aJ]at hbb;have:=au hbb.1;subst this;obtain⟨ho,hq⟩:=hq;obtain⟨g1,g2,g3⟩:=agy (P:=P) (y:=y) (k:=k) hR hi hc hbb.2 ho hb;exact⟨_,g1,g2,by simp,g3,hq⟩
   ·exact hq.elim
  ·exact hq.elim
def al7(k:IntKind):WTr:=λargs h K=>match args with
 |[a]=>atI h a k λ_ _ x=>K (.lit (.int k x)) h
 |_=>False
def ZT(k:IntKind):WTr:=λargs h K=>match args with
 |[a,.lit (.int k' y)]=>bif decide (k'=k)then atI h a k λi o _=>al6 h i o k y λh'=>K (.tup []) h' else False
 |_=>False
def addX(k:IntKind):WTr:=λargs h K=>match args with
 |[a,.lit (.int k' y)]=>bif decide (k'=k)then atI h a k λi o x=>arith k (x+y) fun
  | .lit (.int k2 s)=>bif decide (k2=k)then al6 h i o k s λh'=>K (.lit (.int k s)) h' else False
  |_=>False else False
 |_=>False
def casX(k:IntKind):WTr:=λargs h K=>match args with
 |[a,.lit (.int k' x0),.lit (.int k2 y)]=>bif decide (k'=k)&&decide (k2=k)then atI h a k λi o x=>cP (decide (x=x0)) (al6 h i o k y λh'=>K (.lit (.bool true)) h') (al6 h i o k y λ_=>K (.lit (.bool false)) h)else False
 |_=>False
def aqY(k:IntKind):WTr:=λargs h K=>match args with
 |[a,.lit (.int k' y)]=>bif decide (k'=k)then atI h a k λi o x=>al6 h i o k y λh'=>K (.lit (.int k x)) h' else False
 |_=>False
section
variable{P:Program}{f:FuncId}{k:IntKind}(args:List AV)(h:Heap)(K:AV->Heap->Prop)
theorem vs1{vs:Array Value}{a:Value}(h:vs.toList=[a]):vs= #[a]:=by cases vs;simp at h;rw[h]
theorem vs2{vs:Array Value}{a b:Value}(h:vs.toList=[a,b]):vs= #[a,b]:=by cases vs;simp at h;rw[h]
theorem vs3{vs:Array Value}{a b c:Value}(h:vs.toList=[a,b,c]):vs= #[a,b,c]:=by cases vs;simp at h;rw[h]
theorem ZU(hf:qM P f (Extern.Atomic.loadT (.int k)))(hq:al7 k args h K):XSp P f args h K:=by
 obtain⟨fn,h1,h2,h3,h4,h5⟩:=hf;unfold al7 at hq;split at hq
 ·intro ρ T w vs hR hl
  simp only[dQ]at hl;obtain⟨u,_,hvs,hu,rfl⟩:=hl;obtain⟨i,o,x,b,rfl,hb,hc,hq⟩:=PX hR hq hu;rw[vs1 hvs];exact⟨_,_,_,w,ρ,run_call_load h1 h2 h3 h4 k h5 hc,λ_ _=>rfl,Ren.le_refl _,aY _,hR,by simp only[bF],Keeps.refl _ _,hq⟩
 ·exact hq.elim
theorem PY(hf:qM P f Extern.Atomic.storeT)(hq:ZT k args h K):XSp P f args h K:=by
 obtain⟨fn,h1,h2,h3,h4,h5⟩:=hf;unfold ZT at hq;split at hq
 ·rename_i a k' y
  by_cases hk:k'=k
  ·subst hk
   simp only[decide_true,aP]at hq;intro ρ T w vs hR hl;simp only[dQ,bF]at hl;obtain⟨u,_,hvs,hu,_,_,rfl,rfl,rfl⟩:=hl;obtain⟨i,o,x,b,rfl,hb,hc,hq⟩:=PX hR hq hu;obtain⟨h',g1,g2,g3,g4,hq⟩:=oG (P:=P) hR hq hb;rw[vs2 hvs];exact⟨_,_,_,_,ρ,run_call_store h1 h2 h3 h4 h5 hc g1,λ_ _=>rfl,Ren.le_refl _,by omega,g2,by simp only[bF];exact⟨_,rfl,.nil⟩,g4,hq⟩
  ·simp[hk]at hq
 ·exact hq.elim
theorem aqZ(x y:Int)(w:World):(Op.intArith .add k x y).run P w= .ok (.int k (k.wrap (x+y))) w:=by simp[Op.intArith]
theorem agz(hf:qM P f (Extern.Atomic.update (Op.intArith .add) k true))(hq:addX k args h K):XSp P f args h K:=by
 obtain⟨fn,h1,h2,h3,h4,h5⟩:=hf;unfold addX at hq;split at hq
 ·rename_i a k' y
  by_cases hk:k'=k
  ·subst hk
   simp only[decide_true,aP]at hq;intro ρ T w vs hR hl;simp only[dQ,bF]at hl;obtain⟨u,_,hvs,hu,_,_,rfl,rfl,rfl⟩:=hl;obtain⟨i,o,x,b,rfl,hb,hc,hq⟩:=PX hR hq hu;have hq:=CY hq;simp only[decide_true,aP]at hq;obtain⟨h',g1,g2,g3,g4,hq⟩:=oG (P:=P) hR hq hb;rw[vs2 hvs];exact⟨_,_,_,_,ρ,run_call_add h1 h2 h3 h4 k' h5 hc g1 (aqZ _ _ _),λ_ _=>rfl,Ren.le_refl _,by omega,g2,by simp only[bF],g4,hq⟩
  ·simp[hk]at hq
 ·exact hq.elim
theorem aq0(hf:qM P f (Extern.Atomic.casT (.int k)))(hq:casX k args h K):XSp P f args h K:=by
 obtain⟨fn,h1,h2,h3,h4,h5⟩:=hf;unfold casX at hq;split at hq
 ·rename_i a k' x0 k2 y
  cases hkk:(decide (k'=k)&&decide (k2=k))with
  |false=>rw[hkk]at hq;exact hq.elim
  |true=>
   simp only[aJ,decide_eq_true_eq]at hkk;obtain⟨rfl,rfl⟩:=hkk;simp only[decide_true,Bool.and_self,aP]at hq;intro ρ T w vs hR hl;simp only[dQ,bF]at hl;obtain⟨u,_,hvs,hu,_,_,rfl,rfl,_,_,rfl,rfl,rfl⟩:=hl;obtain⟨i,o,x,b,rfl,hb,hc,hq⟩:=PX hR hq hu;rw[vs3 hvs];rcases jE hq with ⟨he,hq2⟩|⟨he,hq2⟩
   ·have he:x=x0:=aS he
    obtain⟨h',g1,g2,g3,g4,hq3⟩:=oG (P:=P) hR hq2 hb;refine⟨.lit (.bool true),h',.bool true,_,ρ,?_,λ_ _=>rfl,Ren.le_refl _,by omega,g2,by simp only[bF],g4,hq3⟩;rw[<-he];exact run_call_cas_hit h1 h2 h3 h4 _ h5 hc g1
   ·have he:=aT he
    obtain⟨h',g1,g2,g3,g4,hq3⟩:=oG (P:=P) hR hq2 hb;exact⟨_,_,_,w,ρ,run_call_cas_miss h1 h2 h3 h4 _ h5 hc g1 he,λ_ _=>rfl,Ren.le_refl _,aY _,hR,by simp only[bF],Keeps.refl _ _,hq3⟩
 ·exact hq.elim
end
theorem Kt{P:Program}{f:FuncId}{fn:Func}(hf:P.funcs[f]? =some fn)(hname:(fn.name== "runtime.NumGoroutine")=false)(hb:fn.body.isNone=true)(hn:Extern.findNext fn=none)(k:IntKind)
  (he:Extern.find fn=some (Extern.Atomic.swapT (.int k))) {a:Addr} {x y:Int} {w:World} (hc:w.cell? a=some (.int k x)) (hz:w.frozen? a=false):
  (callFunc f #[.pointer (some a),.int k y]).run P w= .ok (.value (.int k x)) (w.setCell a (.int k y)):=by
 rw[run_callFunc_extern hf hname hb hn he]
 change (Sem.run P (do
  let a'<-asAddr (.pointer (some a))
  let old<-Extern.Atomic.read (.int k) a'
  store a' (.int k y) .atomic
  pure old) w).andThen _=_
 simp[Extern.Atomic.read,asAddr,viewAt,World.shape?_isSome_of_cell? hc,hc,hz,run_store P w a (.int k y) .atomic rfl,Result.andThen]
theorem al8{P:Program}{f:FuncId}{k:IntKind}(args:List AV)(h:Heap)(K:AV->Heap->Prop)(hf:qM P f (Extern.Atomic.swapT (.int k)))(hq:aqY k args h K):XSp P f args h K:=by
 obtain⟨fn,h1,h2,h3,h4,h5⟩:=hf;unfold aqY at hq;split at hq
 ·rename_i a k' y
  by_cases hk:k'=k
  ·subst hk
   simp only[decide_true,aP]at hq;intro ρ T w vs hR hl;simp only[dQ,bF]at hl;obtain⟨u,_,hvs,hu,_,_,rfl,rfl,rfl⟩:=hl;obtain⟨i,o,x,b,rfl,hb,hc,hq⟩:=PX hR hq hu;obtain⟨h',g1,g2,g3,g4,hq⟩:=oG (P:=P) hR hq hb;rw[vs2 hvs];exact⟨_,_,_,_,ρ,Kt h1 h2 h3 h4 k' h5 hc g1,λ_ _=>rfl,Ren.le_refl _,by omega,g2,by simp only[bF],g4,hq⟩
  ·simp[hk]at hq
 ·exact hq.elim
end Go.Proofs.YtenfleoejgjklaaGreat.SE
end
section
namespace Go.Proofs.YtenfleoejgjklaaGreat.SE
open Go
open Go.ChangeShapes Go.WideShapes Go.ChangeAt Go.RowKit

end Go.Proofs.YtenfleoejgjklaaGreat.SE
end
section
namespace Go.Proofs.YtenfleoejgjklaaGreat.SE
open Go
theorem al9{P:Program}{f:FuncId}{i m n:Nat}{e:TypeId}{g:Nat->List Value}{wr:List (Nat×List Value)}{rest:List AV}{h:Heap}{K:AV->Heap->Prop}(hi:h.get i=some (.room e (.row m n g wr)))
  (H: ∀c,n<=c->Sp P f (.slE i 0 m n c::rest) (h.set i (.room e (.row m c (λq=>bif Nat.blt q n then Cs.eff g wr q else []) []))) K):Sp P f (.slW i 0 m n::rest) h K:=by
 refine⟨(H n (aY _)).1,λρ T w vs hR hl=> ?_⟩;simp only[dQ]at hl;obtain⟨v,vs',hvs,hv,hl⟩:=hl;simp only[bF]at hv;obtain⟨a,p,c,ha,rfl,hnc,hp⟩:=hv;have hR':Rel (h.set i (.room e (.row m c (λq=>bif Nat.blt q n then Cs.eff g wr q else []) []))) ρ T w:=hR.upd hi ha rfl (λ_ _=>rfl) (λS h=>h.2.1) λS hS ho=>by
  obtain⟨h0,_,arr,hb1,GI,DC,hcr⟩:=ho;have hlim:c*m<=a.lim:=by
   rcases Nat.eq_zero_or_pos c with h'|h'
   ·subst h';simp
   ·have:=(hp (by omega)).2;omega
  refine⟨h0,hS,arr,hb1,GI,hlim,λk y hk=> ?_⟩;have hlt:=Cs.dW hk;simp only[Cs.size]at hlt;simp only[Cs.get,bg.2 hlt,aP,Cs.eff]at hk;have hm:0<m:=Nat.pos_of_ne_zero λh0=>by rw[h0]at hlt;simp at hlt
  cases hb:Nat.blt (k/m) n with
  |true=>
   rw[hb]at hk;simp only[aP]at hk;have hkn:k/m<n:=bg.1 hb;have hkm:k<n*m:=by rw[Nat.mul_comm];exact(Nat.div_lt_iff_lt_mul hm).1 hkn|>λh=>by rw[Nat.mul_comm];exact h
   exact hcr k y (by simp only[Cs.get,bg.2 hkm,aP];exact hk)
  |false=>
   rw[hb]at hk;simp only[aQ,List.getElem?_nil]at hk;cases hk;refine⟨arr[k]'(by rw[GI];omega),by rw[aA];exact Array.getElem?_eq_getElem _,by simp only[bF]⟩
 have:=(H c hnc).2 ρ T w vs hR' (by simp only[dQ];exact⟨_,vs',hvs,by simp only[bF];exact⟨a,p,ha,rfl,hnc,λhc=>(hp hc).1⟩,hl⟩);refine this.mono ?_
 rintro e w' ⟨ρ',v,u,h',c1,c2,c3⟩
 exact⟨ρ',v,u,h',λj hj=>c1 j (by simpa using hj),by simpa using c2,c3⟩
theorem ama{i m n c k:Nat}{e:TypeId}{g:Nat->List Value}{wr:List (Nat×List Value)}{h:Heap}(hi:h.get i=some (.room e (.row m c g wr)))(hn:n<=c)(hk:k<=h.next):
  Leq k (.slE i 0 m n c) h (.slW h.next 0 m n) ((h.drop i).push (.room e (.row m n g wr))):=by
 refine⟨by simp;omega,λρ T w u hR hv=> ?_⟩;simp only[bF]at hv;obtain⟨a,p,ha,rfl,hnc,hp⟩:=hv;obtain⟨S,r1,_⟩:=id hR;obtain⟨a',ha',ho⟩:=r1 i _ hi;obtain rfl:a'=a:=Option.some.inj (ha'.symm.trans ha);have DC:c*m<=a'.lim:=by obtain⟨_,_,arr,_,_,DC,_⟩:=ho;exact DC
 have hR':Rel (h.set i (.room e (.row m n g wr))) ρ T w:=hR.upd hi ha rfl (λ_ _=>rfl) (λS h=>h.2.1) λS hS ho=>by
  obtain⟨h0,_,arr,hb1,GI,DC,hcr⟩:=ho;simp only[Cs.size]at DC;have hnm:n*m<=c*m:=Nat.mul_le_mul_right _ hn;refine⟨h0,hS,arr,hb1,GI,by simp only[Cs.size];omega,λk y hk=> ?_⟩;have hlt:=Cs.dW hk;simp only[Cs.size]at hlt;simp only[Cs.get,bg.2 hlt,aP]at hk;exact hcr k y (by simp only[Cs.get,bg.2 (show k<c*m by omega),aP];exact hk)
 obtain⟨ρ',m1,m2,m3,m4⟩:=hR'.move (i:=i) (o:= .room e (.row m n g wr)) (a:=a') (by rw[Heap.dR,if_pos rfl]) ha;refine⟨ρ',λj hj=>m3 j (by simp;omega),?_,?_⟩
 ·refine m4.less (aY _) λj x hj=> ?_
  rw[Heap.fG]at hj ⊢;have hnx:((h.set i (.room e (.row m n g wr))).drop i).next=(h.drop i).next:=by simp
  rw[hnx];split at hj
  ·rename_i hjn;rw[if_pos hjn];exact hj
  ·rename_i hjn
   rw[if_neg hjn,Heap.fD];rw[Heap.fD]at hj;split at hj
   ·cases hj
   ·rename_i hji;rw[if_neg hji,Heap.dR,if_neg hji];exact hj
 ·simp only[bF]
  refine⟨a',p,c,by simpa using m2,rfl,hnc,λhc=>⟨hp hc,by simpa using DC⟩⟩
def aq1:WTr:=λargs h K=>match args with
 |[.sl i _ _ _,.slE j _ _ _ _]=>match h.get i,h.get j with
  |some (.cells _ _),some (.room _ (.row m N _ _))=>bif Nat.beq i j then False else(0<N*m/\K (.lit (.bool false)) h)
  |_,_=>False
 |_=>False
theorem amb{P:Program}{f:FuncId}{tS tR e:TypeId}{size:Nat}(hf:qM P f (Extern.SlicesOverlaps.overlaps #[tS,tS] #[tR]))(ht:P.underlying tS=some (.slice e))(hz: ∀w,(Go.sizeOf e).run P w= .ok size w)
  (args:List AV) (h:Heap) (K:AV->Heap->Prop) (hq:aq1 args h K):XSp P f args h K:=by
 obtain⟨fn,h1,h2,h3,h4,h5⟩:=hf;unfold aq1 at hq;split at hq
 ·rename_i i o n c j q m n' c'
  split at hq
  ·rename_i e1 c1 e2 m2 N g wr hi hj
   cases hb:Nat.beq i j with
   |true=>rw[hb]at hq;exact hq.elim
   |false=>
    rw[hb]at hq;simp only[aQ]at hq;obtain⟨hN,hq⟩:=hq;have hij:i≠j:=λh0=>by subst h0;simp at hb
    intro ρ T w vs hR hl;simp only[dQ,bF]at hl;obtain⟨_,_,hvs,⟨a,ha,rfl⟩,_,_,rfl,⟨b,p,hb',rfl,_,_⟩,rfl⟩:=hl;have:vs= #[.slice (some ⟨a.blk,a.base+o,none⟩) n c,.slice (some ⟨b.blk,p,none⟩) n' c']:=by cases vs;simp at hvs;rw[hvs]
    subst this;obtain⟨S,r1,r2,_⟩:=id hR;obtain⟨a1,ha1,_,hSa,arr1,hb1,_⟩:=r1 i _ hi;obtain rfl:a1=a:=Option.some.inj (ha1.symm.trans ha);obtain⟨a2,ha2,_,hSb,arr2,hb2,hsz2,hlim2,_⟩:=r1 j _ hj;obtain rfl:a2=b:=Option.some.inj (ha2.symm.trans hb');have hne:a1.blk≠a2.blk:=λh0=>r2 i j _ _ a1.blk hi hj hij hSa (by rw[h0];exact hSb)
    simp only[Cs.size]at hlim2;have hov:=Lib.run_overlaps_apart (P:=P) w tS tR e ht size hz ⟨a1.blk,a1.base+o,none⟩ ⟨a2.blk,p,none⟩ n c n' c' hne e1 e2 arr1.size arr2.size (by simp[World.shape?,hb1]) (by simp[World.shape?,hb2]) (by omega) (by simp[World.frozen?,hb1]) (by simp[World.frozen?,hb1]);refine⟨_,_,.bool false,w,ρ,?_,λ_ _=>rfl,Ren.le_refl _,aY _,hR,by simp only[bF],Keeps.refl _ _,hq⟩;rw[run_callFunc_extern h1 h2 h3 h4 h5,hov];rfl
  ·exact hq.elim
 ·exact hq.elim
theorem vU(Φ:Heap->Prop)(ids:List Nat)(h:Heap):(qU Φ ids h).next=h.next:=by simp[qU,zk]
theorem PZ{P:Program}{f:FuncId}{args:List AV}{h:Heap}{K:AV->Heap->Prop}{Φ:Heap->Prop}(m:Nat)(ids:List Nat)(os:List dF)(hm:os.length=m)(h0:Nat.blt 0 m=true)(atX:GN 0 ids m=true)(hΦ:Φ (hO m os))(hfit:DJ (atL ids) m h 0 os)
  (hs:Sp P f args (qU Φ ids h) K):Sp P f args h K:=by
 refine⟨hs.1,λρ T w vs hR hl=> ?_⟩;obtain⟨ρ',e,R',_⟩:=(afj (k:=h.next) (v:= .any) m ids os hm h0 atX (aY _) hΦ hfit).2 ρ T w undef hR (by simp only[bF]);have hρ:ρ'=ρ:=by
  funext i;rcases Nat.lt_or_ge i h.next with hi|hi
  ·exact e i hi
  ·obtain⟨_,_,_,_,g,_⟩:=R'
   obtain⟨_,_,_,_,g',_⟩:=hR;rw[g i (by rw[vU];exact hi),g' i hi]
 subst hρ;refine(hs.2 ρ' T w vs R' hl).mono ?_
 rintro e w' ⟨ρ2,v,u,h',c1,c2,c3⟩
 exact⟨ρ2,v,u,h',λj hj=>c1 j (by rw[vU];exact hj),by rw[<-vU Φ ids h];exact c2,c3⟩
noncomputable def Ce:Own:=hide afm
theorem agA:Ce=afm:=iK _
theorem Rel.agB{h h':Heap}{ρ:Ren}{T:Nat->Prop}{w:World}{i:Nat}{a:Loc}(hR:Rel h ρ T w)(hn:h.next<=h'.next)(ha:ρ i=some a)(hi:h.get i=none)
  (hg: ∀j o,h'.get j=some o->(j=i/\o= .abs Ce)\/h.get j=some o):Rel h' ρ T w:=by
 obtain⟨S,h1,h2,h3,h4,h5⟩:=hR;have hne: ∀j o,h.get j=some o->j≠i:=λj o hj he=>by rw[he,hi]at hj;cases hj
 refine⟨λj b=>j≠i/\S j b,λj o hj=> ?_,λj k x y b hj hk hjk hSj hSk=> ?_,λj o b hj hS=> ?_,λj hj=>h4 j (Nat.le_trans hn hj),h5⟩
 ·rcases hg j o hj with ⟨rfl,rfl⟩|hj
  ·exact⟨a,ha,by rw[agA];trivial⟩
  ·obtain⟨b,hb,ho⟩:=h1 j o hj
   have e:(λb=>j≠i/\S j b)=S j:=by
    funext b;exact propext ⟨λh=>h.2,λh=>⟨hne j o hj,h⟩⟩
   exact⟨b,hb,by show dI ρ w T b (λb=>j≠i/\S j b) o;rw[e];exact ho⟩
 ·rcases hg j x hj with ⟨rfl,_⟩|hj
  ·exact hSj.1 rfl
  ·rcases hg k y hk with ⟨rfl,_⟩|hk
   ·exact hSk.1 rfl
   ·exact h2 j k x y b hj hk hjk hSj.2 hSk.2
 ·rcases hg j o hj with ⟨rfl,_⟩|hj
  ·exact(hS.1 rfl).elim
  ·exact h3 j o b hj hS.2
theorem amc{k:Nat}{o0 o:dF}{rest:List dF}(hk:rest.length+1=k){ρ:Ren}{T:Nat->Prop}{w:World}{a:Loc}(ha:ρ 0=some a)(hR:Rel (((hO k (o0::rest)).drop 0).push o) ρ T w):
  Rel (hO (k+1) (.abs Ce::(rest++[o]))) ρ T w:=by
 have hlen:(dF.abs Ce::(rest++[o])).length=k+1:=by simp;omega
 have hnx:((hO k (o0::rest)).drop 0).next=k:=by simp;rfl
 refine Rel.agB hR (by simp;exact aY _) ha ?_ λj x hj=> ?_
 ·rw[Heap.fG,hnx,if_neg (by omega),Heap.fD,if_pos rfl]
 ·rw[jq hlen]at hj
  rw[Heap.fG,hnx,Heap.fD]
  match j,hj with
  |0,hj=>simp at hj;exact .inl ⟨rfl,hj.symm⟩
  |j+1,hj=>
   refine .inr ?_;simp only[List.getElem?_cons_succ]at hj;by_cases hjk:j+1=k
   ·rw[if_pos hjk]
    rw[List.getElem?_append_right (by omega),show j-rest.length=0 by omega]at hj;simpa using hj
   ·rw[if_neg hjk,if_neg (by omega),jq (by simp;omega)]
    have hjl:j<rest.length:=by
     have:=(List.getElem?_eq_some_iff.1 hj).1;simp at this;omega
    rw[List.getElem?_append_left hjl]at hj;simpa using hj
theorem P5{k m n c:Nat}{e:TypeId}{g:Nat->List Value}{wr:List (Nat×List Value)}{rest:List dF}(hk:rest.length+1=k)(hn:n<=c):
  Leq k (.slE 0 0 m n c) (hO k (.room e (.row m c g wr)::rest)) (.slW k 0 m n) (hO (k+1) (.abs Ce::(rest++[.room e (.row m n g wr)]))):=by
 have hi:(hO k (dF.room e (.row m c g wr)::rest)).get 0=some (.room e (.row m c g wr)):=by rw[jq (by simp;omega)];rfl
 have hnx:(hO k (dF.room e (.row m c g wr)::rest)).next=k:=rfl;refine⟨Nat.le_succ k,λρ T w u hR hv=> ?_⟩;obtain⟨ρ',h1,h2,h3⟩:=(ama (k:=k) hi hn (Nat.le_of_eq hnx.symm)).2 ρ T w u hR hv;rw[hnx]at h3;obtain⟨S,r1,_⟩:=id hR;obtain⟨a,ha,_⟩:=r1 0 _ hi;exact⟨ρ',h1,amc hk ((h1 0 (by omega)).trans ha) h2,h3⟩
theorem amd{k m:Nat}{v:AV}{o0:dF}{rest:List dF}(hk:rest.length+1=m)(hkm:k<=m):Leq k v (hO m (o0::rest)) v (hO m (.abs Ce::rest)):=by
 refine⟨hkm,λρ T w u hR hv=>⟨ρ,λ_ _=>rfl,?_,hv⟩⟩;have hi:(hO m (o0::rest)).get 0=some o0:=by rw[jq (by simp;omega)];rfl
 obtain⟨S,r1,_⟩:=id hR;obtain⟨a,ha,_⟩:=r1 0 _ hi;refine Rel.agB (h:=(hO m (o0::rest)).drop 0) (hR.less (by simp) λj x hj=> ?_) (by simp;exact aY _) ha (by rw[Heap.fD,if_pos rfl]) λj x hj=> ?_
 ·rw[Heap.fD]at hj
  split at hj
  ·cases hj
  ·exact hj
 ·rw[jq (by simp;omega)]at hj
  match j,hj with
  |0,hj=>simp at hj;exact .inl ⟨rfl,hj.symm⟩
  |j+1,hj=>
   refine .inr ?_;rw[Heap.fD,if_neg (by omega),jq (by simp;omega)];simpa using hj
theorem aq2{P:Program}{f:FuncId}{args:List AV}{h h':Heap}{K:AV->Heap->Prop}(hn:h.next=h'.next)(hg: ∀j o,h.get j=some o->h'.get j=some o)(hs:Sp P f args h K):Sp P f args h' K:=
 ⟨hs.1,λρ T w vs hR hl=>(hs.2 ρ T w vs (hR.less (Nat.le_of_eq hn.symm) hg) hl).mono λe w' ⟨ρ',v,u,h2,c1,c2,c3⟩=>⟨ρ',v,u,h2,λj hj=>c1 j (by rw[hn];exact hj),by rw[<-hn];exact c2,c3⟩⟩
theorem P6{P:Program}{f:FuncId}{k m n:Nat}{e:TypeId}{g:Nat->List Value}{wr:List (Nat×List Value)}{rest:List AV}{os:List dF}{K:AV->Heap->Prop}(hk:os.length+1=k)
  (H: ∀c,n<=c->Sp P f (.slE 0 0 m n c::rest) (hO k (.room e (.row m c (λq=>bif Nat.blt q n then Cs.eff g wr q else []) [])::os)) K):Sp P f (.slW 0 0 m n::rest) (hO k (.room e (.row m n g wr)::os)) K:=by
 have hl: ∀o:dF,(o::os).length=k:=λo=>by simp;omega
 refine al9 (i:=0) (e:=e) (g:=g) (wr:=wr) (by rw[jq (hl _)];rfl) λc hc=>aq2 (by simp;rfl) (λj o hj=> ?_) (H c hc)
 rw[jq (hl _)]at hj;rw[Heap.dR]
 match j,hj with
 |0,hj=>simpa using hj
 |j+1,hj=>rw[if_neg (by omega),jq (hl _)];exact hj
theorem uP{k m:Nat}{v:AV}{os os':List dF}(hl:os.length=m)(hl':os'.length=m)(hk:k<=m)(h: ∀(i:Nat) (o o':dF),os[i]? =some o->os'[i]? =some o'-> ∀ρ w T a S,dI ρ w T a S o->dI ρ w T a S o'):Leq k v (hO m os) v (hO m os'):=by
 refine⟨hk,λρ T w u hR hv=>⟨ρ,λ_ _=>rfl,?_,hv⟩⟩;obtain⟨S,h1,h2,h3,h4,h5⟩:=hR;have back: ∀i o',(hO m os').get i=some o'-> ∃o,os[i]? =some o/\os'[i]? =some o':=λi o' hi=>by
  rw[jq hl']at hi;have:i<os.length:=by rw[hl,<-hl'];exact(List.getElem?_eq_some_iff.1 hi).1
  exact⟨os[i],List.getElem?_eq_getElem this,hi⟩
 refine⟨S,λi o hi=> ?_,λi j o o' b hi hj hij=> ?_,λi o b hi hS=> ?_,λi hi=>h4 i hi,h5⟩
 ·obtain⟨o1,g1,g2⟩:=back i o hi
  obtain⟨a,ha,ho⟩:=h1 i o1 (by rw[jq hl];exact g1);exact⟨a,ha,h i o1 o g1 g2 _ _ _ _ _ ho⟩
 ·obtain⟨o1,g1,_⟩:=back i o hi
  obtain⟨o2,g2,_⟩:=back j o' hj;exact h2 i j o1 o2 b (by rw[jq hl];exact g1) (by rw[jq hl];exact g2) hij
 ·obtain⟨o1,g1,_⟩:=back i o hi
  exact h3 i o1 b (by rw[jq hl];exact g1) hS
theorem En{m n:Nat}{e:TypeId}{g g':Nat->List Value}(h: ∀q,q<n->g q=g' q)(ρ:Ren)(w:World)(T:Nat->Prop)(a:Loc)(S:Nat->Prop)(ho:dI ρ w T a S (.room e (.row m n g []))):dI ρ w T a S (.room e (.row m n g' [])):=by
 obtain⟨h0,hS,arr,hb1,GI,DC,hcr⟩:=ho;refine⟨h0,hS,arr,hb1,GI,DC,λk y hk=>hcr k y ?_⟩;have hlt:=Cs.dW hk;simp only[Cs.size]at hlt;have hq:k/m<n:=Nat.div_lt_of_lt_mul (by rw[Nat.mul_comm];exact hlt);simp only[Cs.get,bg.2 hlt,aP,Cs.eff]at hk ⊢;rw[h _ hq];exact hk
def auk(os:List dF):Own:=O8 (λh=>h=hOf os)
noncomputable def ownM(os:List dF):Own:=hide (auk os)
theorem rC(os:List dF):ownM os=auk os:=iK _
inductive PO where
 |m (os:List dF)
 |o (ob:dF)
namespace PO
noncomputable def ab:PO->dF
 |m os=> .abs (ownM os)
 |o ob=>ob
def more:PO->Nat
 |m os=>os.length-1
 |o _=>0
def good(n:Nat):PO->Bool
 |m os=> !os.isEmpty&&os.all (λx=>oW os.length x&& !jX x)
 |o ob=>oW n ob
end PO
def exs:List PO->Nat->Nat
 |_,0=>0
 |[],_+1=>0
 |p::r,j+1=>p.more+exs r j
def phi(n e j i:Nat):Nat:=bif Nat.beq i 0 then j else n+e+(i-1)
noncomputable def mP(n:Nat):Nat->Nat->List PO->List dF
 |_,_,[]=>[]
 |j,e,.m (x::os)::r=>omap (phi n e j) x::mP n (j+1) (e+os.length) r
 |j,e,.m []::r=> .abs (ownM [])::mP n (j+1) e r
 |j,e,.o ob::r=>ob::mP n (j+1) e r
def Bo(n:Nat):Nat->Nat->List PO->List dF
 |_,_,[]=>[]
 |j,e,.m (_::os)::r=>os.map (omap (phi n e j))++Bo n (j+1) (e+os.length) r
 |j,e,.m []::r=>Bo n (j+1) e r
 |j,e,.o _::r=>Bo n (j+1) e r
noncomputable def flatP(n:Nat)(l:List PO):List dF:=mP n 0 0 l++Bo n 0 0 l
theorem Dh: ∀{l:List PO} {j:Nat} {p:PO},l[j]? =some p->exs l (j+1)=exs l j+p.more
 |[],j,p,h=>by simp at h
 |q::r,0,p,h=>by simp at h;subst h;simp[exs]
 |q::r,j+1,p,h=>by
  have:=Dh (l:=r) (j:=j) (p:=p) (by simpa using h);simp only[exs]at this ⊢;omega
theorem ZV{l:List PO}: ∀{i j:Nat},i<=j->j<=l.length->exs l i<=exs l j:=by
 intro i j h hj
 induction h with
 |refl=>exact aY _
 | @step j h ih=>
  have:=ih (by omega);have h2:=Dh (l:=l) (j:=j) (p:=l[j]) (List.getElem?_eq_getElem (by omega));show exs l i<=exs l (j+1);omega
theorem agC{l:List PO}{j j' i i':Nat}{os os':List dF}(hj:l[j]? =some (.m os))(hj':l[j']? =some (.m os'))(hi:i+1<os.length)(hi':i'+1<os'.length)(h:exs l j+i=exs l j'+i'):j=j'/\i=i':=by
 have s:=Dh hj;have s':=Dh hj';simp only[PO.more]at s s';have l1:=(List.getElem?_eq_some_iff.1 hj).1;have l2:=(List.getElem?_eq_some_iff.1 hj').1;rcases Nat.lt_trichotomy j j' with hlt|he|hlt
 ·have:=ZV (l:=l) (i:=j+1) (j:=j') hlt (by omega)
  omega
 ·subst he;exact⟨rfl,by omega⟩
 ·have:=ZV (l:=l) (i:=j'+1) (j:=j) hlt (by omega)
  omega
noncomputable def agD(n e j:Nat):PO->dF
 | .m (x::_)=>omap (phi n e j) x
 | .m []=> .abs (ownM [])
 | .o ob=>ob
theorem pF(n:Nat): ∀(l:List PO) (j e k:Nat),(mP n j e l)[k]? =(l[k]?).map (agD n (e+exs l k) (j+k))
 |[],j,e,k=>by simp[mP]
 |p::r,j,e,0=>by
  cases p with
  |m os=>cases os<;>simp[mP,agD,exs]
  |o ob=>simp[mP,agD]
 |p::r,j,e,k+1=>by
  cases p with
  |m os=>
   cases os with
   |nil=>simp only[mP,List.getElem?_cons_succ,pF n r,exs,PO.more,List.length_nil];congr 2<;>omega
   |cons x os=>simp only[mP,List.getElem?_cons_succ,pF n r,exs,PO.more,List.length_cons];congr 2<;>omega
  |o ob=>simp only[mP,List.getElem?_cons_succ,pF n r,exs,PO.more];congr 2<;>omega
theorem gJ(n:Nat): ∀(l:List PO) (j e:Nat),(mP n j e l).length=l.length
 |[],_,_=>rfl
 | .m []::r,j,e=>by simp[mP,gJ n r]
 | .m (_::_)::r,j,e=>by simp[mP,gJ n r]
 | .o _::r,j,e=>by simp[mP,gJ n r]
theorem uQ(n:Nat): ∀(l:List PO) (j e k:Nat) (x:dF),(Bo n j e l)[k]? =some x↔ ∃t os i,l[t]? =some (.m os)/\i+1<os.length/\k=exs l t+i/\ ∃y,os[i+1]? =some y/\x=omap (phi n (e+exs l t) (j+t)) y
 |[],j,e,k,x=>by simp[Bo]
 |p::r,j,e,k,x=>by
  have skip: ∀(e2:Nat) (hp:p.more=0) (he:e2=e),((Bo n (j+1) e2 r)[k]? =some x↔ ∃t os i,(p::r)[t]? =some (.m os)/\i+1<os.length/\k=exs (p::r) t+i/\ ∃y,os[i+1]? =some y/\x=omap (phi n (e+exs (p::r) t) (j+t)) y):=by
   intro e2 hp he;subst he;rw[uQ n r];constructor
   ·rintro ⟨t,os,i,h1,h2,h3,y,h4,h5⟩
    refine⟨t+1,os,i,by simpa using h1,h2,by simp only[exs,hp];omega,y,h4,?_⟩;rw[h5];simp only[exs,hp];congr 2<;>omega
   ·rintro ⟨t,os,i,h1,h2,h3,y,h4,h5⟩
    cases t with
    |zero=>
     simp at h1;subst h1;simp only[PO.more]at hp;omega
    |succ t=>
     refine⟨t,os,i,by simpa using h1,h2,by simp only[exs,hp]at h3;omega,y,h4,?_⟩;rw[h5];simp only[exs,hp];congr 2<;>omega
  cases p with
  |o ob=>exact skip e rfl rfl
  |m os=>
   cases os with
   |nil=>exact skip e rfl rfl
   |cons z os=>
    simp only[Bo];rcases Nat.lt_or_ge k os.length with hk|hk
    ·rw[List.getElem?_append_left (by simpa using hk)]
     constructor
     ·intro h
      rw[List.getElem?_map]at h;cases hy:os[k]? with
      |none=>rw[hy]at h;cases h
      |some y=>
       rw[hy]at h;cases h;exact⟨0,z::os,k,rfl,by simpa using hk,by simp[exs],y,by simpa using hy,by simp[exs]⟩
     ·rintro ⟨t,os',i,h1,h2,h3,y,h4,h5⟩
      cases t with
      |zero=>
       simp at h1;subst h1;simp only[exs,aA]at h3;subst h3;rw[List.getElem?_map];simp only[List.getElem?_cons_succ]at h4;rw[h4,h5];simp[exs]
      |succ t=>simp only[exs,PO.more,List.length_cons]at h3;omega
    ·rw[List.getElem?_append_right (by simpa using hk),List.length_map,uQ n r]
     constructor
     ·rintro ⟨t,os',i,h1,h2,h3,y,h4,h5⟩
      refine⟨t+1,os',i,by simpa using h1,h2,by simp only[exs,PO.more,List.length_cons];omega,y,h4,?_⟩;rw[h5];simp only[exs,PO.more,List.length_cons];congr 2<;>omega
     ·rintro ⟨t,os',i,h1,h2,h3,y,h4,h5⟩
      cases t with
      |zero=>
       simp at h1;subst h1;simp only[exs,aA]at h3;simp only[List.length_cons]at h2;omega
      |succ t=>
       refine⟨t,os',i,by simpa using h1,h2,by simp only[exs,PO.more,List.length_cons]at h3;omega,y,h4,?_⟩;rw[h5];simp only[exs,PO.more,List.length_cons];congr 2<;>omega
theorem rD{l:List PO}{q:Nat}{x:dF}(h:(flatP l.length l)[q]? =some x):
  (q<l.length/\ ∃p,l[q]? =some p/\x=agD l.length (exs l q) q p)\/ ∃t os i y,l[t]? =some (.m os)/\i+1<os.length/\q=l.length+exs l t+i/\os[i+1]? =some y/\x=omap (phi l.length (exs l t) t) y:=by
 unfold flatP at h;rcases Nat.lt_or_ge q l.length with hq|hq
 ·rw[List.getElem?_append_left (by rw[gJ];exact hq),pF,aA,aA,List.getElem?_eq_getElem hq]at h
  simp only[Option.map_some,ak]at h;exact .inl ⟨hq,l[q],List.getElem?_eq_getElem hq,h.symm⟩
 ·rw[List.getElem?_append_right (by rw[gJ];exact hq),gJ,uQ]at h
  obtain⟨t,os,i,h1,h2,h3,y,h4,h5⟩:=h;refine .inr ⟨t,os,i,y,h1,h2,by omega,h4,?_⟩;rw[h5,aA,aA]
theorem zC{l:List PO}{j:Nat}{p:PO}(h:l[j]? =some p):(flatP l.length l)[j]? =some (agD l.length (exs l j) j p):=by
 have hj:=(List.getElem?_eq_some_iff.1 h).1;unfold flatP;rw[List.getElem?_append_left (by rw[gJ];exact hj),pF,aA,aA,h];rfl
theorem II{l:List PO}{t i:Nat}{os:List dF}{y:dF}(h:l[t]? =some (.m os))(hy:os[i+1]? =some y):(flatP l.length l)[l.length+exs l t+i]? =some (omap (phi l.length (exs l t) t) y):=by
 unfold flatP;rw[List.getElem?_append_right (by rw[gJ];omega),gJ,uQ];exact⟨t,os,i,h,(List.getElem?_eq_some_iff.1 hy).1,by omega,y,hy,by rw[aA,aA]⟩
theorem ql(n e j:Nat):phi n e j 0=j:=rfl
theorem lU(n e j i:Nat):phi n e j (i+1)=n+e+i:=rfl
theorem ame{l:List PO}{t i:Nat}{os:List dF}{y:dF}(h:l[t]? =some (.m os))(hy:os[i]? =some y):(flatP l.length l)[phi l.length (exs l t) t i]? =some (omap (phi l.length (exs l t) t) y):=by
 cases i with
 |zero=>
  rw[ql,zC h];cases os with
  |nil=>simp at hy
  |cons z r=>simp at hy;subst hy;rfl
 |succ i=>rw[lU];exact II h hy
theorem Rel.Ku{l:List PO}(hg:l.all (PO.good l.length)=true){ρ:Ren}{T:Nat->Prop}{w:World}(hR:Rel (hOf (l.map PO.ab)) ρ T w):
  ∃ρ',(∀j,j<l.length->ρ' j=ρ j)/\ρ.le ρ'/\Rel (hOf (flatP l.length l)) ρ' T w:=by
 obtain⟨S,h1,h2,h3,h4,h5⟩:=hR;have get: ∀j p,l[j]? =some p->(hOf (l.map PO.ab)).get j=some p.ab:=λj p h=>by rw[dX,List.getElem?_map,h];rfl
 have dat: ∀j,∃X:Ren×(Nat->Nat->Prop),∀os,l[j]? =some (.m os)->X.1 0=ρ j/\(∀i o,os[i]? =some o-> ∃a,X.1 i=some a/\dI X.1 w (S j) a (X.2 i) o)/\
   (∀i i' o o' b,os[i]? =some o->os[i']? =some o'->i≠i'->X.2 i b->X.2 i' b->False)/\(∀i o b,os[i]? =some o->X.2 i b->S j b/\b<w.heap.size)/\ ∀i,os.length<=i->X.1 i=none:=by
  intro j;by_cases h: ∃os,l[j]? =some (.m os)
  ·obtain⟨os,h⟩:=h
   obtain⟨a,ha,hh⟩:=h1 j _ (get j _ h);rw[show(PO.m os).ab= .abs (ownM os) from rfl,rC]at hh;obtain⟨h0,ρ0,rfl,hn0,hro,ha0,S0,r1,r2,r3,r4⟩:=hh;refine⟨(ρ0,S0),λos' h'=> ?_⟩;rw[h]at h';cases h';exact⟨ha0.trans ha.symm,λi o hi=>r1 i o (by rw[dX];exact hi),λi i' o o' b hi hi'=>r2 i i' o o' b (by rw[dX];exact hi) (by rw[dX];exact hi'),λi o b hi=>r3 i o b (by rw[dX];exact hi),λi hi=>r4 i hi⟩
  ·exact⟨(ρ,S),λos h'=>(h ⟨os,h'⟩).elim⟩
 obtain⟨X,hX⟩:=Classical.axiomOfChoice dat
 let at_ (q:Nat) (z:Nat×Nat):Prop:= ∃os,l[z.1]? =some (.m os)/\z.2+1<os.length/\q=l.length+exs l z.1+z.2
 have wit: ∀q,∃z:Nat×Nat,(∃z',at_ q z')->at_ q z:=λq=>by
  by_cases h: ∃z',at_ q z'
  ·obtain⟨z,hz⟩:=h;exact⟨z,λ_=>hz⟩
  ·exact⟨(0,0),λh'=>(h h').elim⟩
 obtain⟨Z,hZ⟩:=Classical.axiomOfChoice wit;have uniq: ∀q z z',at_ q z->at_ q z'->z=z':=by
  rintro q ⟨t,i⟩ ⟨t',i'⟩ ⟨os,a1,a2,a3⟩ ⟨os',b1,b2,b3⟩
  obtain⟨e1,e2⟩:=agC a1 b1 a2 b2 (by omega);simp only at e1 e2;subst e1;subst e2;rfl
 have zat: ∀{t i:Nat} {os:List dF},l[t]? =some (.m os)->i+1<os.length->Z (l.length+exs l t+i)=(t,i):=λ{t i os} h hi=>
  uniq _ _ _ (hZ _ ⟨(t,i),os,h,hi,rfl⟩) ⟨os,h,hi,rfl⟩
 let isM (q:Nat):Prop:= ∃os,l[q]? =some (.m os)
 classical
 let ρ':Ren:=λq=>if q<l.length then ρ q else if∃z',at_ q z' then(X (Z q).1).1 ((Z q).2+1)else none
 let S':Nat->Nat->Prop:=λq=>if q<l.length then(if isM q then(X q).2 0 else S q)else(X (Z q).1).2 ((Z q).2+1)
 have hlt: ∀{j p},l[j]? =some p->j<l.length:=λh=>(List.getElem?_eq_some_iff.1 h).1
 have emb: ∀{t:Nat} {os:List dF},l[t]? =some (.m os)-> ∀i a,(X t).1 i=some a->ρ' (phi l.length (exs l t) t i)=some a:=by
  intro t os h i a ha;cases i with
  |zero=>rw[ql];simp only[ρ',if_pos (hlt h)];rw[<-(hX t os h).1];exact ha
  |succ i=>
   have hi:i+1<os.length:=by
    rcases Nat.lt_or_ge (i+1) os.length with h'|h'
    ·exact h'
    ·rw[(hX t os h).2.2.2.2 _ h']at ha;cases ha
   rw[lU];simp only[ρ',if_neg (show¬l.length+exs l t+i<l.length by omega)];rw[if_pos ⟨(t,i),os,h,hi,rfl⟩,zat h hi];exact ha
 have hle:ρ.le ρ':=λq a ha=>by
  have hq:q<l.length:=by
   rcases Nat.lt_or_ge q l.length with h'|h'
   ·exact h'
   ·rw[h4 q (by rw[nR,List.length_map];exact h')]at ha;cases ha
  simp only[ρ',if_pos hq];exact ha
 have own: ∀q x,(flatP l.length l)[q]? =some x-> ∃j,j<l.length/\ ∀b,S' q b->S j b/\b<w.heap.size:=by
  intro q x hx;rcases rD hx with ⟨hq,p,hp,_⟩|⟨t,os,i,y,ht,hi,rfl,hy,_⟩
  ·refine⟨q,hq,λb hb=> ?_⟩
   simp only[S',if_pos hq]at hb;by_cases hm:isM q
   ·obtain⟨os,hos⟩:=hm
    rw[if_pos ⟨os,hos⟩]at hb;have:0<os.length:=by
     have:=List.all_eq_true.1 hg _ (List.mem_of_getElem? hos);simp only[PO.good,aJ,Bool.not_eq_true',List.isEmpty_eq_false_iff]at this;exact List.length_pos_iff.2 this.1
    exact(hX q os hos).2.2.2.1 0 _ b (List.getElem?_eq_getElem this) hb
   ·rw[if_neg hm]at hb
    exact⟨hb,(h3 q _ b (get q p hp) hb).2⟩
  ·refine⟨t,hlt ht,λb hb=> ?_⟩
   simp only[S',if_neg (show¬l.length+exs l t+i<l.length by omega),zat ht hi]at hb;exact(hX t os ht).2.2.2.1 (i+1) y b hy hb
 refine⟨ρ',λj hj=>by simp only[ρ',if_pos hj],hle,S',λq x hx=> ?_,λq q' x x' b hx hx' hqq hS hS'=> ?_,λq x b hx hS=> ?_,λq hq=> ?_,h5⟩
 ·rw[dX]at hx
  rcases rD hx with ⟨hq,p,hp,rfl⟩|⟨t,os,i,y,ht,hi,rfl,hy,rfl⟩
  ·cases p with
   |o ob=>
    obtain⟨a,ha,hh⟩:=h1 q _ (get q _ hp);refine⟨a,hle _ _ ha,?_⟩;have hm: ¬isM q:=λ⟨os,h⟩=>by rw[hp]at h;cases h
    simp only[S',if_pos hq,if_neg hm];exact hh.mono hle
   |m os=>
    have hgd:=List.all_eq_true.1 hg _ (List.mem_of_getElem? hp);cases os with
    |nil=>simp[PO.good]at hgd
    |cons z r=>
     obtain⟨a,ha,hh⟩:=(hX q _ hp).2.1 0 z rfl;have e0:=emb hp 0 a ha;rw[ql]at e0;refine⟨a,e0,?_⟩;simp only[S',if_pos hq,if_pos (show isM q from ⟨_,hp⟩)];simp only[PO.good,aJ,List.all_eq_true,Bool.not_eq_true']at hgd;exact(hh.JI (T':=T) (hgd.2 z (by simp)).2).omap (emb hp)
  ·have hgd:=List.all_eq_true.1 hg _ (List.mem_of_getElem? ht)
   simp only[PO.good,aJ,List.all_eq_true,Bool.not_eq_true']at hgd;obtain⟨a,ha,hh⟩:=(hX t _ ht).2.1 (i+1) y hy;have e0:=emb ht (i+1) a ha;rw[lU]at e0;refine⟨a,e0,?_⟩;simp only[S',if_neg (show¬l.length+exs l t+i<l.length by omega),zat ht hi];have hr:=(hgd.2 y (List.mem_of_getElem? hy)).2;exact(hh.JI (T':=T) hr).omap (emb ht)
 ·rw[dX]at hx hx'
  obtain⟨j,hj,hb⟩:=own q x hx;obtain⟨j',hj',hb'⟩:=own q' x' hx';have hSj:=(hb b hS).1;have hSj':=(hb' b hS').1;by_cases hjj:j=j'
  ·--both of one module
   rcases rD hx with ⟨hq,p,hp,_⟩|⟨t,os,i,y,ht,hi,rfl,hy,_⟩
   ·rcases rD hx' with ⟨hq',p',hp',_⟩|⟨t',os',i',y',ht',hi',rfl,hy',_⟩
    ·simp only[S',if_pos hq]at hS
     simp only[S',if_pos hq']at hS';have a1:S q b:=by
      by_cases hm:isM q
      ·obtain⟨os,hos⟩:=hm
       rw[if_pos ⟨os,hos⟩]at hS;have:0<os.length:=by
        have:=List.all_eq_true.1 hg _ (List.mem_of_getElem? hos);simp only[PO.good,aJ,Bool.not_eq_true',List.isEmpty_eq_false_iff]at this;exact List.length_pos_iff.2 this.1
       exact((hX q os hos).2.2.2.1 0 _ b (List.getElem?_eq_getElem this) hS).1
      ·rw[if_neg hm]at hS;exact hS
     have a2:S q' b:=by
      by_cases hm:isM q'
      ·obtain⟨os,hos⟩:=hm
       rw[if_pos ⟨os,hos⟩]at hS';have:0<os.length:=by
        have:=List.all_eq_true.1 hg _ (List.mem_of_getElem? hos);simp only[PO.good,aJ,Bool.not_eq_true',List.isEmpty_eq_false_iff]at this;exact List.length_pos_iff.2 this.1
       exact((hX q' os hos).2.2.2.1 0 _ b (List.getElem?_eq_getElem this) hS').1
      ·rw[if_neg hm]at hS';exact hS'
     exact h2 q q' _ _ b (get q p hp) (get q' p' hp') hqq a1 a2
    ·simp only[S',if_pos hq]at hS
     simp only[S',if_neg (show¬l.length+exs l t'+i'<l.length by omega),zat ht' hi']at hS';have a2:=((hX t' os' ht').2.2.2.1 (i'+1) y' b hy' hS').1;by_cases hm:isM q
     ·obtain⟨os,hos⟩:=hm
      rw[if_pos ⟨os,hos⟩]at hS;have h0:0<os.length:=by
       have:=List.all_eq_true.1 hg _ (List.mem_of_getElem? hos);simp only[PO.good,aJ,Bool.not_eq_true',List.isEmpty_eq_false_iff]at this;exact List.length_pos_iff.2 this.1
      have a1:=((hX q os hos).2.2.2.1 0 _ b (List.getElem?_eq_getElem h0) hS).1;by_cases hqt:q=t'
      ·subst hqt
       rw[hos]at ht';cases ht';exact(hX q _ hos).2.2.1 0 (i'+1) _ _ b (List.getElem?_eq_getElem h0) hy' (by omega) hS hS'
      ·exact h2 q t' _ _ b (get q _ hos) (get t' _ ht') hqt a1 a2
     ·rw[if_neg hm]at hS
      exact h2 q t' _ _ b (get q p hp) (get t' _ ht') (λe=>hm ⟨os',by rw[e];exact ht'⟩) hS a2
   ·simp only[S',if_neg (show¬l.length+exs l t+i<l.length by omega),zat ht hi]at hS
    have a1:=((hX t os ht).2.2.2.1 (i+1) y b hy hS).1;rcases rD hx' with ⟨hq',p',hp',_⟩|⟨t',os',i',y',ht',hi',rfl,hy',_⟩
    ·simp only[S',if_pos hq']at hS'
     by_cases hm:isM q'
     ·obtain⟨os',atp⟩:=hm
      rw[if_pos ⟨os',atp⟩]at hS';have h0:0<os'.length:=by
       have:=List.all_eq_true.1 hg _ (List.mem_of_getElem? atp);simp only[PO.good,aJ,Bool.not_eq_true',List.isEmpty_eq_false_iff]at this;exact List.length_pos_iff.2 this.1
      have a2:=((hX q' os' atp).2.2.2.1 0 _ b (List.getElem?_eq_getElem h0) hS').1;by_cases hqt:q'=t
      ·subst hqt
       rw[atp]at ht;cases ht;exact(hX q' _ atp).2.2.1 0 (i+1) _ _ b (List.getElem?_eq_getElem h0) hy (by omega) hS' hS
      ·exact h2 q' t _ _ b (get q' _ atp) (get t _ ht) hqt a2 a1
     ·rw[if_neg hm]at hS'
      exact h2 q' t _ _ b (get q' p' hp') (get t _ ht) (λe=>hm ⟨os,by rw[e];exact ht⟩) hS' a1
    ·simp only[S',if_neg (show¬l.length+exs l t'+i'<l.length by omega),zat ht' hi']at hS'
     have a2:=((hX t' os' ht').2.2.2.1 (i'+1) y' b hy' hS').1;by_cases htt:t=t'
     ·subst htt
      rw[ht]at ht';cases ht';exact(hX t os ht).2.2.1 (i+1) (i'+1) _ _ b hy hy' (λe=>hqq (by omega)) hS hS'
     ·exact h2 t t' _ _ b (get t _ ht) (get t' _ ht') htt a1 a2
  ·obtain⟨p,hp⟩: ∃p,l[j]? =some p:=⟨l[j],List.getElem?_eq_getElem hj⟩
   obtain⟨p',hp'⟩: ∃p,l[j']? =some p:=⟨l[j'],List.getElem?_eq_getElem hj'⟩;exact h2 j j' _ _ b (get j p hp) (get j' p' hp') hjj hSj hSj'
 ·rw[dX]at hx
  obtain⟨j,hj,hb⟩:=own q x hx;obtain⟨p,hp⟩: ∃p,l[j]? =some p:=⟨l[j],List.getElem?_eq_getElem hj⟩;exact⟨(h3 j _ b (get j p hp) (hb b hS).1).1,(hb b hS).2⟩
 ·have hn: ¬ ∃z',at_ q z':=by
   rintro ⟨⟨t,i⟩,os,a1,a2,rfl⟩
   have:=II a1 (List.getElem?_eq_getElem a2);have:=(List.getElem?_eq_some_iff.1 this).1;rw[nR]at hq;omega
  have hq': ¬q<l.length:=by
   rw[nR]at hq;unfold flatP at hq;rw[List.length_append,gJ]at hq;omega
  simp only[ρ',if_neg hq',if_neg hn]
theorem Kv{n:Nat}{ρ ρ0:Ren}(h: ∀i,i<n->ρ0 i=ρ i){v:AV}{u:Value}(hb:dN n v=true)(hv:bF ρ v u):bF ρ0 v u:=
 bF.Ur (τ:=id) (ρ':=ρ) (n:=n) h v u hb (by rw[J6.J7];exact hv)
theorem Kw{n:Nat}{ρ ρ0:Ren}(h: ∀i,i<n->ρ0 i=ρ i){c:Cs}(hb:jQ n c=true){arr:Array Value}{b:Nat}(hc:fF ρ c arr b):fF ρ0 c arr b:=
 λk v hk=>let ⟨u,hu,hr⟩:=hc k v hk;⟨u,hu,Kv h (zi hb hk) hr⟩
theorem agE{n:Nat}{ρ ρ0:Ren}(h: ∀i,i<n->ρ0 i=ρ i): ∀{xs:List (AV×AV×Nat)} {es:List MapEntry},(xs.all λx=>dN n x.1&&dN n x.2.1)=true->kM ρ xs es->kM ρ0 xs es
 |[],_,_,hm=>hm
 |x::xs,_,hb,⟨e,es',he,h1,h2,h3,h4⟩=>by
  simp only[List.all_cons,aJ]at hb;exact⟨e,es',he,Kv h hb.1.1 h1,Kv h hb.1.2 h2,h3,agE h (by simpa using hb.2) h4⟩
theorem agF{n:Nat}{ρ ρ0:Ren}(h: ∀i,i<n->ρ0 i=ρ i){o:dF}(hb:oW n o=true){w:World}{T:Nat->Prop}{a:Loc}{S:Nat->Prop}(ho:dI ρ w T a S o):dI ρ0 w T a S o:=by
 cases o with
 |cells e c=>obtain⟨h0,hS,arr,h1,h2,h3,h4⟩:=ho;exact⟨h0,hS,arr,h1,h2,h3,Kw h hb h4⟩
 |room e c=>obtain⟨h0,hS,arr,h1,h2,h3,h4⟩:=ho;exact⟨h0,hS,arr,h1,h2,h3,Kw h hb h4⟩
 |iC z e c=>
  rcases ho with h0|⟨hz,h0,hS,arr,h1,h2,h3,h4⟩
  ·exact .inl h0
  ·exact .inr ⟨hz,h0,hS,arr,h1,h2,h3,Kw h hb h4⟩
 |nK m=>exact ho
 |ro c=>
  rcases ho with h0|⟨hT,arr,e,f,h1,h2⟩
  ·exact .inl h0
  ·exact .inr ⟨hT,arr,e,f,h1,Kw h hb h2⟩
 |map es k=>obtain⟨hS,arr,h1,h2⟩:=ho;exact⟨hS,arr,h1,agE h hb h2⟩
 |abs A=>exact ho
 |iter m since seen st=>
  obtain⟨h0,hS,mb,h1,h2⟩:=ho;refine⟨h0,hS,mb,?_,h2⟩;cases m with
  |none=>exact h1
  |some i=>obtain⟨b,hb2,hm⟩:=h1;exact⟨b,(h i (bg.1 hb)).trans hb2,hm⟩
theorem Rel.closeAll{l:List PO}(hg:l.all (PO.good l.length)=true){ρ:Ren}{T:Nat->Prop}{w:World}(hR:Rel (hOf (flatP l.length l)) ρ T w):
  Rel (hOf (l.map PO.ab)) (λj=>if j<l.length then ρ j else none) T w:=by
 obtain⟨S,h1,h2,h3,h4,h5⟩:=hR;have hlt: ∀{j p},l[j]? =some p->j<l.length:=λh=>(List.getElem?_eq_some_iff.1 h).1
 have gt: ∀{t i:Nat} {os:List dF} {y:dF},l[t]? =some (.m os)->os[i]? =some y->(hOf (flatP l.length l)).get (phi l.length (exs l t) t i)=some (omap (phi l.length (exs l t) t) y):=λh hy=>by rw[dX];exact ame h hy
 have inj: ∀{t t' i i':Nat} {os os':List dF},l[t]? =some (.m os)->l[t']? =some (.m os')->i<os.length->i'<os'.length->phi l.length (exs l t) t i=phi l.length (exs l t') t' i'->t=t'/\i=i':=by
  intro t t' i i' os os' h h' hi hi' e;have a1:=hlt h;have a2:=hlt h';cases i with
  |zero=>
   cases i' with
   |zero=>exact⟨e,rfl⟩
   |succ i'=>rw[ql,lU]at e;omega
  |succ i=>
   cases i' with
   |zero=>rw[ql,lU]at e;omega
   |succ i'=>
    rw[lU,lU]at e;obtain⟨e1,e2⟩:=agC h h' hi hi' (by omega);exact⟨e1,by omega⟩
 let S':Nat->Nat->Prop:=λj b=>(∃os i,l[j]? =some (.m os)/\i<os.length/\S (phi l.length (exs l j) j i) b)\/((∃ob,l[j]? =some (.o ob))/\S j b)
 have src: ∀j b,S' j b-> ∃q x,(hOf (flatP l.length l)).get q=some x/\S q b/\((∃os i,l[j]? =some (.m os)/\i<os.length/\q=phi l.length (exs l j) j i)\/((∃ob,l[j]? =some (.o ob))/\q=j)):=by
  rintro j b (⟨os,i,h,hi,hS⟩|⟨⟨ob,h⟩,hS⟩)
  ·exact⟨_,_,gt h (List.getElem?_eq_getElem hi),hS,.inl ⟨os,i,h,hi,rfl⟩⟩
  ·exact⟨j,_,by rw[dX];exact zC h,hS,.inr ⟨⟨ob,h⟩,rfl⟩⟩
 refine⟨S',λj x hx=> ?_,λj j' x x' b hx hx' hjj hS hS'=> ?_,λj x b hx hS=> ?_,λj hj=> ?_,h5⟩
 ·rw[dX,List.getElem?_map]at hx
  cases hp:l[j]? with
  |none=>rw[hp]at hx;cases hx
  |some p=>
   rw[hp]at hx;simp only[Option.map_some,ak]at hx;subst hx;have hj:=hlt hp;have hgd:=List.all_eq_true.1 hg _ (List.mem_of_getElem? hp);cases p with
   |o ob=>
    obtain⟨a,ha,hh⟩:=h1 j _ (by rw[dX];exact zC hp);refine⟨a,by simp only[if_pos hj,ha],?_⟩;have he:S' j=S j:=by
     funext b;apply propext;constructor
     ·rintro (⟨os,i,h,_⟩|⟨_,h⟩)
      ·rw[hp]at h;cases h
      ·exact h
     ·intro h;exact .inr ⟨⟨ob,hp⟩,h⟩
    rw[he];exact agF (n:=l.length) (λi hi=>by simp only[if_pos hi]) hgd hh
   |m os=>
    simp only[PO.good,aJ,List.all_eq_true,Bool.not_eq_true',List.isEmpty_eq_false_iff]at hgd;have hpos:0<os.length:=List.length_pos_iff.2 hgd.1;obtain⟨a,ha,_⟩:=h1 _ _ (gt hp (List.getElem?_eq_getElem hpos));rw[ql]at ha;rw[show(PO.m os).ab= .abs (ownM os) from rfl,rC];refine⟨a,by simp only[if_pos hj,ha],hOf os,λi=>if i<os.length then ρ (phi l.length (exs l j) j i)else none,rfl,hpos,λi o hi=> ?_,by simp only[if_pos hpos,ql,ha],λi=>S (phi l.length (exs l j) j i),λi o hi=> ?_,λi i' o o' b hi hi' hii hb hb'=> ?_,λi o b hi hb=> ?_,λi hi=> ?_⟩
    ·rw[dX]at hi;exact(hgd.2 o (List.mem_of_getElem? hi)).2
    ·rw[dX]at hi
     have hil:=(List.getElem?_eq_some_iff.1 hi).1;obtain⟨b,hb,hh⟩:=h1 _ _ (gt hp hi);refine⟨b,by simp only[if_pos hil,hb],?_⟩;have hr:=(hgd.2 o (List.mem_of_getElem? hi)).2;exact(dI.atP (n:=os.length) (λi hi=>by simp only[if_pos hi]) (hgd.2 o (List.mem_of_getElem? hi)).1 hh).JI hr
    ·rw[dX]at hi hi'
     exact h2 _ _ _ _ b (gt hp hi) (gt hp hi') (λe=>hii (inj hp hp (List.getElem?_eq_some_iff.1 hi).1 (List.getElem?_eq_some_iff.1 hi').1 e).2) hb hb'
    ·rw[dX]at hi
     exact⟨.inl ⟨os,i,hp,(List.getElem?_eq_some_iff.1 hi).1,hb⟩,(h3 _ _ b (gt hp hi) hb).2⟩
    ·have: ¬i<os.length:=by rw[nR]at hi;omega
     simp only[if_neg this]
 ·obtain⟨q,y,hq,hSq,c⟩:=src j b hS
  obtain⟨q',y',hq',hSq',c'⟩:=src j' b hS';refine h2 q q' y y' b hq hq' (λe=> ?_) hSq hSq';rcases c with ⟨os,i,h,hi,rfl⟩|⟨⟨ob,h⟩,rfl⟩
  ·rcases c' with ⟨os',i',h',hi',rfl⟩|⟨⟨ob',h'⟩,rfl⟩
   ·exact hjj (inj h h' hi hi' e).1
   ·cases i with
    |zero=>exact hjj e
    |succ i=>rw[lU]at e;have:=hlt h';omega
  ·rcases c' with ⟨os',i',h',hi',rfl⟩|⟨⟨ob',h'⟩,rfl⟩
   ·cases i' with
    |zero=>exact hjj e
    |succ i'=>rw[lU]at e;have:=hlt h;omega
   ·exact hjj e
 ·obtain⟨q,y,hq,hSq,_⟩:=src j b hS
  exact h3 q y b hq hSq
 ·rw[nR,List.length_map]at hj
  simp only[if_neg (show¬j<l.length by omega)]
structure acs (X:Type) where
 Y:Type
 post:X->Y->Prop
 ret:X->Y->AV
 m:Nat
 l:X->Y->List PO
noncomputable def acs.out{X:Type}(o:acs X):Out X:={Y:=o.Y,post:=o.post,ret:=o.ret,m:=o.m,os:=λx y=>(o.l x y).map PO.ab}
structure iW where
 X:Type
 args:X->List AV
 k:Nat
 l:X->List PO
 pre:X->Prop
 outs:List (acs X)
noncomputable def iW.ctr(C:iW):Ctr:={X:=C.X,args:=C.args,k:=C.k,os:=λx=>(C.l x).map PO.ab,pre:=C.pre,outs:=C.outs.map acs.out}
def agG(k:Nat)(m:Nat)(v0:AV)(l:List PO)(v:AV)(h:Heap):Prop:=
 bif l.all (PO.good m)&&Nat.beq l.length m&&dN m v0&&Nat.ble k m then endP k v0 (flatP m l) v h else False
theorem P7{k m:Nat}{v0:AV}{l:List PO}{v:AV}{h:Heap}(hf:agG k m v0 l v h):Leq k v h v0 (hO m (l.map PO.ab))/\l.length=m:=by
 unfold agG at hf;cases hb:(l.all (PO.good m)&&Nat.beq l.length m&&dN m v0&&Nat.ble k m)with
 |false=>rw[hb]at hf;exact hf.elim
 |true=>
  rw[hb]at hf;simp only[aP]at hf;simp only[aJ,Nat.ble_eq]at hb;obtain⟨⟨⟨b1,b2⟩,b3⟩,b4⟩:=hb;have:=au b2;subst this;have h1:=Kq hf;refine⟨h1.trans ⟨b4,λρ T w u hR hv=>⟨λj=>if j<l.length then ρ j else none,λi hi=>if_pos (Nat.lt_of_lt_of_le hi b4),?_,Kv (n:=l.length) (λi hi=>by simp only[if_pos hi]) b3 hv⟩⟩,rfl⟩;have:=hR.closeAll b1;rw[hOf,List.length_map]at this;exact this
def endsPK(k:Nat){X:Type}(x:X)(v:AV)(h':Heap):List (acs X)->Prop
 |[]=>False
 |[o]=> ∃y,o.post x y/\agG k o.m (o.ret x y) (o.l x y) v h'
 |o::r=>(∃y,o.post x y/\agG k o.m (o.ret x y) (o.l x y) v h')\/endsPK k x v h' r
theorem zD{k:Nat}{X:Type}{x:X}{v:AV}{h':Heap}: ∀{l:List (acs X)},endsPK k x v h' l-> ∃v0 h0,Leq k v h' v0 h0/\kP x v0 h0 (l.map acs.out)
 |[o],⟨y,h1,h2⟩=>⟨_,_,(P7 h2).1,ZR (o:=o.out) y h1⟩
 |o::o2::r,hh=>by
  rcases hh with ⟨y,h1,h2⟩|hh
  ·exact⟨_,_,(P7 h2).1,ZR (o:=o.out) y h1⟩
  ·obtain⟨v0,h0,g1,g2⟩:=zD (l:=o2::r) hh
   exact⟨v0,h0,g1,al5 g2⟩
theorem dh{P:Program}{tbl:je}{tt:TT}(hT:tt.ok P)(hm:P.follows .mixedOrders=true)(ht:dZ P tbl){C:iW}(N:Nat)(an:C.X->FuncId->qL)(fuel d:Nat){f:FuncId}
  (hk: ∀x,(C.l x).length=C.k/\(flatP C.k (C.l x)).length=N/\(C.l x).all (PO.good C.k)=true/\gU C.k (C.args x)=true)
  (hq: ∀x,C.pre x->wpF P tbl tt (an x) fuel d f (C.args x) (hO N (flatP C.k (C.l x))) (λv h'=>endsPK C.k x v h' C.outs)):cO P f C.ctr:=λx hp=>by
 obtain⟨h1,h2,h3,h4⟩:=hk x;refine⟨by simp only[iW.ctr,List.length_map];exact h1,?_⟩;have hs:=vC hT hm ht (an x) fuel d f _ _ _ (hq x hp);rw[<-h2,<-h1]at hs;refine⟨hs.1,λρ T w vs hR hl=> ?_⟩;have hR0:Rel (hOf ((C.l x).map PO.ab)) ρ T w:=by rw[hOf,List.length_map,h1];exact hR
 obtain⟨ρ',r1,r2,r3⟩:=Rel.Ku (by rw[h1];exact h3) hR0;refine(hs.2 ρ' T w vs r3 (dQ.mono r2 _ _ hl)).mono ?_
 rintro e w' ⟨ρ2,v,u,h',c1,c2,c3,c4,c5,c6,c7⟩
 obtain⟨v0,h0,g1,g2⟩:=zD c7;obtain⟨ρ3,q1,q2,q3⟩:=g1.2 ρ2 T w' u c3 c4;refine⟨ρ3,v0,u,h0,λj hj=> ?_,?_,q2,q3,c5,c6,g2⟩
 ·have hj':j<C.k:=hj
  have hle:C.k<=(flatP C.k (C.l x)).length:=by unfold flatP;rw[List.length_append,gJ,h1];omega
  rw[q1 j (by rw[h1];exact hj'),c1 j (by show j<(flatP _ _).length;rw[h1];omega),r1 j (by rw[h1];exact hj')]
 ·have:=g1.1;rw[h1]at this;exact this
attribute [irreducible] agG
end Go.Proofs.YtenfleoejgjklaaGreat.SE
end
